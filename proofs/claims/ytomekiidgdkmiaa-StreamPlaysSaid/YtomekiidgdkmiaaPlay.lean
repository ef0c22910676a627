/-
  The law's play: one call by a stream and by the document's, which are alike.
-/
import Derived.Test.YtomekiidgdkmiaaDuo2
import Derived.Test.YtomekiidgdkmiaaCase14
namespace Go.Proofs.Ytomekiidgdkmiaa
open Go.RowKit
set_option linter.unusedVariables false
set_option linter.unusedSimpArgs false

theorem Keeps.of_below' {F : Nat → Prop} {w w' : World} (hb : Below w.heap.size w w') : Keeps F w w' := Keeps.of_below hb F (fun i hi h2 => by omega)
theorem putE_samp {next : Int} {ea : Bool} {hold n t k x : Int} {s : StV} (h : sampE ea hold n = 0) : putE next ea (sampO next ea hold n t k x) = 0 ∧ (sampO next ea hold n t k x) = ⟨next, 1, t, k, x⟩ := by
  unfold sampE at h
  unfold sampO
  cases ea
  · rw [if_neg (show ¬ (false = true) by decide)] at h ⊢
    by_cases h2 : hold ≤ n
    · rw [if_pos h2] at h; omega
    · rw [if_neg h2]
      refine ⟨?_, rfl⟩
      unfold putE
      simp
  · rw [if_pos rfl] at h; omega
theorem putE_mark {next : Int} {ea : Bool} {t : Int} (h : markE ea = 0) : putE next ea (markO next ea t) = 0 ∧ markO next ea t = ⟨next, 2, t, 0, 0⟩ := by
  unfold markE at h
  unfold markO
  cases ea
  · rw [if_neg (show ¬ (false = true) by decide)]
    refine ⟨?_, rfl⟩
    unfold putE
    simp
  · rw [if_pos rfl] at h; omega

/-- what a play ends with -/
def PlayEnd (F : Nat → Prop) (a b : Nat) (s : StV) (r : RfV) (w : World) (e : Ending) (w' : World) : Prop :=
  e = .returned (.bool true) ∧ (∃ s' r', Duo F w' a s' b r' ∧ Sim s' r' ∧ r'.ops.length ≤ r.ops.length + 1 ∧ s'.next ≤ s.next + 1) ∧ Keeps F w w'
theorem PlayEnd.same {F : Nat → Prop} {a b : Nat} {s : StV} {r : RfV} {w w' : World} (h : Duo F w a s b r) (hs : Sim s r) (hb : Below w.heap.size w w') : PlayEnd F a b s r w (.returned (.bool true)) w' :=
  ⟨rfl, ⟨s, r, h.below hb, hs, by omega, by omega⟩, Keeps.of_below' hb⟩
theorem putR_len (r : RfV) (o : OpV) : (putR r o).ops.length ≤ r.ops.length + 1 := by
  unfold putR; split
  · show (r.ops ++ [o]).length ≤ _; simp
  · omega
theorem putS_next (s : StV) (o : OpV) : (putS s o).next ≤ s.next + 1 := by
  unfold putS; split
  · split
    · exact Int.le_refl (s.next + 1)
    · exact Int.le_refl (s.next + 1)
  · omega

/-- a put of what both made -/
theorem both_put {F : Nat → Prop} {w : World} {a b : Nat} {s : StV} {r : RfV} (o : OpV) (h : Duo F w a s b r) (hs : Sim s r) (hF : ∀ i, w.heap.size ≤ i → F i) (ho : I64 o.time) (ho2 : I64 o.key) (hn2 : s.next ≤ 3000000000000000000) (hol : r.ops.length ≤ 2000000000000) (he : putE s.next (s.early o.time) o = 0) :
    Calls Try.prog 13 #[.pointer (some ⟨a, 0, none⟩), .agg #[.int .i64 o.seq, .int .i64 o.kind, .int .i64 o.time, .int .i64 o.key, .int .i64 o.val]] w
      fun e w' => e = .returned .nilIface ∧ Duo F w' a (putS s o) b r ∧ Keeps F w w' := by
  have hsl : s.samples.length ≤ 2000000000000 := by rw [← hs.he]; exact Nat.le_trans (heldK_le _ _ _) hol
  have q := put_d h hF o (by omega) hsl ho
  rw [he] at q
  exact q
theorem both_rput {F : Nat → Prop} {w : World} {a b : Nat} {s s1 : StV} {r : RfV} (o : OpV) (h : Duo F w a s1 b r) (hs : Sim s r) (hF : ∀ i, w.heap.size ≤ i → F i) (ho : I64 o.time) (ho2 : I64 o.key) (hn2 : s.next ≤ 3000000000000000000) (hol : r.ops.length ≤ 2000000000000) (he : putE s.next (s.early o.time) o = 0) :
    Calls Try.prog 50 #[.pointer (some ⟨b, 0, none⟩), .agg #[.int .i64 o.seq, .int .i64 o.kind, .int .i64 o.time, .int .i64 o.key, .int .i64 o.val]] w
      fun e w' => e = .returned (.int .i64 0) ∧ Duo F w' a s1 b (putR r o) ∧ Keeps F w w' := by
  have q := rput_d h hF o (by rw [hs.nx]; omega) hol ho ho2
  rw [hs.nx, hs.early, he] at q
  exact q

set_option maxHeartbeats 2000000 in
set_option maxRecDepth 100000 in
theorem play_sample {F : Nat → Prop} {w : World} {a b : Nat} {s : StV} {r : RfV} (o : ScV) (h : Duo F w a s b r) (hs : Sim s r) (hF : ∀ i, w.heap.size ≤ i → F i) (ho : o.okIn w) (hoF : ∀ g off, o.pA = some ⟨g, off, none⟩ → 0 < o.pn → ¬ F g) (hn2 : s.next ≤ 3000000000000000000) (hol : r.ops.length ≤ 2000000000000) (hk : o.kind = 0) :
    Calls Try.prog 26 #[.pointer (some ⟨a, 0, none⟩), .pointer (some ⟨b, 0, none⟩), .agg #[.int .i64 o.kind, .int .i64 o.time, .int .i64 o.key, .int .i64 o.val, .int .i64 o.op.seq, .int .i64 o.op.kind, .int .i64 o.op.time, .int .i64 o.op.key, .int .i64 o.op.val, .slice o.pA o.pn o.pc]] w (PlayEnd F a b s r w) := by
  have HD := Lib.hid h
  have HSIM := Lib.hid hs
  have HN1 := Lib.hid h.sok.n1
  have hE : Hid (sampE (s.early o.time) s.hold s.samples.length = 0 → putE s.next (s.early o.time) (sampO s.next (s.early o.time) s.hold s.samples.length o.time o.key o.val) = 0 ∧ sampO s.next (s.early o.time) s.hold s.samples.length o.time o.key o.val = ⟨s.next, 1, o.time, o.key, o.val⟩) := fun h => putE_samp (s := s) h
  have HS : Hid (∀ w1, Below w.heap.size w w1 → Calls Try.prog 12 #[.pointer (some ⟨a, 0, none⟩), .int .i64 o.time, .int .i64 o.key, .int .i64 o.val] w1
      fun e w' => e = .returned (.tuple #[(sampO s.next (s.early o.time) s.hold s.samples.length o.time o.key o.val).agg, errV (sampE (s.early o.time) s.hold s.samples.length)]) ∧ Below w1.heap.size w1 w') := fun w1 hb => sample_d (h.below hb) o.time o.key o.val
  have HRS : Hid (∀ w1, Below w.heap.size w w1 → Calls Try.prog 48 #[.pointer (some ⟨b, 0, none⟩), .int .i64 o.time, .int .i64 o.key, .int .i64 o.val] w1
      fun e w' => e = .returned (.tuple #[(sampO s.next (s.early o.time) s.hold s.samples.length o.time o.key o.val).agg, .int .i64 (sampE (s.early o.time) s.hold s.samples.length)]) ∧ Below w1.heap.size w1 w') := by
    intro w1 hb
    have q := rsample_d (h.below hb) o.time o.key o.val
    rw [hs.nx, hs.early, hs.ho, hs.he] at q
    exact q
  have HOT := Lib.hid (And.intro ho.time ho.key)
  have HF := Lib.hid hF
  generalize sampO s.next (s.early o.time) s.hold s.samples.length o.time o.key o.val = y at *
  generalize sampE (s.early o.time) s.hold s.samples.length = f at *
  unfold OpV.agg at HS HRS
  have k0 : (o.kind == 0) = true := by simp [hk]
  have k1 : (o.kind == 1) = false := by simp [hk]
  have g1 : (f != f) = false := by simp
  have x0 := box_cell w #[.int .i64 o.kind, .int .i64 o.time, .int .i64 o.key, .int .i64 o.val, .int .i64 o.op.seq, .int .i64 o.op.kind, .int .i64 o.op.time, .int .i64 o.op.key, .int .i64 o.op.val, .slice o.pA o.pn o.pc] 36 (0, 0) 0 _ rfl
  clear h hs hF ho hoF hk
  by_cases hf : f = 0
  · have g2 : (f != 0) = false := by simp [hf]
    have HE := Lib.hid (hE.out hf)
    clear hE hf
    go_enter Try.func26, Try.ntmps26
    go_wp2_with (first | (go_at_call 12; refine (HS.out _ (below_alloc w _)).mono ?_; rintro e w1 ⟨rfl, hb1⟩; have X1 := Lib.hid ((hb1.block w.heap.size (by simp)).trans (heap_alloc_new w (.cells #[.int .i64 o.kind, .int .i64 o.time, .int .i64 o.key, .int .i64 o.val, .int .i64 o.op.seq, .int .i64 o.op.kind, .int .i64 o.op.time, .int .i64 o.op.key, .int .i64 o.op.val, .slice o.pA o.pn o.pc] 36))); have HB1 := Lib.hid ((below_alloc w (.cells #[.int .i64 o.kind, .int .i64 o.time, .int .i64 o.key, .int .i64 o.val, .int .i64 o.op.seq, .int .i64 o.op.kind, .int .i64 o.op.time, .int .i64 o.op.key, .int .i64 o.op.val, .slice o.pA o.pn o.pc] 36)).trans (hb1.mono (by simp))); have b1 := cell_lt (blk_cell X1.out 0 _ rfl); clear hb1; have x0' : ∀ ob, (w1.alloc ob).cell? ⟨w.heap.size, 0, none⟩ = some (.int .i64 o.kind) := fun ob => alloc_old (o := ob) (blk_cell X1.out 0 _ rfl); have x1' : ∀ ob, (w1.alloc ob).cell? ⟨w.heap.size, 1, none⟩ = some (.int .i64 o.time) := fun ob => alloc_old (o := ob) (blk_cell X1.out 1 _ rfl); have x2' : ∀ ob, (w1.alloc ob).cell? ⟨w.heap.size, 2, none⟩ = some (.int .i64 o.key) := fun ob => alloc_old (o := ob) (blk_cell X1.out 2 _ rfl); have x3' : ∀ ob, (w1.alloc ob).cell? ⟨w.heap.size, 3, none⟩ = some (.int .i64 o.val) := fun ob => alloc_old (o := ob) (blk_cell X1.out 3 _ rfl)) | (go_at_call 48; refine (HRS.out _ (HB1.out.alloc HB1.out.size _)).mono ?_; rintro e w2 ⟨rfl, hb2⟩; have HB2 := Lib.hid ((HB1.out.alloc HB1.out.size (.cells #[.int .i64 y.seq, .int .i64 y.kind, .int .i64 y.time, .int .i64 y.key, .int .i64 y.val] 34)).trans (hb2.mono (HB1.out.alloc HB1.out.size _).size)); have X2 := Lib.hid ((hb2.block w.heap.size (by simp; omega)).trans ((Below.heap_alloc w1 _ _ b1).trans X1.out)); have Z2 := Lib.hid ((hb2.block w1.heap.size (by simp)).trans (heap_alloc_new w1 (.cells #[.int .i64 y.seq, .int .i64 y.kind, .int .i64 y.time, .int .i64 y.key, .int .i64 y.val] 34))); clear hb2; have y0' : ∀ ob, (w2.alloc ob).cell? ⟨w.heap.size, 0, none⟩ = some (.int .i64 o.kind) := fun ob => alloc_old (o := ob) (blk_cell X2.out 0 _ rfl); have y1' : ∀ ob, (w2.alloc ob).cell? ⟨w.heap.size, 1, none⟩ = some (.int .i64 o.time) := fun ob => alloc_old (o := ob) (blk_cell X2.out 1 _ rfl); have z0' : ∀ ob, (w2.alloc ob).cell? ⟨w1.heap.size, 0, none⟩ = some (.int .i64 y.seq) := fun ob => alloc_old (o := ob) (blk_cell Z2.out 0 _ rfl); have z1' : ∀ ob, (w2.alloc ob).cell? ⟨w1.heap.size, 1, none⟩ = some (.int .i64 y.kind) := fun ob => alloc_old (o := ob) (blk_cell Z2.out 1 _ rfl); have z2' : ∀ ob, (w2.alloc ob).cell? ⟨w1.heap.size, 2, none⟩ = some (.int .i64 y.time) := fun ob => alloc_old (o := ob) (blk_cell Z2.out 2 _ rfl); have z3' : ∀ ob, (w2.alloc ob).cell? ⟨w1.heap.size, 3, none⟩ = some (.int .i64 y.key) := fun ob => alloc_old (o := ob) (blk_cell Z2.out 3 _ rfl); have z4' : ∀ ob, (w2.alloc ob).cell? ⟨w1.heap.size, 4, none⟩ = some (.int .i64 y.val) := fun ob => alloc_old (o := ob) (blk_cell Z2.out 4 _ rfl)) | (go_at_call 24; refine (num_any f _).mono ?_; rintro e w3 ⟨rfl, rfl⟩))
    have HB : Hid (Below w.heap.size w (w2.alloc (.cells #[.int .i64 y.seq, .int .i64 y.kind, .int .i64 y.time, .int .i64 y.key, .int .i64 y.val] 34))) := HB2.out.alloc HB2.out.size _
    have HD2 : Hid (Duo (fun k => F k ∧ k ≠ w2.heap.size) (w2.alloc (.cells #[.int .i64 y.seq, .int .i64 y.kind, .int .i64 y.time, .int .i64 y.key, .int .i64 y.val] 34)) a s b r) := ((HD.out.below HB2.out).mono (fun k hk h => ⟨h, (by omega)⟩)).below (below_alloc w2 _)
    have HX := Lib.hid (heap_alloc_new w2 (.cells #[.int .i64 y.seq, .int .i64 y.kind, .int .i64 y.time, .int .i64 y.key, .int .i64 y.val] 34))
    have hlw : w2.heap.size < (w2.alloc (.cells #[.int .i64 y.seq, .int .i64 y.kind, .int .i64 y.time, .int .i64 y.key, .int .i64 y.val] 34)).heap.size := by simp
    have hbs := HB.out.size
    have hy := HE.out.2
    have ot : I64 y.time := by rw [hy]; exact HOT.out.1
    have ok : I64 y.key := by rw [hy]; exact HOT.out.2
    have hF1 : ∀ W : World, w2.heap.size < W.heap.size → ∀ i, W.heap.size ≤ i → F i ∧ i ≠ w2.heap.size := fun W h i hi => ⟨HF.out i (by have := HB2.out.size; omega), by omega⟩
    have HF1 := Lib.hid hF1
    have HOT2 := Lib.hid (And.intro ot ok)
    have HE2 : Hid (putE s.next (s.early y.time) y = 0) := by show _; rw [show y.time = o.time by rw [hy]]; exact HE.out.1
    clear ot ok hy hF1
    (with_reducible refine (both_put y HD2.out HSIM.out (HF1.out _ hlw) HOT2.out.1 HOT2.out.2 hn2 hol HE2.out).mono ?_)
    rintro e w3 ⟨rfl, hd3, hk3⟩
    have X3 := Lib.hid ((hk3.block w2.heap.size hlw (fun h => h.2 rfl)).trans HX.out)
    have hl3 := Nat.lt_of_lt_of_le hlw hk3.size
    have HD3 := Lib.hid hd3
    have HK3 := Lib.hid hk3
    clear hd3 hk3
    have q0 : w3.cell? ⟨w2.heap.size, 0, none⟩ = some (.int .i64 y.seq) := blk_cell X3.out 0 _ rfl
    have q1 : w3.cell? ⟨w2.heap.size, 1, none⟩ = some (.int .i64 y.kind) := blk_cell X3.out 1 _ rfl
    have q2 : w3.cell? ⟨w2.heap.size, 2, none⟩ = some (.int .i64 y.time) := blk_cell X3.out 2 _ rfl
    have q3 : w3.cell? ⟨w2.heap.size, 3, none⟩ = some (.int .i64 y.key) := blk_cell X3.out 3 _ rfl
    have q4 : w3.cell? ⟨w2.heap.size, 4, none⟩ = some (.int .i64 y.val) := blk_cell X3.out 4 _ rfl
    go_wp2_with (go_at_call 50; refine (both_rput y HD3.out HSIM.out (HF1.out _ hl3) HOT2.out.1 HOT2.out.2 hn2 hol HE2.out).mono ?_; rintro e w4 ⟨rfl, hd4, hk4⟩; have HD4 := Lib.hid hd4; have HK4 := Lib.hid hk4; clear hd4 hk4)
    go_ret
    exact ⟨rfl, ⟨putS s y, putR r y, HD4.out.mono (fun k _ h => h.1), (HSIM.out.put y HN1.out).1, putR_len r y, putS_next s y⟩,
      ((Keeps.of_below' HB.out).trans HK3.out (fun i _ h => h.1)).trans HK4.out (fun i _ h => h.1)⟩
  · have g2 : (f != 0) = true := by simp [hf]
    clear hE hf
    go_enter Try.func26, Try.ntmps26
    go_wp2_with (first | (go_at_call 12; refine (HS.out _ (below_alloc w _)).mono ?_; rintro e w1 ⟨rfl, hb1⟩; have X1 := Lib.hid ((hb1.block w.heap.size (by simp)).trans (heap_alloc_new w (.cells #[.int .i64 o.kind, .int .i64 o.time, .int .i64 o.key, .int .i64 o.val, .int .i64 o.op.seq, .int .i64 o.op.kind, .int .i64 o.op.time, .int .i64 o.op.key, .int .i64 o.op.val, .slice o.pA o.pn o.pc] 36))); have HB1 := Lib.hid ((below_alloc w (.cells #[.int .i64 o.kind, .int .i64 o.time, .int .i64 o.key, .int .i64 o.val, .int .i64 o.op.seq, .int .i64 o.op.kind, .int .i64 o.op.time, .int .i64 o.op.key, .int .i64 o.op.val, .slice o.pA o.pn o.pc] 36)).trans (hb1.mono (by simp))); have b1 := cell_lt (blk_cell X1.out 0 _ rfl); clear hb1; have x0' : ∀ ob, (w1.alloc ob).cell? ⟨w.heap.size, 0, none⟩ = some (.int .i64 o.kind) := fun ob => alloc_old (o := ob) (blk_cell X1.out 0 _ rfl); have x1' : ∀ ob, (w1.alloc ob).cell? ⟨w.heap.size, 1, none⟩ = some (.int .i64 o.time) := fun ob => alloc_old (o := ob) (blk_cell X1.out 1 _ rfl); have x2' : ∀ ob, (w1.alloc ob).cell? ⟨w.heap.size, 2, none⟩ = some (.int .i64 o.key) := fun ob => alloc_old (o := ob) (blk_cell X1.out 2 _ rfl); have x3' : ∀ ob, (w1.alloc ob).cell? ⟨w.heap.size, 3, none⟩ = some (.int .i64 o.val) := fun ob => alloc_old (o := ob) (blk_cell X1.out 3 _ rfl)) | (go_at_call 48; refine (HRS.out _ (HB1.out.alloc HB1.out.size _)).mono ?_; rintro e w2 ⟨rfl, hb2⟩; have HB2 := Lib.hid ((HB1.out.alloc HB1.out.size (.cells #[.int .i64 y.seq, .int .i64 y.kind, .int .i64 y.time, .int .i64 y.key, .int .i64 y.val] 34)).trans (hb2.mono (HB1.out.alloc HB1.out.size _).size)); have X2 := Lib.hid ((hb2.block w.heap.size (by simp; omega)).trans ((Below.heap_alloc w1 _ _ b1).trans X1.out)); have Z2 := Lib.hid ((hb2.block w1.heap.size (by simp)).trans (heap_alloc_new w1 (.cells #[.int .i64 y.seq, .int .i64 y.kind, .int .i64 y.time, .int .i64 y.key, .int .i64 y.val] 34))); clear hb2; have y0' : ∀ ob, (w2.alloc ob).cell? ⟨w.heap.size, 0, none⟩ = some (.int .i64 o.kind) := fun ob => alloc_old (o := ob) (blk_cell X2.out 0 _ rfl); have y1' : ∀ ob, (w2.alloc ob).cell? ⟨w.heap.size, 1, none⟩ = some (.int .i64 o.time) := fun ob => alloc_old (o := ob) (blk_cell X2.out 1 _ rfl); have z0' : ∀ ob, (w2.alloc ob).cell? ⟨w1.heap.size, 0, none⟩ = some (.int .i64 y.seq) := fun ob => alloc_old (o := ob) (blk_cell Z2.out 0 _ rfl); have z1' : ∀ ob, (w2.alloc ob).cell? ⟨w1.heap.size, 1, none⟩ = some (.int .i64 y.kind) := fun ob => alloc_old (o := ob) (blk_cell Z2.out 1 _ rfl); have z2' : ∀ ob, (w2.alloc ob).cell? ⟨w1.heap.size, 2, none⟩ = some (.int .i64 y.time) := fun ob => alloc_old (o := ob) (blk_cell Z2.out 2 _ rfl); have z3' : ∀ ob, (w2.alloc ob).cell? ⟨w1.heap.size, 3, none⟩ = some (.int .i64 y.key) := fun ob => alloc_old (o := ob) (blk_cell Z2.out 3 _ rfl); have z4' : ∀ ob, (w2.alloc ob).cell? ⟨w1.heap.size, 4, none⟩ = some (.int .i64 y.val) := fun ob => alloc_old (o := ob) (blk_cell Z2.out 4 _ rfl)) | (go_at_call 24; refine (num_any f _).mono ?_; rintro e w3 ⟨rfl, rfl⟩))
    go_ret
    exact PlayEnd.same HD.out HSIM.out (HB2.out.alloc HB2.out.size _)
set_option maxHeartbeats 2000000 in
set_option maxRecDepth 100000 in
theorem play_mark {F : Nat → Prop} {w : World} {a b : Nat} {s : StV} {r : RfV} (o : ScV) (h : Duo F w a s b r) (hs : Sim s r) (hF : ∀ i, w.heap.size ≤ i → F i) (ho : o.okIn w) (hoF : ∀ g off, o.pA = some ⟨g, off, none⟩ → 0 < o.pn → ¬ F g) (hn2 : s.next ≤ 3000000000000000000) (hol : r.ops.length ≤ 2000000000000) (hk : o.kind = 1) :
    Calls Try.prog 26 #[.pointer (some ⟨a, 0, none⟩), .pointer (some ⟨b, 0, none⟩), .agg #[.int .i64 o.kind, .int .i64 o.time, .int .i64 o.key, .int .i64 o.val, .int .i64 o.op.seq, .int .i64 o.op.kind, .int .i64 o.op.time, .int .i64 o.op.key, .int .i64 o.op.val, .slice o.pA o.pn o.pc]] w (PlayEnd F a b s r w) := by
  have HD := Lib.hid h
  have HSIM := Lib.hid hs
  have HN1 := Lib.hid h.sok.n1
  have hE : Hid (markE (s.early o.time) = 0 → putE s.next (s.early o.time) (markO s.next (s.early o.time) o.time) = 0 ∧ markO s.next (s.early o.time) o.time = ⟨s.next, 2, o.time, 0, 0⟩) := fun h => putE_mark h
  have HS : Hid (∀ w1, Below w.heap.size w w1 → Calls Try.prog 12 #[.pointer (some ⟨a, 0, none⟩), .int .i64 o.time, .int .i64 o.key, .int .i64 o.val] w1
      fun e w' => e = .returned (.tuple #[(sampO s.next (s.early o.time) s.hold s.samples.length o.time o.key o.val).agg, errV (sampE (s.early o.time) s.hold s.samples.length)]) ∧ Below w1.heap.size w1 w') := fun w1 hb => sample_d (h.below hb) o.time o.key o.val
  have HRS : Hid (∀ w1, Below w.heap.size w w1 → Calls Try.prog 48 #[.pointer (some ⟨b, 0, none⟩), .int .i64 o.time, .int .i64 o.key, .int .i64 o.val] w1
      fun e w' => e = .returned (.tuple #[(sampO s.next (s.early o.time) s.hold s.samples.length o.time o.key o.val).agg, .int .i64 (sampE (s.early o.time) s.hold s.samples.length)]) ∧ Below w1.heap.size w1 w') := by
    intro w1 hb
    have q := rsample_d (h.below hb) o.time o.key o.val
    rw [hs.nx, hs.early, hs.ho, hs.he] at q
    exact q
  have HM : Hid (∀ w1, Below w.heap.size w w1 → Calls Try.prog 20 #[.pointer (some ⟨a, 0, none⟩), .int .i64 o.time] w1
      fun e w' => e = .returned (.tuple #[(markO s.next (s.early o.time) o.time).agg, errV (markE (s.early o.time))]) ∧ Below w1.heap.size w1 w') := fun w1 hb => mark_d (h.below hb) o.time
  have HRM : Hid (∀ w1, Below w.heap.size w w1 → Calls Try.prog 49 #[.pointer (some ⟨b, 0, none⟩), .int .i64 o.time] w1
      fun e w' => e = .returned (.tuple #[(markO s.next (s.early o.time) o.time).agg, .int .i64 (markE (s.early o.time))]) ∧ Below w1.heap.size w1 w') := by
    intro w1 hb
    have q := rmark_d (h.below hb) o.time
    rw [hs.nx, hs.early] at q
    exact q
  have HOT := Lib.hid (And.intro ho.time ho.key)
  have HF := Lib.hid hF
  generalize sampO s.next (s.early o.time) s.hold s.samples.length o.time o.key o.val = p at *
  generalize sampE (s.early o.time) s.hold s.samples.length = f0 at *
  generalize markO s.next (s.early o.time) o.time = y at *
  generalize markE (s.early o.time) = f at *
  unfold OpV.agg at HS HRS HM HRM
  have k0 : (o.kind == 0) = false := by simp [hk]
  have k1 : (o.kind == 1) = true := by simp [hk]
  have g1 : (f != f) = false := by simp
  have x0 := box_cell w #[.int .i64 o.kind, .int .i64 o.time, .int .i64 o.key, .int .i64 o.val, .int .i64 o.op.seq, .int .i64 o.op.kind, .int .i64 o.op.time, .int .i64 o.op.key, .int .i64 o.op.val, .slice o.pA o.pn o.pc] 36 (0, 0) 0 _ rfl
  clear h hs hF ho hoF hk
  by_cases hf : f = 0
  · have g2 : (f != 0) = false := by simp [hf]
    have HE := Lib.hid (hE.out hf)
    clear hE hf
    go_enter Try.func26, Try.ntmps26
    go_wp2_with (first | (go_at_call 12; refine (HS.out _ (below_alloc w _)).mono ?_; rintro e w1 ⟨rfl, hb1⟩; have X1 := Lib.hid ((hb1.block w.heap.size (by simp)).trans (heap_alloc_new w (.cells #[.int .i64 o.kind, .int .i64 o.time, .int .i64 o.key, .int .i64 o.val, .int .i64 o.op.seq, .int .i64 o.op.kind, .int .i64 o.op.time, .int .i64 o.op.key, .int .i64 o.op.val, .slice o.pA o.pn o.pc] 36))); have HB1 := Lib.hid ((below_alloc w (.cells #[.int .i64 o.kind, .int .i64 o.time, .int .i64 o.key, .int .i64 o.val, .int .i64 o.op.seq, .int .i64 o.op.kind, .int .i64 o.op.time, .int .i64 o.op.key, .int .i64 o.op.val, .slice o.pA o.pn o.pc] 36)).trans (hb1.mono (by simp))); have b1 := cell_lt (blk_cell X1.out 0 _ rfl); clear hb1; have x0' : ∀ ob, (w1.alloc ob).cell? ⟨w.heap.size, 0, none⟩ = some (.int .i64 o.kind) := fun ob => alloc_old (o := ob) (blk_cell X1.out 0 _ rfl); have x1' : ∀ ob, (w1.alloc ob).cell? ⟨w.heap.size, 1, none⟩ = some (.int .i64 o.time) := fun ob => alloc_old (o := ob) (blk_cell X1.out 1 _ rfl); have x2' : ∀ ob, (w1.alloc ob).cell? ⟨w.heap.size, 2, none⟩ = some (.int .i64 o.key) := fun ob => alloc_old (o := ob) (blk_cell X1.out 2 _ rfl); have x3' : ∀ ob, (w1.alloc ob).cell? ⟨w.heap.size, 3, none⟩ = some (.int .i64 o.val) := fun ob => alloc_old (o := ob) (blk_cell X1.out 3 _ rfl)) | (go_at_call 48; refine (HRS.out _ (HB1.out.alloc HB1.out.size _)).mono ?_; rintro e w2 ⟨rfl, hb2⟩; have HB2 := Lib.hid ((HB1.out.alloc HB1.out.size (.cells #[.int .i64 p.seq, .int .i64 p.kind, .int .i64 p.time, .int .i64 p.key, .int .i64 p.val] 34)).trans (hb2.mono (HB1.out.alloc HB1.out.size _).size)); have X2 := Lib.hid ((hb2.block w.heap.size (by simp; omega)).trans ((Below.heap_alloc w1 _ _ b1).trans X1.out)); have Z2 := Lib.hid ((hb2.block w1.heap.size (by simp)).trans (heap_alloc_new w1 (.cells #[.int .i64 p.seq, .int .i64 p.kind, .int .i64 p.time, .int .i64 p.key, .int .i64 p.val] 34))); have b2 : w1.heap.size < w2.heap.size := (by have := hb2.size; simp at this; omega); have XA := Lib.hid ((Below.heap_alloc w2 (.cells #[.int .i64 p.seq, .int .i64 p.kind, .int .i64 p.time, .int .i64 p.key, .int .i64 p.val] 34) _ (show w.heap.size < w2.heap.size by omega)).trans X2.out); have ZA := Lib.hid ((Below.heap_alloc w2 (.cells #[.int .i64 p.seq, .int .i64 p.kind, .int .i64 p.time, .int .i64 p.key, .int .i64 p.val] 34) _ b2).trans Z2.out); clear hb2; have y0' : ∀ ob, (w2.alloc ob).cell? ⟨w.heap.size, 0, none⟩ = some (.int .i64 o.kind) := fun ob => alloc_old (o := ob) (blk_cell X2.out 0 _ rfl); have y1' : ∀ ob, (w2.alloc ob).cell? ⟨w.heap.size, 1, none⟩ = some (.int .i64 o.time) := fun ob => alloc_old (o := ob) (blk_cell X2.out 1 _ rfl); have z0' : ∀ ob, (w2.alloc ob).cell? ⟨w1.heap.size, 0, none⟩ = some (.int .i64 p.seq) := fun ob => alloc_old (o := ob) (blk_cell Z2.out 0 _ rfl); have z1' : ∀ ob, (w2.alloc ob).cell? ⟨w1.heap.size, 1, none⟩ = some (.int .i64 p.kind) := fun ob => alloc_old (o := ob) (blk_cell Z2.out 1 _ rfl); have z2' : ∀ ob, (w2.alloc ob).cell? ⟨w1.heap.size, 2, none⟩ = some (.int .i64 p.time) := fun ob => alloc_old (o := ob) (blk_cell Z2.out 2 _ rfl); have z3' : ∀ ob, (w2.alloc ob).cell? ⟨w1.heap.size, 3, none⟩ = some (.int .i64 p.key) := fun ob => alloc_old (o := ob) (blk_cell Z2.out 3 _ rfl); have z4' : ∀ ob, (w2.alloc ob).cell? ⟨w1.heap.size, 4, none⟩ = some (.int .i64 p.val) := fun ob => alloc_old (o := ob) (blk_cell Z2.out 4 _ rfl)) | (go_at_call 20; refine (HM.out _ (HB2.out.alloc HB2.out.size _)).mono ?_; rintro e w3 ⟨rfl, hb3⟩; have HB3 := Lib.hid ((HB2.out.alloc HB2.out.size (.cells #[.int .i64 p.seq, .int .i64 p.kind, .int .i64 p.time, .int .i64 p.key, .int .i64 p.val] 34)).trans (hb3.mono (HB2.out.alloc HB2.out.size _).size)); have b3 : w2.heap.size < w3.heap.size := (by have := hb3.size; simp at this; omega); have X3 := Lib.hid ((hb3.block w.heap.size (by simp; omega)).trans XA.out); have Z3 := Lib.hid ((hb3.block w1.heap.size (by simp; omega)).trans ZA.out); have P3 := Lib.hid ((hb3.block w2.heap.size (by simp)).trans (heap_alloc_new w2 (.cells #[.int .i64 p.seq, .int .i64 p.kind, .int .i64 p.time, .int .i64 p.key, .int .i64 p.val] 34))); clear hb3; have x1 : w3.cell? ⟨w.heap.size, 1, none⟩ = some (.int .i64 o.time) := blk_cell X3.out 1 _ rfl; have c0 : w3.cell? ⟨w1.heap.size, 0, none⟩ = some (.int .i64 p.seq) := blk_cell Z3.out 0 _ rfl; have c1 : w3.cell? ⟨w1.heap.size, 1, none⟩ = some (.int .i64 p.kind) := blk_cell Z3.out 1 _ rfl; have c2 : w3.cell? ⟨w1.heap.size, 2, none⟩ = some (.int .i64 p.time) := blk_cell Z3.out 2 _ rfl; have c3 : w3.cell? ⟨w1.heap.size, 3, none⟩ = some (.int .i64 p.key) := blk_cell Z3.out 3 _ rfl; have c4 : w3.cell? ⟨w1.heap.size, 4, none⟩ = some (.int .i64 p.val) := blk_cell Z3.out 4 _ rfl; have d0 : w3.frozen? ⟨w1.heap.size, 0, none⟩ = false := blk_frozen Z3.out 0; have d1 : w3.frozen? ⟨w1.heap.size, 1, none⟩ = false := blk_frozen Z3.out 1; have d2 : w3.frozen? ⟨w1.heap.size, 2, none⟩ = false := blk_frozen Z3.out 2; have d3 : w3.frozen? ⟨w1.heap.size, 3, none⟩ = false := blk_frozen Z3.out 3; have d4 : w3.frozen? ⟨w1.heap.size, 4, none⟩ = false := blk_frozen Z3.out 4) | (go_at_call 49; refine (HRM.out _ (box5 HB3.out (by omega))).mono ?_; rintro e w4 ⟨rfl, hb4⟩; have HB4 := Lib.hid ((box5 HB3.out (show w.heap.size ≤ w1.heap.size by omega)).trans (hb4.mono (by rw [box5_size]; exact HB3.out.size))); have hs4 := hb4.size; rw [box5_size] at hs4; have Z4 := Lib.hid ((hb4.block w1.heap.size (by rw [box5_size]; omega)).trans (box5_blk Z3.out)); have P4 := Lib.hid ((hb4.block w2.heap.size (by rw [box5_size]; omega)).trans ((box5_other (by omega)).trans P3.out)); clear hb4; have e0 : w4.cell? ⟨w1.heap.size, 0, none⟩ = some (.int .i64 y.seq) := blk_cell Z4.out 0 _ rfl; have e1 : w4.cell? ⟨w1.heap.size, 1, none⟩ = some (.int .i64 y.kind) := blk_cell Z4.out 1 _ rfl; have e2 : w4.cell? ⟨w1.heap.size, 2, none⟩ = some (.int .i64 y.time) := blk_cell Z4.out 2 _ rfl; have e3 : w4.cell? ⟨w1.heap.size, 3, none⟩ = some (.int .i64 y.key) := blk_cell Z4.out 3 _ rfl; have e4 : w4.cell? ⟨w1.heap.size, 4, none⟩ = some (.int .i64 y.val) := blk_cell Z4.out 4 _ rfl; have g0 : w4.cell? ⟨w2.heap.size, 0, none⟩ = some (.int .i64 p.seq) := blk_cell P4.out 0 _ rfl; have g1 : w4.cell? ⟨w2.heap.size, 1, none⟩ = some (.int .i64 p.kind) := blk_cell P4.out 1 _ rfl; have g2 : w4.cell? ⟨w2.heap.size, 2, none⟩ = some (.int .i64 p.time) := blk_cell P4.out 2 _ rfl; have g3 : w4.cell? ⟨w2.heap.size, 3, none⟩ = some (.int .i64 p.key) := blk_cell P4.out 3 _ rfl; have g4 : w4.cell? ⟨w2.heap.size, 4, none⟩ = some (.int .i64 p.val) := blk_cell P4.out 4 _ rfl; have k0 : w4.frozen? ⟨w2.heap.size, 0, none⟩ = false := blk_frozen P4.out 0; have k1 : w4.frozen? ⟨w2.heap.size, 1, none⟩ = false := blk_frozen P4.out 1; have k2 : w4.frozen? ⟨w2.heap.size, 2, none⟩ = false := blk_frozen P4.out 2; have k3 : w4.frozen? ⟨w2.heap.size, 3, none⟩ = false := blk_frozen P4.out 3; have k4 : w4.frozen? ⟨w2.heap.size, 4, none⟩ = false := blk_frozen P4.out 4) | (go_at_call 24; refine (num_any f _).mono ?_; rintro e w5 ⟨rfl, rfl⟩))
    have HB := Lib.hid (box5 (v0 := .int .i64 y.seq) (v1 := .int .i64 y.kind) (v2 := .int .i64 y.time) (v3 := .int .i64 y.key) (v4 := .int .i64 y.val) HB4.out (show w.heap.size ≤ w2.heap.size by omega))
    have hlw : w2.heap.size < (((((w4.setCell ⟨w2.heap.size, 0, none⟩ (.int .i64 y.seq)).setCell ⟨w2.heap.size, 1, none⟩ (.int .i64 y.kind)).setCell ⟨w2.heap.size, 2, none⟩ (.int .i64 y.time)).setCell ⟨w2.heap.size, 3, none⟩ (.int .i64 y.key)).setCell ⟨w2.heap.size, 4, none⟩ (.int .i64 y.val)).heap.size := by rw [box5_size]; omega
    have HX := Lib.hid (box5_blk (v0 := .int .i64 y.seq) (v1 := .int .i64 y.kind) (v2 := .int .i64 y.time) (v3 := .int .i64 y.key) (v4 := .int .i64 y.val) P4.out)
    have HD2 := Lib.hid ((HD.out.mono (G := fun k => F k ∧ k ≠ w2.heap.size) (fun k hk h => ⟨h, (by omega)⟩)).below HB.out)
    have hbs := HB.out.size
    have hy := HE.out.2
    have ot : I64 y.time := by rw [hy]; exact HOT.out.1
    have ok : I64 y.key := by rw [hy]; exact (show I64 0 from ⟨by decide, by decide⟩)
    have hF1 : ∀ W : World, w2.heap.size < W.heap.size → ∀ i, W.heap.size ≤ i → F i ∧ i ≠ w2.heap.size := fun W h i hi => ⟨HF.out i (by have := HB2.out.size; omega), by omega⟩
    have HF1 := Lib.hid hF1
    have HOT2 := Lib.hid (And.intro ot ok)
    have HE2 : Hid (putE s.next (s.early y.time) y = 0) := by show _; rw [show y.time = o.time by rw [hy]]; exact HE.out.1
    clear ot ok hy hF1
    (with_reducible refine (both_put y HD2.out HSIM.out (HF1.out _ hlw) HOT2.out.1 HOT2.out.2 hn2 hol HE2.out).mono ?_)
    rintro e w3 ⟨rfl, hd3, hk3⟩
    have X3 := Lib.hid ((hk3.block w2.heap.size hlw (fun h => h.2 rfl)).trans HX.out)
    have hl3 := Nat.lt_of_lt_of_le hlw hk3.size
    have HD3 := Lib.hid hd3
    have HK3 := Lib.hid hk3
    clear hd3 hk3
    have q0 : w3.cell? ⟨w2.heap.size, 0, none⟩ = some (.int .i64 y.seq) := blk_cell X3.out 0 _ rfl
    have q1 : w3.cell? ⟨w2.heap.size, 1, none⟩ = some (.int .i64 y.kind) := blk_cell X3.out 1 _ rfl
    have q2 : w3.cell? ⟨w2.heap.size, 2, none⟩ = some (.int .i64 y.time) := blk_cell X3.out 2 _ rfl
    have q3 : w3.cell? ⟨w2.heap.size, 3, none⟩ = some (.int .i64 y.key) := blk_cell X3.out 3 _ rfl
    have q4 : w3.cell? ⟨w2.heap.size, 4, none⟩ = some (.int .i64 y.val) := blk_cell X3.out 4 _ rfl
    go_wp2_with (go_at_call 50; refine (both_rput y HD3.out HSIM.out (HF1.out _ hl3) HOT2.out.1 HOT2.out.2 hn2 hol HE2.out).mono ?_; rintro e w4 ⟨rfl, hd4, hk4⟩; have HD4 := Lib.hid hd4; have HK4 := Lib.hid hk4; clear hd4 hk4)
    go_ret
    exact ⟨rfl, ⟨putS s y, putR r y, HD4.out.mono (fun k _ h => h.1), (HSIM.out.put y HN1.out).1, putR_len r y, putS_next s y⟩,
      ((Keeps.of_below' HB.out).trans HK3.out (fun i _ h => h.1)).trans HK4.out (fun i _ h => h.1)⟩
  · have g2 : (f != 0) = true := by simp [hf]
    clear hE hf
    go_enter Try.func26, Try.ntmps26
    go_wp2_with (first | (go_at_call 12; refine (HS.out _ (below_alloc w _)).mono ?_; rintro e w1 ⟨rfl, hb1⟩; have X1 := Lib.hid ((hb1.block w.heap.size (by simp)).trans (heap_alloc_new w (.cells #[.int .i64 o.kind, .int .i64 o.time, .int .i64 o.key, .int .i64 o.val, .int .i64 o.op.seq, .int .i64 o.op.kind, .int .i64 o.op.time, .int .i64 o.op.key, .int .i64 o.op.val, .slice o.pA o.pn o.pc] 36))); have HB1 := Lib.hid ((below_alloc w (.cells #[.int .i64 o.kind, .int .i64 o.time, .int .i64 o.key, .int .i64 o.val, .int .i64 o.op.seq, .int .i64 o.op.kind, .int .i64 o.op.time, .int .i64 o.op.key, .int .i64 o.op.val, .slice o.pA o.pn o.pc] 36)).trans (hb1.mono (by simp))); have b1 := cell_lt (blk_cell X1.out 0 _ rfl); clear hb1; have x0' : ∀ ob, (w1.alloc ob).cell? ⟨w.heap.size, 0, none⟩ = some (.int .i64 o.kind) := fun ob => alloc_old (o := ob) (blk_cell X1.out 0 _ rfl); have x1' : ∀ ob, (w1.alloc ob).cell? ⟨w.heap.size, 1, none⟩ = some (.int .i64 o.time) := fun ob => alloc_old (o := ob) (blk_cell X1.out 1 _ rfl); have x2' : ∀ ob, (w1.alloc ob).cell? ⟨w.heap.size, 2, none⟩ = some (.int .i64 o.key) := fun ob => alloc_old (o := ob) (blk_cell X1.out 2 _ rfl); have x3' : ∀ ob, (w1.alloc ob).cell? ⟨w.heap.size, 3, none⟩ = some (.int .i64 o.val) := fun ob => alloc_old (o := ob) (blk_cell X1.out 3 _ rfl)) | (go_at_call 48; refine (HRS.out _ (HB1.out.alloc HB1.out.size _)).mono ?_; rintro e w2 ⟨rfl, hb2⟩; have HB2 := Lib.hid ((HB1.out.alloc HB1.out.size (.cells #[.int .i64 p.seq, .int .i64 p.kind, .int .i64 p.time, .int .i64 p.key, .int .i64 p.val] 34)).trans (hb2.mono (HB1.out.alloc HB1.out.size _).size)); have X2 := Lib.hid ((hb2.block w.heap.size (by simp; omega)).trans ((Below.heap_alloc w1 _ _ b1).trans X1.out)); have Z2 := Lib.hid ((hb2.block w1.heap.size (by simp)).trans (heap_alloc_new w1 (.cells #[.int .i64 p.seq, .int .i64 p.kind, .int .i64 p.time, .int .i64 p.key, .int .i64 p.val] 34))); have b2 : w1.heap.size < w2.heap.size := (by have := hb2.size; simp at this; omega); have XA := Lib.hid ((Below.heap_alloc w2 (.cells #[.int .i64 p.seq, .int .i64 p.kind, .int .i64 p.time, .int .i64 p.key, .int .i64 p.val] 34) _ (show w.heap.size < w2.heap.size by omega)).trans X2.out); have ZA := Lib.hid ((Below.heap_alloc w2 (.cells #[.int .i64 p.seq, .int .i64 p.kind, .int .i64 p.time, .int .i64 p.key, .int .i64 p.val] 34) _ b2).trans Z2.out); clear hb2; have y0' : ∀ ob, (w2.alloc ob).cell? ⟨w.heap.size, 0, none⟩ = some (.int .i64 o.kind) := fun ob => alloc_old (o := ob) (blk_cell X2.out 0 _ rfl); have y1' : ∀ ob, (w2.alloc ob).cell? ⟨w.heap.size, 1, none⟩ = some (.int .i64 o.time) := fun ob => alloc_old (o := ob) (blk_cell X2.out 1 _ rfl); have z0' : ∀ ob, (w2.alloc ob).cell? ⟨w1.heap.size, 0, none⟩ = some (.int .i64 p.seq) := fun ob => alloc_old (o := ob) (blk_cell Z2.out 0 _ rfl); have z1' : ∀ ob, (w2.alloc ob).cell? ⟨w1.heap.size, 1, none⟩ = some (.int .i64 p.kind) := fun ob => alloc_old (o := ob) (blk_cell Z2.out 1 _ rfl); have z2' : ∀ ob, (w2.alloc ob).cell? ⟨w1.heap.size, 2, none⟩ = some (.int .i64 p.time) := fun ob => alloc_old (o := ob) (blk_cell Z2.out 2 _ rfl); have z3' : ∀ ob, (w2.alloc ob).cell? ⟨w1.heap.size, 3, none⟩ = some (.int .i64 p.key) := fun ob => alloc_old (o := ob) (blk_cell Z2.out 3 _ rfl); have z4' : ∀ ob, (w2.alloc ob).cell? ⟨w1.heap.size, 4, none⟩ = some (.int .i64 p.val) := fun ob => alloc_old (o := ob) (blk_cell Z2.out 4 _ rfl)) | (go_at_call 20; refine (HM.out _ (HB2.out.alloc HB2.out.size _)).mono ?_; rintro e w3 ⟨rfl, hb3⟩; have HB3 := Lib.hid ((HB2.out.alloc HB2.out.size (.cells #[.int .i64 p.seq, .int .i64 p.kind, .int .i64 p.time, .int .i64 p.key, .int .i64 p.val] 34)).trans (hb3.mono (HB2.out.alloc HB2.out.size _).size)); have b3 : w2.heap.size < w3.heap.size := (by have := hb3.size; simp at this; omega); have X3 := Lib.hid ((hb3.block w.heap.size (by simp; omega)).trans XA.out); have Z3 := Lib.hid ((hb3.block w1.heap.size (by simp; omega)).trans ZA.out); have P3 := Lib.hid ((hb3.block w2.heap.size (by simp)).trans (heap_alloc_new w2 (.cells #[.int .i64 p.seq, .int .i64 p.kind, .int .i64 p.time, .int .i64 p.key, .int .i64 p.val] 34))); clear hb3; have x1 : w3.cell? ⟨w.heap.size, 1, none⟩ = some (.int .i64 o.time) := blk_cell X3.out 1 _ rfl; have c0 : w3.cell? ⟨w1.heap.size, 0, none⟩ = some (.int .i64 p.seq) := blk_cell Z3.out 0 _ rfl; have c1 : w3.cell? ⟨w1.heap.size, 1, none⟩ = some (.int .i64 p.kind) := blk_cell Z3.out 1 _ rfl; have c2 : w3.cell? ⟨w1.heap.size, 2, none⟩ = some (.int .i64 p.time) := blk_cell Z3.out 2 _ rfl; have c3 : w3.cell? ⟨w1.heap.size, 3, none⟩ = some (.int .i64 p.key) := blk_cell Z3.out 3 _ rfl; have c4 : w3.cell? ⟨w1.heap.size, 4, none⟩ = some (.int .i64 p.val) := blk_cell Z3.out 4 _ rfl; have d0 : w3.frozen? ⟨w1.heap.size, 0, none⟩ = false := blk_frozen Z3.out 0; have d1 : w3.frozen? ⟨w1.heap.size, 1, none⟩ = false := blk_frozen Z3.out 1; have d2 : w3.frozen? ⟨w1.heap.size, 2, none⟩ = false := blk_frozen Z3.out 2; have d3 : w3.frozen? ⟨w1.heap.size, 3, none⟩ = false := blk_frozen Z3.out 3; have d4 : w3.frozen? ⟨w1.heap.size, 4, none⟩ = false := blk_frozen Z3.out 4) | (go_at_call 49; refine (HRM.out _ (box5 HB3.out (by omega))).mono ?_; rintro e w4 ⟨rfl, hb4⟩; have HB4 := Lib.hid ((box5 HB3.out (show w.heap.size ≤ w1.heap.size by omega)).trans (hb4.mono (by rw [box5_size]; exact HB3.out.size))); have hs4 := hb4.size; rw [box5_size] at hs4; have Z4 := Lib.hid ((hb4.block w1.heap.size (by rw [box5_size]; omega)).trans (box5_blk Z3.out)); have P4 := Lib.hid ((hb4.block w2.heap.size (by rw [box5_size]; omega)).trans ((box5_other (by omega)).trans P3.out)); clear hb4; have e0 : w4.cell? ⟨w1.heap.size, 0, none⟩ = some (.int .i64 y.seq) := blk_cell Z4.out 0 _ rfl; have e1 : w4.cell? ⟨w1.heap.size, 1, none⟩ = some (.int .i64 y.kind) := blk_cell Z4.out 1 _ rfl; have e2 : w4.cell? ⟨w1.heap.size, 2, none⟩ = some (.int .i64 y.time) := blk_cell Z4.out 2 _ rfl; have e3 : w4.cell? ⟨w1.heap.size, 3, none⟩ = some (.int .i64 y.key) := blk_cell Z4.out 3 _ rfl; have e4 : w4.cell? ⟨w1.heap.size, 4, none⟩ = some (.int .i64 y.val) := blk_cell Z4.out 4 _ rfl; have g0 : w4.cell? ⟨w2.heap.size, 0, none⟩ = some (.int .i64 p.seq) := blk_cell P4.out 0 _ rfl; have g1 : w4.cell? ⟨w2.heap.size, 1, none⟩ = some (.int .i64 p.kind) := blk_cell P4.out 1 _ rfl; have g2 : w4.cell? ⟨w2.heap.size, 2, none⟩ = some (.int .i64 p.time) := blk_cell P4.out 2 _ rfl; have g3 : w4.cell? ⟨w2.heap.size, 3, none⟩ = some (.int .i64 p.key) := blk_cell P4.out 3 _ rfl; have g4 : w4.cell? ⟨w2.heap.size, 4, none⟩ = some (.int .i64 p.val) := blk_cell P4.out 4 _ rfl; have k0 : w4.frozen? ⟨w2.heap.size, 0, none⟩ = false := blk_frozen P4.out 0; have k1 : w4.frozen? ⟨w2.heap.size, 1, none⟩ = false := blk_frozen P4.out 1; have k2 : w4.frozen? ⟨w2.heap.size, 2, none⟩ = false := blk_frozen P4.out 2; have k3 : w4.frozen? ⟨w2.heap.size, 3, none⟩ = false := blk_frozen P4.out 3; have k4 : w4.frozen? ⟨w2.heap.size, 4, none⟩ = false := blk_frozen P4.out 4) | (go_at_call 24; refine (num_any f _).mono ?_; rintro e w5 ⟨rfl, rfl⟩))
    go_ret
    exact PlayEnd.same HD.out HSIM.out (box5 HB4.out (show w.heap.size ≤ w2.heap.size by omega))
end Go.Proofs.Ytomekiidgdkmiaa
