/-
  The law's play: Put of an operation, Replay.
-/
import Derived.Test.YtomekiidgdkmiaaPlay
namespace Go.Proofs.Ytomekiidgdkmiaa
open Go.RowKit
set_option linter.unusedVariables false
set_option linter.unusedSimpArgs false

theorem put_w {F : Nat → Prop} {w : World} {a b : Nat} {s : StV} {r : RfV} (o : OpV) (f : Int) (hf : putE s.next (s.early o.time) o = f) (h : Duo F w a s b r) (hF : ∀ i, w.heap.size ≤ i → F i) (hn2 : s.next ≤ 3000000000000000000) (hsl : s.samples.length ≤ 2000000000000) (ho : I64 o.time) :
    Calls Try.prog 13 #[.pointer (some ⟨a, 0, none⟩), .agg #[.int .i64 o.seq, .int .i64 o.kind, .int .i64 o.time, .int .i64 o.key, .int .i64 o.val]] w
      fun e w' => e = .returned (errV f) ∧ Duo F w' a (putS s o) b r ∧ Keeps F w w' := by
  subst hf; exact put_d h hF o (by omega) hsl ho
theorem rput_w {F : Nat → Prop} {w : World} {a b : Nat} {s : StV} {r : RfV} (o : OpV) (f : Int) (hf : putE r.next (r.early o.time) o = f) (h : Duo F w a s b r) (hF : ∀ i, w.heap.size ≤ i → F i) (hn2 : r.next ≤ 3000000000000000000) (hsl : r.ops.length ≤ 2000000000000) (ho : I64 o.time) (ho2 : I64 o.key) :
    Calls Try.prog 50 #[.pointer (some ⟨b, 0, none⟩), .agg #[.int .i64 o.seq, .int .i64 o.kind, .int .i64 o.time, .int .i64 o.key, .int .i64 o.val]] w
      fun e w' => e = .returned (.int .i64 f) ∧ Duo F w' a s b (putR r o) ∧ Keeps F w w' := by
  subst hf; exact rput_d h hF o (by omega) hsl ho ho2
set_option maxHeartbeats 2000000 in
set_option maxRecDepth 100000 in
theorem play_put {F : Nat → Prop} {w : World} {a b : Nat} {s : StV} {r : RfV} (o : ScV) (h : Duo F w a s b r) (hs : Sim s r) (hF : ∀ i, w.heap.size ≤ i → F i) (ho : o.okIn w) (hoF : ∀ g off, o.pA = some ⟨g, off, none⟩ → 0 < o.pn → ¬ F g) (hn2 : s.next ≤ 3000000000000000000) (hol : r.ops.length ≤ 2000000000000) (hk : o.kind = 2) :
    Calls Try.prog 26 #[.pointer (some ⟨a, 0, none⟩), .pointer (some ⟨b, 0, none⟩), .agg #[.int .i64 o.kind, .int .i64 o.time, .int .i64 o.key, .int .i64 o.val, .int .i64 o.op.seq, .int .i64 o.op.kind, .int .i64 o.op.time, .int .i64 o.op.key, .int .i64 o.op.val, .slice o.pA o.pn o.pc]] w (PlayEnd F a b s r w) := by
  have HSP := Lib.hid (hs.put o.op h.sok.n1)
  have hsl : s.samples.length ≤ 2000000000000 := by rw [← hs.he]; exact Nat.le_trans (heldK_le _ _ _) hol
  have hrn : r.next ≤ 3000000000000000000 := by rw [hs.nx]; exact hn2
  obtain ⟨f, hf⟩ : ∃ f, putE s.next (s.early o.op.time) o.op = f := ⟨_, rfl⟩
  have HFS := Lib.hid hf
  have HFR : Hid (putE r.next (r.early o.op.time) o.op = f) := by show _; rw [(hs.put o.op h.sok.n1).2]; exact hf
  have HOT := Lib.hid (And.intro ho.op.2.2.1 ho.op.2.2.2.1)
  have HF : Hid (∀ W : World, w.heap.size < W.heap.size → ∀ i, W.heap.size ≤ i → F i ∧ i ≠ w.heap.size) := fun W h i hi => ⟨hF i (by omega), by omega⟩
  have k0 : (o.kind == 0) = false := by simp [hk]
  have k1 : (o.kind == 1) = false := by simp [hk]
  have k2 : (o.kind == 2) = true := by simp [hk]
  have g1 : (f == f) = true := by simp
  have HD : Hid (Duo (fun k => F k ∧ k ≠ w.heap.size) (w.alloc (.cells #[.int .i64 o.kind, .int .i64 o.time, .int .i64 o.key, .int .i64 o.val, .int .i64 o.op.seq, .int .i64 o.op.kind, .int .i64 o.op.time, .int .i64 o.op.key, .int .i64 o.op.val, .slice o.pA o.pn o.pc] 36)) a s b r) := (h.mono (fun k hk h => ⟨h, (by omega)⟩)).below (below_alloc w _)
  have HX := Lib.hid (heap_alloc_new w (.cells #[.int .i64 o.kind, .int .i64 o.time, .int .i64 o.key, .int .i64 o.val, .int .i64 o.op.seq, .int .i64 o.op.kind, .int .i64 o.op.time, .int .i64 o.op.key, .int .i64 o.op.val, .slice o.pA o.pn o.pc] 36))
  have hl0 : w.heap.size < (w.alloc (.cells #[.int .i64 o.kind, .int .i64 o.time, .int .i64 o.key, .int .i64 o.val, .int .i64 o.op.seq, .int .i64 o.op.kind, .int .i64 o.op.time, .int .i64 o.op.key, .int .i64 o.op.val, .slice o.pA o.pn o.pc] 36)).heap.size := by simp
  have HL := Lib.hid hl0
  clear hl0
  have HK : Hid (Keeps (fun k => F k ∧ k ≠ w.heap.size) (w.alloc (.cells #[.int .i64 o.kind, .int .i64 o.time, .int .i64 o.key, .int .i64 o.val, .int .i64 o.op.seq, .int .i64 o.op.kind, .int .i64 o.op.time, .int .i64 o.op.key, .int .i64 o.op.val, .slice o.pA o.pn o.pc] 36)) (w.alloc (.cells #[.int .i64 o.kind, .int .i64 o.time, .int .i64 o.key, .int .i64 o.val, .int .i64 o.op.seq, .int .i64 o.op.kind, .int .i64 o.op.time, .int .i64 o.op.key, .int .i64 o.op.val, .slice o.pA o.pn o.pc] 36)).drew) := (Keeps.refl _ _).drew
  have HK0 : Hid (Keeps (fun k => F k ∧ k ≠ w.heap.size) w (w.alloc (.cells #[.int .i64 o.kind, .int .i64 o.time, .int .i64 o.key, .int .i64 o.val, .int .i64 o.op.seq, .int .i64 o.op.kind, .int .i64 o.op.time, .int .i64 o.op.key, .int .i64 o.op.val, .slice o.pA o.pn o.pc] 36))) := Keeps.of_below' (below_alloc w _)
  clear h hs hF ho hoF hk hf
  go_enter Try.func26, Try.ntmps26
  go_wp2
  generalize hW : World.alloc w _ = W at *
  have HD : Hid (Duo (fun k => F k ∧ k ≠ w.heap.size) W.drew a s b r) := HD.out.below ((Below.refl _ _).drew)
  have HX : Hid (W.drew.heap[w.heap.size]? = _) := HX.out
  have HL : Hid (w.heap.size < W.drew.heap.size) := HL.out
  have s4 : W.cell? ⟨w.heap.size, 4, none⟩ = some (.int .i64 o.op.seq) := blk_cell (w := W) HX.out 4 _ rfl
  have s5 : W.cell? ⟨w.heap.size, 5, none⟩ = some (.int .i64 o.op.kind) := blk_cell (w := W) HX.out 5 _ rfl
  have s6 : W.cell? ⟨w.heap.size, 6, none⟩ = some (.int .i64 o.op.time) := blk_cell (w := W) HX.out 6 _ rfl
  have s7 : W.cell? ⟨w.heap.size, 7, none⟩ = some (.int .i64 o.op.key) := blk_cell (w := W) HX.out 7 _ rfl
  have s8 : W.cell? ⟨w.heap.size, 8, none⟩ = some (.int .i64 o.op.val) := blk_cell (w := W) HX.out 8 _ rfl
  go_region_held3 (fun w' => w'.cell? ⟨w.heap.size, 4, none⟩ = some (.int .i64 o.op.seq) ∧ w'.cell? ⟨w.heap.size, 5, none⟩ = some (.int .i64 o.op.kind) ∧ w'.cell? ⟨w.heap.size, 6, none⟩ = some (.int .i64 o.op.time) ∧ w'.cell? ⟨w.heap.size, 7, none⟩ = some (.int .i64 o.op.key) ∧ w'.cell? ⟨w.heap.size, 8, none⟩ = some (.int .i64 o.op.val)) (first | exact ⟨s4, s5, s6, s7, s8⟩ | go_simp) (first | (go_at_call 13; refine (put_w o.op f HFS.out HD.out (HF.out _ HL.out) hn2 hsl HOT.out.1).mono ?_; rintro e w' ⟨rfl, hd, hk⟩; have hl := Nat.lt_of_lt_of_le HL.out hk.size; have HX := Lib.hid ((hk.block w.heap.size HL.out (fun h => h.2 rfl)).trans HX.out); have HL := Lib.hid hl; have HK := Lib.hid (HK.out.trans hk (fun i _ h => h)); have HD := Lib.hid hd; have s4 : w'.cell? ⟨w.heap.size, 4, none⟩ = some (.int .i64 o.op.seq) := blk_cell HX.out 4 _ rfl; have s5 : w'.cell? ⟨w.heap.size, 5, none⟩ = some (.int .i64 o.op.kind) := blk_cell HX.out 5 _ rfl; have s6 : w'.cell? ⟨w.heap.size, 6, none⟩ = some (.int .i64 o.op.time) := blk_cell HX.out 6 _ rfl; have s7 : w'.cell? ⟨w.heap.size, 7, none⟩ = some (.int .i64 o.op.key) := blk_cell HX.out 7 _ rfl; have s8 : w'.cell? ⟨w.heap.size, 8, none⟩ = some (.int .i64 o.op.val) := blk_cell HX.out 8 _ rfl; clear hl hd hk) | (go_at_call 50; refine (rput_w o.op f HFR.out HD.out (HF.out _ HL.out) hrn hol HOT.out.1 HOT.out.2).mono ?_; rintro e w' ⟨rfl, hd, hk⟩; have hl := Nat.lt_of_lt_of_le HL.out hk.size; have HX := Lib.hid ((hk.block w.heap.size HL.out (fun h => h.2 rfl)).trans HX.out); have HL := Lib.hid hl; have HK := Lib.hid (HK.out.trans hk (fun i _ h => h)); have HD := Lib.hid hd; have s4 : w'.cell? ⟨w.heap.size, 4, none⟩ = some (.int .i64 o.op.seq) := blk_cell HX.out 4 _ rfl; have s5 : w'.cell? ⟨w.heap.size, 5, none⟩ = some (.int .i64 o.op.kind) := blk_cell HX.out 5 _ rfl; have s6 : w'.cell? ⟨w.heap.size, 6, none⟩ = some (.int .i64 o.op.time) := blk_cell HX.out 6 _ rfl; have s7 : w'.cell? ⟨w.heap.size, 7, none⟩ = some (.int .i64 o.op.key) := blk_cell HX.out 7 _ rfl; have s8 : w'.cell? ⟨w.heap.size, 8, none⟩ = some (.int .i64 o.op.val) := blk_cell HX.out 8 _ rfl; clear hl hd hk) | (go_at_call 24; refine (num_any f _).mono ?_; rintro e w' ⟨rfl, rfl⟩))
  all_goals
    go_wp2
    go_ret
    exact ⟨rfl, ⟨putS s o.op, putR r o.op, HD.out.mono (fun k _ h => h.1), HSP.out.1, putR_len r o.op, putS_next s o.op⟩, (HK0.out.trans HK.out (fun i _ h => h)).mono (fun i _ h => h.1)⟩

set_option maxHeartbeats 2000000 in
set_option maxRecDepth 100000 in
theorem play_rep {F : Nat → Prop} {w : World} {a b : Nat} {s : StV} {r : RfV} (o : ScV) (h : Duo F w a s b r) (hs : Sim s r) (hF : ∀ i, w.heap.size ≤ i → F i) (ho : o.okIn w) (hoF : ∀ g off, o.pA = some ⟨g, off, none⟩ → 0 < o.pn → ¬ F g) (hn2 : s.next ≤ 3000000000000000000) (hol : r.ops.length ≤ 2000000000000) (hk0 : o.kind ≠ 0) (hk1 : o.kind ≠ 1) (hk2 : o.kind ≠ 2) (hk3 : o.kind ≠ 3) :
    Calls Try.prog 26 #[.pointer (some ⟨a, 0, none⟩), .pointer (some ⟨b, 0, none⟩), .agg #[.int .i64 o.kind, .int .i64 o.time, .int .i64 o.key, .int .i64 o.val, .int .i64 o.op.seq, .int .i64 o.op.kind, .int .i64 o.op.time, .int .i64 o.op.key, .int .i64 o.op.val, .slice o.pA o.pn o.pc]] w (PlayEnd F a b s r w) := by
  have HD := Lib.hid h
  have HSIM := Lib.hid hs
  have hsl : s.samples.length ≤ 2000000000000 := by rw [← hs.he]; exact Nat.le_trans (heldK_le _ _ _) hol
  have HFI := Lib.hid hs.fi
  have HR : Hid (∀ w1, Below w.heap.size w w1 → Calls Try.prog 52 #[.pointer (some ⟨b, 0, none⟩), .int .i64 o.time, .int .i64 o.key] w1
      fun e w' => ∃ v, e = .returned (.tuple #[v, .int .i64 (repN s o.time o.key)]) ∧ SlAt w' v (repL s o.time o.key).length (opVals (repL s o.time o.key)) ∧ Below w1.heap.size w1 w') := by
    intro w1 hb
    have q := rreplay_d (h.below hb) o.time o.key
    rw [(hs.rep o.time o.key).1, (hs.rep o.time o.key).2] at q
    exact q
  have HS : Hid (∀ w1, Below w.heap.size w w1 → Calls Try.prog 22 #[.pointer (some ⟨a, 0, none⟩), .int .i64 o.time, .int .i64 o.key] w1
      fun e w' => ∃ v, e = .returned (.tuple #[v, .int .i64 (repN s o.time o.key)]) ∧ SlAt w' v (repL s o.time o.key).length (opVals (repL s o.time o.key)) ∧ Below w1.heap.size w1 w') :=
    fun w1 hb => replay_d (h.below hb) o.time o.key hsl hs.fi
  have hll : (repL s o.time o.key).length ≤ 3000000000000 := by
    unfold repL fromOn
    have h1 := List.length_take_le o.key.toNat ((allOf s).filter (fun p => decide (o.time ≤ p.seq)))
    have h2 := List.length_filter_le (fun p : OpV => decide (o.time ≤ p.seq)) (allOf s)
    have h3 := all_len s
    have h4 := List.length_take_le o.key.toNat ((allOf s).filter (fun o_1 => !decide (o_1.seq < o.time)))
    have h5 := List.length_filter_le (fun o_1 : OpV => !decide (o_1.seq < o.time)) (allOf s)
    rw [List.length_take]
    omega
  generalize repL s o.time o.key = L at *
  generalize repN s o.time o.key = N at *
  have k0 : (o.kind == 0) = false := by simp [hk0]
  have k1 : (o.kind == 1) = false := by simp [hk1]
  have k2 : (o.kind == 2) = false := by simp [hk2]
  have k3 : (o.kind == 3) = false := by simp [hk3]
  have g1 : (N == N) = true := by simp
  clear h hs hF ho hoF hk0 hk1 hk2 hk3
  go_enter Try.func26, Try.ntmps26
  go_wp2_with (first | (go_at_call 22; refine (HS.out _ (below_alloc w _)).mono ?_; rintro e w1 ⟨v1, rfl, hv1, hb1⟩; obtain ⟨A1, c1, rfl⟩ := sl_val hv1; have HV1 := Lib.hid hv1; have X1 := Lib.hid ((hb1.block w.heap.size (by simp)).trans (heap_alloc_new w (.cells #[.int .i64 o.kind, .int .i64 o.time, .int .i64 o.key, .int .i64 o.val, .int .i64 o.op.seq, .int .i64 o.op.kind, .int .i64 o.op.time, .int .i64 o.op.key, .int .i64 o.op.val, .slice o.pA o.pn o.pc] 36))); have HB1 := Lib.hid ((below_alloc w (.cells #[.int .i64 o.kind, .int .i64 o.time, .int .i64 o.key, .int .i64 o.val, .int .i64 o.op.seq, .int .i64 o.op.kind, .int .i64 o.op.time, .int .i64 o.op.key, .int .i64 o.op.val, .slice o.pA o.pn o.pc] 36)).trans (hb1.mono (by simp))); clear hb1 hv1; have x1 : w1.cell? ⟨w.heap.size, 1, none⟩ = some (.int .i64 o.time) := blk_cell X1.out 1 _ rfl; have x2 : w1.cell? ⟨w.heap.size, 2, none⟩ = some (.int .i64 o.key) := blk_cell X1.out 2 _ rfl) | (go_at_call 52; refine (HR.out _ HB1.out).mono ?_; rintro e w2 ⟨v2, rfl, hv2, hb2⟩; obtain ⟨A2, c2, rfl⟩ := sl_val hv2; have HV2 := Lib.hid hv2; have HV1 := Lib.hid (HV1.out.below hb2); have HB2 := Lib.hid (HB1.out.trans (hb2.mono HB1.out.size)); clear hb2 hv2) | (go_at_call 16; refine (ops_same L A1 A2 c1 c2 _ HV1.out HV2.out hll).mono ?_; rintro e w3 ⟨rfl, hb3⟩; have HB3 := Lib.hid (HB2.out.trans (hb3.mono HB2.out.size)); clear hb3))
  go_ret
  exact PlayEnd.same HD.out HSIM.out HB3.out
end Go.Proofs.Ytomekiidgdkmiaa
