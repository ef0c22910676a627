/-
  Contract of a stream's Cut.
-/
import Derived.Test.YtomekiidgdkmiaaDelOp2
import Derived.Test.YtomekiidgdkmiaaStmOps
namespace Go.Proofs.Ytomekiidgdkmiaa
open Go.RowKit
set_option linter.unusedVariables false
set_option linter.unusedSimpArgs false

set_option maxRecDepth 100000 in
theorem shcov_any (o : OpV) (b off c : Nat) (res : List Int) (sh : Int) (pb po pc n : Nat) (pl : List PlV) (hnl : n = pl.length) (w : World) (hn : res.length ≤ 100) (hn1 : 1 ≤ res.length)
    (hres : RowAt w b off (intVals res)) (hr : ∀ i, i < res.length → 1 ≤ nth res i ∧ nth res i ≤ 9223372036854775807)
    (ho : I64 o.time) (hs : 1 ≤ sh) (hs2 : sh ≤ 10) (hpl : RowAt w pb po (plVals pl)) (hlen : pl.length = res.length * sh.toNat) :
    Calls Try.prog 41 #[.agg #[.slice (some ⟨b, off, none⟩) res.length c, .int .i64 sh], .agg #[.int .i64 o.seq, .int .i64 o.kind, .int .i64 o.time, .int .i64 o.key, .int .i64 o.val], .slice (some ⟨pb, po, none⟩) n pc] w
      fun e w' => e = .returned (.bool (covered (idsOf o res sh) pl)) ∧ Below w.heap.size w w' := by
  subst hnl
  have HRES := Lib.hid (hres.below (below_alloc2 w (.cells #[.slice (some ⟨b, off, none⟩) res.length c, .int .i64 sh] 84) (.cells #[.int .i64 o.seq, .int .i64 o.kind, .int .i64 o.time, .int .i64 o.key, .int .i64 o.val] 34)))
  have HPL := Lib.hid (hpl.below (below_alloc2 w (.cells #[.slice (some ⟨b, off, none⟩) res.length c, .int .i64 sh] 84) (.cells #[.int .i64 o.seq, .int .i64 o.kind, .int .i64 o.time, .int .i64 o.key, .int .i64 o.val] 34)))
  have HR := Lib.hid hr
  have HO := Lib.hid ho
  have HL := Lib.hid hlen
  clear hres hpl hr ho hlen
  go_enter Try.func41, Try.ntmps41
  go_wp2_with (go_at_call 58; refine (covered_any o b off c res sh pb po pc pl _ hn hn1 HRES.out.int HR.out HO.out hs hs2 HPL.out.pl HL.out).mono ?_; rintro e w' ⟨rfl, hb⟩)
  go_ret
  exact ⟨rfl, (below_alloc2 w _ _).trans (hb.mono (by simp; omega))⟩

set_option maxRecDepth 100000 in
theorem cutask (a bx : Nat) (s : StV) (b off c pb po pc : Nat) (vs : Value) (o : OpV) (w : World) (hok : s.ok) (ho : I64 o.time)
    (hbx : w.cell? ⟨bx, 0, none⟩ = some (.pointer (some ⟨a, 0, none⟩))) (ha0 : w.cell? ⟨a, 0, none⟩ = some (.slice (some ⟨b, off, none⟩) s.res.length c)) (ha1 : w.cell? ⟨a, 1, none⟩ = some (.int .i64 s.shards))
    (ha10 : w.cell? ⟨a, 10, none⟩ = some (.slice (some ⟨pb, po, none⟩) s.places.length pc)) (hres : RowAt w b off (intVals s.res)) (hpl : RowAt w pb po (plVals s.places)) :
    Calls Try.prog 40 #[.agg #[.int .i64 o.seq, .int .i64 o.kind, .int .i64 o.time, .int .i64 o.key, .int .i64 o.val], .pointer (some ⟨bx, 0, none⟩)] w
      fun e w' => e = .returned (.bool (covered (idsOf o s.res s.shards) s.places)) ∧ Below w.heap.size w w' := by
  have B0 := alloc_old (o := .cells #[.int .i64 o.seq, .int .i64 o.kind, .int .i64 o.time, .int .i64 o.key, .int .i64 o.val] 34) hbx
  have B1 := alloc_old (o := .cells #[.int .i64 o.seq, .int .i64 o.kind, .int .i64 o.time, .int .i64 o.key, .int .i64 o.val] 34) ha0
  have B2 := alloc_old (o := .cells #[.int .i64 o.seq, .int .i64 o.kind, .int .i64 o.time, .int .i64 o.key, .int .i64 o.val] 34) ha1
  have B3 := alloc_old (o := .cells #[.int .i64 o.seq, .int .i64 o.kind, .int .i64 o.time, .int .i64 o.key, .int .i64 o.val] 34) ha10
  have HRES := Lib.hid (hres.below (below_alloc w (.cells #[.int .i64 o.seq, .int .i64 o.kind, .int .i64 o.time, .int .i64 o.key, .int .i64 o.val] 34)).drew)
  have HPL := Lib.hid (hpl.below (below_alloc w (.cells #[.int .i64 o.seq, .int .i64 o.kind, .int .i64 o.time, .int .i64 o.key, .int .i64 o.val] 34)).drew)
  have HOK := Lib.hid hok
  have HO := Lib.hid ho
  clear hbx ha0 ha1 ha10 hres hpl hok ho
  go_enter Try.func40, Try.ntmps40
  go_wp2
  go_region_held3 (fun w' => w'.cell? ⟨w.heap.size, 0, none⟩ = some (.int .i64 o.seq) ∧ w'.cell? ⟨w.heap.size, 1, none⟩ = some (.int .i64 o.kind) ∧ w'.cell? ⟨w.heap.size, 2, none⟩ = some (.int .i64 o.time) ∧ w'.cell? ⟨w.heap.size, 3, none⟩ = some (.int .i64 o.key) ∧ w'.cell? ⟨w.heap.size, 4, none⟩ = some (.int .i64 o.val) ∧ w'.cell? ⟨bx, 0, none⟩ = some (.pointer (some ⟨a, 0, none⟩)) ∧ w'.cell? ⟨a, 0, none⟩ = some (.slice (some ⟨b, off, none⟩) s.res.length c) ∧ w'.cell? ⟨a, 1, none⟩ = some (.int .i64 s.shards) ∧ w'.cell? ⟨a, 10, none⟩ = some (.slice (some ⟨pb, po, none⟩) s.places.length pc)) (go_keep)
    (first | (go_at_call 41; obtain ⟨s0, s1, s2, s3, s4, s5, s6, s7, s8⟩ := ‹_ ∧ _ ∧ _ ∧ _ ∧ _ ∧ _ ∧ _ ∧ _ ∧ _›; refine (shcov_any o b off c s.res s.shards pb po pc s.places.length s.places rfl _ (by have := HOK.out.r3; omega) HOK.out.r1 HRES.out HOK.out.rr HO.out HOK.out.s1 (by have := HOK.out.s4; omega) HPL.out HOK.out.pl).mono ?_; rintro e w' ⟨rfl, hbl⟩; replace s0 := old_cell hbl s0 (cell_lt s0); replace s1 := old_cell hbl s1 (cell_lt s1); replace s2 := old_cell hbl s2 (cell_lt s2); replace s3 := old_cell hbl s3 (cell_lt s3); replace s4 := old_cell hbl s4 (cell_lt s4); replace s5 := old_cell hbl s5 (cell_lt s5); replace s6 := old_cell hbl s6 (cell_lt s6); replace s7 := old_cell hbl s7 (cell_lt s7); replace s8 := old_cell hbl s8 (cell_lt s8)))
  go_wp2
  go_ret
  exact ⟨rfl, ((below_alloc w _).drew).trans (hbl.mono (by simp))⟩

/-! ### the places, raised -/
def maxP (p q : PlV) : PlV := if p.less q then q else p
def raiseP : List PlV → List PlV → List PlV
  | p :: ps, q :: qs => maxP p q :: raiseP ps qs
  | ps, _ => ps
theorem raiseP_nil (ps : List PlV) : raiseP ps [] = ps := by cases ps <;> rfl
theorem raiseP_len (ps qs : List PlV) : (raiseP ps qs).length = ps.length := by
  induction ps generalizing qs with
  | nil => cases qs <;> rfl
  | cons p ps ih =>
    cases qs with
    | nil => rfl
    | cons q qs => simp [raiseP, ih]
theorem raiseP_at (ps qs : List PlV) (k : Nat) (h : qs.length ≤ k) : pln (raiseP ps qs) k = pln ps k := by
  induction ps generalizing qs k with
  | nil => cases qs <;> rfl
  | cons p ps ih =>
    cases qs with
    | nil => rfl
    | cons q qs =>
      cases k with
      | zero => simp at h
      | succ k => exact ih qs k (by simpa using h)
theorem raiseP_snoc (ps qs : List PlV) (q : PlV) (h : qs.length < ps.length) : raiseP ps (qs ++ [q]) = (raiseP ps qs).set qs.length (maxP (pln ps qs.length) q) := by
  induction ps generalizing qs with
  | nil => simp at h
  | cons p ps ih =>
    cases qs with
    | nil => simp [raiseP, raiseP_nil, pln]
    | cons q' qs =>
      have := ih qs (by simpa using h)
      simp only [List.cons_append, raiseP, this, List.length_cons, List.set_cons_succ]
      rfl
theorem pl_take_succ (l : List PlV) (k : Nat) (h : k < l.length) : l.take (k + 1) = l.take k ++ [pln l k] := by
  rw [List.take_succ_eq_append_getElem h, pln_get h]
theorem raise_step (ps qs : List PlV) (k : Nat) (h : k < qs.length) (hl : qs.length = ps.length) : raiseP ps (qs.take (k + 1)) = (raiseP ps (qs.take k)).set k (maxP (pln ps k) (pln qs k)) := by
  have e : (qs.take k).length = k := by rw [List.length_take]; omega
  rw [pl_take_succ qs k h, raiseP_snoc ps (qs.take k) _ (by omega), e]
theorem set_same (l : List PlV) (k : Nat) (h : k < l.length) : l.set k (pln l k) = l := by
  rw [← pln_get h]; simp

theorem callCut (args : Array Value) (wx : World) : (callFunc 40 args).run Try.prog wx = .ok (.enter 40 args) wx := by
  kernel_rfl

/-- what the closure answers while the samples are thinned out -/
theorem cut_ask_all {w2 : World} {a bx : Nat} {s : StV} {b c pb pc : Nat} {vs : Value} (hok : s.ok) (H : StIs w2 a s (.slice (some ⟨b, 0, none⟩) s.res.length c) vs (.slice (some ⟨pb, 0, none⟩) s.places.length pc))
    (hbx : w2.cell? ⟨bx, 0, none⟩ = some (.pointer (some ⟨a, 0, none⟩))) (hne : vs.ownBlock ≠ some bx) :
    ∀ i w1, i < s.samples.length → Keeps (fun k => vs.ownBlock = some k) w2 w1 → Calls Try.prog 40 #[.agg #[.int .i64 (opn s.samples i).seq, .int .i64 (opn s.samples i).kind, .int .i64 (opn s.samples i).time, .int .i64 (opn s.samples i).key, .int .i64 (opn s.samples i).val], .pointer (some ⟨bx, 0, none⟩)] w1
      fun e w' => e = .returned (.bool (covered (idsOf (opn s.samples i) s.res s.shards) s.places)) ∧ Below w1.heap.size w1 w' := by
  intro i w1 hi hk
  have ha := hk.block a H.lt (own_ne H.sam H.blk (by decide))
  have hb := hk.block b (H.res.lt b rfl).2 (fun e => own_ne2 H.res H.sam (by decide) b rfl e)
  have hp := hk.block pb (H.pla.lt pb rfl).2 (fun e => own_ne2 H.pla H.sam (by decide) pb rfl e)
  have hx := hk.block bx (cell_lt hbx) hne
  have hblk := ha.trans H.blk
  exact cutask a bx s b 0 c pb 0 pc vs (opn s.samples i) w1 hok (hok.st _ (by rw [← opn_get hi]; exact List.getElem_mem hi))
    ((World.cell?_of_block (a := ⟨bx, 0, none⟩) hx).trans hbx) (blk_cell hblk 0 _ rfl) (blk_cell hblk 1 _ rfl) (blk_cell hblk 10 _ rfl) ((own_row H.res).block hb) ((own_row H.pla).block hp)

set_option maxRecDepth 100000 in
theorem cut_bad (a : Nat) (s : StV) (vr vs vp : Value) (A : Option Addr) (n c : Nat) (w : World) (h : StIs w a s vr vs vp) (hok : s.ok) (hn : n ≠ s.res.length * s.shards.toNat) (hn2 : n ≤ 9223372036854775807) :
    Calls Try.prog 15 #[.pointer (some ⟨a, 0, none⟩), .slice A n c] w
      fun e w' => e = .returned (.tuple #[.int .i64 0, .iface 44 (.int .i64 2)]) ∧ Below w.heap.size w w' := by
  obtain ⟨b, rc, rfl, _, _⟩ := own_some h.res hok.r1
  have c0 : w.cell? ⟨a, 0, none⟩ = some (.slice (some ⟨b, 0, none⟩) s.res.length rc) := h.cell 0 _ rfl
  have c1 : w.cell? ⟨a, 1, none⟩ = some (.int .i64 s.shards) := h.cell 1 _ rfl
  have d0 := alloc_old (o := .cells #[.pointer (some ⟨a, 0, none⟩)] 28) c0
  have d1 := alloc_old (o := .cells #[.pointer (some ⟨a, 0, none⟩)] 28) c1
  have HOK := Lib.hid hok
  have hs1 := hok.s1
  have hs4 := hok.s4
  have hr3 := hok.r3
  obtain ⟨sn, hsn⟩ : ∃ sn : Nat, s.shards = sn := ⟨s.shards.toNat, by omega⟩
  have g1 : ((n : Int) != (s.res.length : Int) * s.shards) = true := by
    rw [hsn] at hn ⊢
    simp only [Int.toNat_natCast] at hn
    rw [bne_iff_ne]
    intro e
    apply hn
    have : ((s.res.length * sn : Nat) : Int) = (s.res.length : Int) * (sn : Int) := by simp
    omega
  clear h hok c0 c1 hsn hn
  go_enter Try.func15, Try.ntmps15
  go_wp2_with (go_at_call 34; refine (lanes_any (.slice (some ⟨b, 0, none⟩) s.res.length rc) (some ⟨b, 0, none⟩) s.res.length rc s.shards _ (by omega) hs1 (by omega)).mono ?_; rintro e w2 ⟨rfl, hb2⟩)
  go_ret2
  exact ⟨rfl, (below_alloc w _).trans (hb2.mono (by simp))⟩
end Go.Proofs.Ytomekiidgdkmiaa
