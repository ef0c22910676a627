/-
  Contract of a stream's Put.
-/
import Derived.Test.YtomekiidgdkmiaaStmOps
import Derived.Deep.RegionLaw
import Derived.Deep.AppendLies
namespace Go.Proofs.Ytomekiidgdkmiaa
open Go.RowKit
set_option linter.unusedVariables false
set_option linter.unusedSimpArgs false

/-- the error's number of a Put; 0: none -/
def putErr (s : StV) (o : OpV) : Int :=
  if o.seq ≠ s.next then 2 else if o.kind = 1 then (if s.early o.time then 8 else 0) else if o.kind = 2 then (if s.early o.time then 9 else if o.key ≠ 0 ∨ o.val ≠ 0 then 2 else 0) else 2
def putSt (s : StV) (o : OpV) : StV :=
  if o.kind = 1 then { s with samples := s.samples ++ [o], next := s.next + 1 } else { s with mark := o, next := s.next + 1 }

set_option maxRecDepth 100000 in
theorem put_seq (a : Nat) (s : StV) (vr vs vp : Value) (o : OpV) (w : World) (h : StIs w a s vr vs vp) (hq : o.seq ≠ s.next) :
    Calls Try.prog 13 #[.pointer (some ⟨a, 0, none⟩), .agg #[.int .i64 o.seq, .int .i64 o.kind, .int .i64 o.time, .int .i64 o.key, .int .i64 o.val]] w
      fun e w' => e = .returned (.iface 44 (.int .i64 2)) ∧ Below w.heap.size w w' := by
  have c3 : w.cell? ⟨a, 3, none⟩ = some (.int .i64 s.next) := h.cell 3 _ rfl
  have d3 := alloc_old (o := .cells #[.int .i64 o.seq, .int .i64 o.kind, .int .i64 o.time, .int .i64 o.key, .int .i64 o.val] 34) c3
  have g1 : (o.seq != s.next) = true := by simp [hq]
  clear h c3 hq
  go_enter Try.func13, Try.ntmps13
  go_wp2
  go_quiet (fail)
  go_wp2
  go_ret
  exact ⟨rfl, below_drewN (below_alloc _ _) _⟩

set_option maxRecDepth 100000 in
theorem put_late (a : Nat) (s : StV) (vr vs vp : Value) (o : OpV) (w : World) (h : StIs w a s vr vs vp) (hq : o.seq = s.next) (hk : o.kind = 1) (he : s.early o.time = true) :
    Calls Try.prog 13 #[.pointer (some ⟨a, 0, none⟩), .agg #[.int .i64 o.seq, .int .i64 o.kind, .int .i64 o.time, .int .i64 o.key, .int .i64 o.val]] w
      fun e w' => e = .returned (.iface 44 (.int .i64 8)) ∧ Below w.heap.size w w' := by
  have c3 : w.cell? ⟨a, 3, none⟩ = some (.int .i64 s.next) := h.cell 3 _ rfl
  have d3 := alloc_old (o := .cells #[.int .i64 o.seq, .int .i64 o.kind, .int .i64 o.time, .int .i64 o.key, .int .i64 o.val] 34) c3
  have g1 : (o.seq != s.next) = false := by simp [hq]
  have g2 : (o.kind == 1) = true := by simp [hk]
  have H := Lib.hid h
  have HE := Lib.hid he
  clear h c3 hq hk he
  go_enter Try.func13, Try.ntmps13
  go_wp2
  go_quiet (fail)
  go_wp2_with (go_at_call 36; refine (early_any a s vr vs vp o.time _ (H.out.below (below_drewN (below_alloc w _) _))).mono ?_; rw [HE.out]; rintro e w' ⟨rfl, rfl⟩)
  go_ret
  exact ⟨rfl, below_drewN (below_alloc _ _) _⟩

set_option maxRecDepth 100000 in
theorem put_regress (a : Nat) (s : StV) (vr vs vp : Value) (o : OpV) (w : World) (h : StIs w a s vr vs vp) (hq : o.seq = s.next) (hk : o.kind = 2) (he : s.early o.time = true) :
    Calls Try.prog 13 #[.pointer (some ⟨a, 0, none⟩), .agg #[.int .i64 o.seq, .int .i64 o.kind, .int .i64 o.time, .int .i64 o.key, .int .i64 o.val]] w
      fun e w' => e = .returned (.iface 44 (.int .i64 9)) ∧ Below w.heap.size w w' := by
  have c3 : w.cell? ⟨a, 3, none⟩ = some (.int .i64 s.next) := h.cell 3 _ rfl
  have d3 := alloc_old (o := .cells #[.int .i64 o.seq, .int .i64 o.kind, .int .i64 o.time, .int .i64 o.key, .int .i64 o.val] 34) c3
  have g1 : (o.seq != s.next) = false := by simp [hq]
  have g2 : (o.kind == 1) = false := by simp [hk]
  have g3 : (o.kind == 2) = true := by simp [hk]
  have H := Lib.hid h
  have HE := Lib.hid he
  clear h c3 hq hk he
  go_enter Try.func13, Try.ntmps13
  go_wp2
  go_quiet (fail)
  go_wp2_with (go_at_call 36; refine (early_any a s vr vs vp o.time _ (H.out.below (below_drewN (below_alloc w _) _))).mono ?_; rw [HE.out]; rintro e w' ⟨rfl, rfl⟩)
  go_ret
  exact ⟨rfl, below_drewN (below_alloc _ _) _⟩

set_option maxRecDepth 100000 in
theorem put_kind (a : Nat) (s : StV) (vr vs vp : Value) (o : OpV) (w : World) (h : StIs w a s vr vs vp) (hq : o.seq = s.next) (hk : o.kind ≠ 1) (hk2 : o.kind ≠ 2) :
    Calls Try.prog 13 #[.pointer (some ⟨a, 0, none⟩), .agg #[.int .i64 o.seq, .int .i64 o.kind, .int .i64 o.time, .int .i64 o.key, .int .i64 o.val]] w
      fun e w' => e = .returned (.iface 44 (.int .i64 2)) ∧ Below w.heap.size w w' := by
  have c3 : w.cell? ⟨a, 3, none⟩ = some (.int .i64 s.next) := h.cell 3 _ rfl
  have d3 := alloc_old (o := .cells #[.int .i64 o.seq, .int .i64 o.kind, .int .i64 o.time, .int .i64 o.key, .int .i64 o.val] 34) c3
  have g1 : (o.seq != s.next) = false := by simp [hq]
  have g2 : (o.kind == 1) = false := by simp [hk]
  have g3 : (o.kind == 2) = false := by simp [hk2]
  clear h c3 hq hk hk2
  go_enter Try.func13, Try.ntmps13
  go_wp2
  go_quiet (fail)
  go_wp2
  go_ret
  exact ⟨rfl, below_drewN (below_alloc _ _) _⟩

set_option maxRecDepth 100000 in
theorem put_markform (a : Nat) (s : StV) (vr vs vp : Value) (o : OpV) (w : World) (h : StIs w a s vr vs vp) (hq : o.seq = s.next) (hk : o.kind = 2) (he : s.early o.time = false) (hz : o.key ≠ 0 ∨ o.val ≠ 0) :
    Calls Try.prog 13 #[.pointer (some ⟨a, 0, none⟩), .agg #[.int .i64 o.seq, .int .i64 o.kind, .int .i64 o.time, .int .i64 o.key, .int .i64 o.val]] w
      fun e w' => e = .returned (.iface 44 (.int .i64 2)) ∧ Below w.heap.size w w' := by
  have c3 : w.cell? ⟨a, 3, none⟩ = some (.int .i64 s.next) := h.cell 3 _ rfl
  have d3 := alloc_old (o := .cells #[.int .i64 o.seq, .int .i64 o.kind, .int .i64 o.time, .int .i64 o.key, .int .i64 o.val] 34) c3
  have g1 : (o.seq != s.next) = false := by simp [hq]
  have g2 : (o.kind == 1) = false := by simp [hk]
  have g3 : (o.kind == 2) = true := by simp [hk]
  have H := Lib.hid h
  have HE := Lib.hid he
  by_cases hy : o.key = 0
  · have g4 : (o.key != 0) = false := by simp [hy]
    have g5 : (o.val != 0) = true := by simp; omega
    clear h c3 hq hk he hz hy
    go_enter Try.func13, Try.ntmps13
    go_wp2
    go_quiet (fail)
    go_wp2_with (go_at_call 36; refine (early_any a s vr vs vp o.time _ (H.out.below (below_drewN (below_alloc w _) _))).mono ?_; rw [HE.out]; rintro e w' ⟨rfl, rfl⟩)
    go_ret
    exact ⟨rfl, below_drewN (below_alloc _ _) _⟩
  · have g4 : (o.key != 0) = true := by simp [hy]
    clear h c3 hq hk he hz hy
    go_enter Try.func13, Try.ntmps13
    go_wp2
    go_quiet (fail)
    go_wp2_with (go_at_call 36; refine (early_any a s vr vs vp o.time _ (H.out.below (below_drewN (below_alloc w _) _))).mono ?_; rw [HE.out]; rintro e w' ⟨rfl, rfl⟩)
    go_ret
    exact ⟨rfl, below_drewN (below_alloc _ _) _⟩

set_option maxRecDepth 100000 in
theorem put_mark (a : Nat) (s : StV) (vr vs vp : Value) (o : OpV) (w : World) (h : StIs w a s vr vs vp) (hq : o.seq = s.next) (hk : o.kind = 2) (he : s.early o.time = false) (hy : o.key = 0) (hz : o.val = 0) (hn : 1 ≤ s.next) (hn2 : s.next ≤ 4611686018427387904) :
    Calls Try.prog 13 #[.pointer (some ⟨a, 0, none⟩), .agg #[.int .i64 o.seq, .int .i64 o.kind, .int .i64 o.time, .int .i64 o.key, .int .i64 o.val]] w
      fun e w' => e = .returned .nilIface ∧ StIs w' a { s with mark := o, next := s.next + 1 } vr vs vp ∧ Keeps (fun k => k = a) w w' := by
  have c3 : w.cell? ⟨a, 3, none⟩ = some (.int .i64 s.next) := h.cell 3 _ rfl
  have d3 := alloc_old (o := .cells #[.int .i64 o.seq, .int .i64 o.kind, .int .i64 o.time, .int .i64 o.key, .int .i64 o.val] 34) c3
  have g1 : (o.seq != s.next) = false := by simp [hq]
  have g2 : (o.kind == 1) = false := by simp [hk]
  have g3 : (o.kind == 2) = true := by simp [hk]
  have g4 : (o.key != 0) = false := by simp [hy]
  have g5 : (o.val != 0) = false := by simp [hz]
  have H := Lib.hid h
  have HE := Lib.hid he
  clear h c3 hq hk he hz hy
  go_enter Try.func13, Try.ntmps13
  go_wp2
  go_quiet (fail)
  have b0 : (w.alloc (.cells #[.int .i64 o.seq, .int .i64 o.kind, .int .i64 o.time, .int .i64 o.key, .int .i64 o.val] 34)).cell? ⟨w.heap.size, 0, none⟩ = some (.int .i64 o.seq) := box_cell w _ _ _ 0 _ rfl
  have b1 : (w.alloc (.cells #[.int .i64 o.seq, .int .i64 o.kind, .int .i64 o.time, .int .i64 o.key, .int .i64 o.val] 34)).cell? ⟨w.heap.size, 1, none⟩ = some (.int .i64 o.kind) := box_cell w _ _ _ 1 _ rfl
  have b2 : (w.alloc (.cells #[.int .i64 o.seq, .int .i64 o.kind, .int .i64 o.time, .int .i64 o.key, .int .i64 o.val] 34)).cell? ⟨w.heap.size, 2, none⟩ = some (.int .i64 o.time) := box_cell w _ _ _ 2 _ rfl
  have b3 : (w.alloc (.cells #[.int .i64 o.seq, .int .i64 o.kind, .int .i64 o.time, .int .i64 o.key, .int .i64 o.val] 34)).cell? ⟨w.heap.size, 3, none⟩ = some (.int .i64 o.key) := box_cell w _ _ _ 3 _ rfl
  have b4 : (w.alloc (.cells #[.int .i64 o.seq, .int .i64 o.kind, .int .i64 o.time, .int .i64 o.key, .int .i64 o.val] 34)).cell? ⟨w.heap.size, 4, none⟩ = some (.int .i64 o.val) := box_cell w _ _ _ 4 _ rfl
  have H2 : Hid (StIs (w.alloc (.cells #[.int .i64 o.seq, .int .i64 o.kind, .int .i64 o.time, .int .i64 o.key, .int .i64 o.val] 34)) a s vr vs vp) := H.out.below (below_alloc w _)
  have K2 : Hid (Keeps (fun k => k = a) w (w.alloc (.cells #[.int .i64 o.seq, .int .i64 o.kind, .int .i64 o.time, .int .i64 o.key, .int .i64 o.val] 34))) := (Keeps.refl _ w).alloc _
  generalize w.alloc (.cells #[.int .i64 o.seq, .int .i64 o.kind, .int .i64 o.time, .int .i64 o.key, .int .i64 o.val] 34) = w1 at *
  have e4 : w1.cell? ⟨a, 4, none⟩ = some (.int .i64 s.mark.seq) := H2.out.cell 4 _ rfl
  have e5 : w1.cell? ⟨a, 5, none⟩ = some (.int .i64 s.mark.kind) := H2.out.cell 5 _ rfl
  have e6 : w1.cell? ⟨a, 6, none⟩ = some (.int .i64 s.mark.time) := H2.out.cell 6 _ rfl
  have e7 : w1.cell? ⟨a, 7, none⟩ = some (.int .i64 s.mark.key) := H2.out.cell 7 _ rfl
  have e8 : w1.cell? ⟨a, 8, none⟩ = some (.int .i64 s.mark.val) := H2.out.cell 8 _ rfl
  have f3 := H2.out.frozen 3
  have f4 := H2.out.frozen 4
  have f5 := H2.out.frozen 5
  have f6 := H2.out.frozen 6
  have f7 := H2.out.frozen 7
  have f8 := H2.out.frozen 8
  go_wp2_with (go_at_call 36; refine (early_any a s vr vs vp o.time _ (H2.out.below (below_drewN (Below.refl _ _) _))).mono ?_; rw [HE.out]; rintro e w' ⟨rfl, rfl⟩)
  go_ret
  have kk := (((((((Keeps.refl (fun k => k = a) w1).drewN nq).set 4 (.int .i64 o.seq)).set 5 (.int .i64 o.kind)).set 6 (.int .i64 o.time)).set 7 (.int .i64 o.key)).set 8 (.int .i64 o.val)).set 3 (.int .i64 (s.next + 1))
  refine ⟨rfl, H2.out.upd kk ?_ rfl rfl rfl, K2.out.trans kk (fun _ _ h => h)⟩
  have hb := heap_set (j := 3) (v := .int .i64 (s.next + 1)) (heap_set (j := 8) (v := .int .i64 o.val) (heap_set (j := 7) (v := .int .i64 o.key) (heap_set (j := 6) (v := .int .i64 o.time) (heap_set (j := 5) (v := .int .i64 o.kind) (heap_set (j := 4) (v := .int .i64 o.seq) (w := w1.drewN nq) H2.out.blk)))))
  exact hb.trans (by simp [StV.cellsOf])

theorem put_fin {w W3 w4 : World} {a : Nat} {s : StV} {vr vs vp : Value} {o : OpV} {g cap : Nat} (H3 : StIs W3 a s vr vs vp) (K3 : Keeps (fun k => k = a ∨ vs.ownBlock = some k) w W3) (hg : W3.grownBy w4 vs.ownBlock)
    (hrow : w4.ownsRow 0 34 5 (.slice (some ⟨g, 0, none⟩) (s.samples.length + 1) cap) (s.samples.length + 1) (opVals s.samples ++ o.vals)) (hat : vs.ownBlock = some g ∨ g = W3.heap.size) :
    ∃ vs', StIs ((w4.setCell ⟨a, 9, none⟩ (.slice (some ⟨g, 0, none⟩) (s.samples.length + 1) cap)).setCell ⟨a, 3, none⟩ (.int .i64 (s.next + 1))) a { s with samples := s.samples ++ [o], next := s.next + 1 } vr vs' vp ∧
      Keeps (fun k => k = a ∨ vs.ownBlock = some k) w ((w4.setCell ⟨a, 9, none⟩ (.slice (some ⟨g, 0, none⟩) (s.samples.length + 1) cap)).setCell ⟨a, 3, none⟩ (.int .i64 (s.next + 1))) ∧ (∀ k, vs'.ownBlock = some k → vs.ownBlock = some k ∨ w.heap.size ≤ k) := by
  have n1 := own_ne H3.sam H3.blk (by decide)
  have hb4 : w4.heap[a]? = some (.cells (s.cellsOf vr vs vp) 86 (0, 0)) := (hg.block a H3.lt (fun e => n1 e.symm)).trans H3.blk
  have kset : Keeps (fun k => k = a) w4 ((w4.setCell ⟨a, 9, none⟩ (.slice (some ⟨g, 0, none⟩) (s.samples.length + 1) cap)).setCell ⟨a, 3, none⟩ (.int .i64 (s.next + 1))) := ((Keeps.refl _ w4).set 9 _).set 3 _
  have k4 : Keeps (fun k => k = a ∨ vs.ownBlock = some k) W3 w4 := Keeps.of_grown hg _ (fun i hi => .inr hi)
  refine ⟨.slice (some ⟨g, 0, none⟩) (s.samples.length + 1) cap, ⟨?_, ?_, ?_, ?_⟩, ?_, ?_⟩
  · exact (heap_set (heap_set hb4)).trans (by simp [StV.cellsOf])
  · refine own_keep (own_keep H3.res (fun k hk => hg.block k (H3.res.lt k hk).2 (fun e => own_ne2 H3.res H3.sam (by decide) k hk e.symm))) (fun k hk => kset.block k ?_ ?_)
    · exact Nat.lt_of_lt_of_le (H3.res.lt k hk).2 hg.size
    · intro e; subst e; exact own_ne H3.res H3.blk (by decide) hk
  · have h2 : w4.ownsRow 0 34 5 (.slice (some ⟨g, 0, none⟩) (s.samples.length + 1) cap) (s.samples ++ [o]).length (opVals (s.samples ++ [o])) := by
      rw [opVals_snoc, List.length_append]; exact hrow
    refine own_keep h2 (fun k hk => kset.block k (h2.lt k hk).2 ?_)
    intro e; subst e; exact own_ne hrow hb4 (by decide) hk
  · refine own_keep (own_keep H3.pla (fun k hk => hg.block k (H3.pla.lt k hk).2 (fun e => own_ne2 H3.pla H3.sam (by decide) k hk e.symm))) (fun k hk => kset.block k ?_ ?_)
    · exact Nat.lt_of_lt_of_le (H3.pla.lt k hk).2 hg.size
    · intro e; subst e; exact own_ne H3.pla H3.blk (by decide) hk
  · exact (K3.trans k4 (fun _ _ h => h)).trans kset (fun _ _ h => .inl h)
  · intro k hk
    obtain rfl : g = k := Option.some.inj hk
    rcases hat with h | h
    · exact .inl h
    · right; rw [h]; exact K3.size

set_option maxRecDepth 100000 in
theorem put_sample (a : Nat) (s : StV) (vr vs vp : Value) (o : OpV) (w : World) (h : StIs w a s vr vs vp) (hq : o.seq = s.next) (hk : o.kind = 1) (he : s.early o.time = false) (hn : 1 ≤ s.next) (hn2 : s.next ≤ 4611686018427387904) (hsl : s.samples.length ≤ 3000000000000) :
    Calls Try.prog 13 #[.pointer (some ⟨a, 0, none⟩), .agg #[.int .i64 o.seq, .int .i64 o.kind, .int .i64 o.time, .int .i64 o.key, .int .i64 o.val]] w
      fun e w' => e = .returned .nilIface ∧ ∃ vs', StIs w' a { s with samples := s.samples ++ [o], next := s.next + 1 } vr vs' vp ∧ Keeps (fun k => k = a ∨ vs.ownBlock = some k) w w' ∧ (∀ k, vs'.ownBlock = some k → vs.ownBlock = some k ∨ w.heap.size ≤ k) := by
  obtain ⟨i0, hi, hz0, hz1, hz2⟩ := info_parts infoOp
  have c3 : w.cell? ⟨a, 3, none⟩ = some (.int .i64 s.next) := h.cell 3 _ rfl
  have d3 := alloc_old (o := .cells #[.int .i64 o.seq, .int .i64 o.kind, .int .i64 o.time, .int .i64 o.key, .int .i64 o.val] 34) c3
  have g1 : (o.seq != s.next) = false := by simp [hq]
  have g2 : (o.kind == 1) = true := by simp [hk]
  have H := Lib.hid h
  have HE := Lib.hid he
  clear h c3 hq hk he
  go_enter Try.func13, Try.ntmps13
  go_wp2
  go_quiet (fail)
  have b0 : (w.alloc (.cells #[.int .i64 o.seq, .int .i64 o.kind, .int .i64 o.time, .int .i64 o.key, .int .i64 o.val] 34)).cell? ⟨w.heap.size, 0, none⟩ = some (.int .i64 o.seq) := box_cell w _ _ _ 0 _ rfl
  have b1 : (w.alloc (.cells #[.int .i64 o.seq, .int .i64 o.kind, .int .i64 o.time, .int .i64 o.key, .int .i64 o.val] 34)).cell? ⟨w.heap.size, 1, none⟩ = some (.int .i64 o.kind) := box_cell w _ _ _ 1 _ rfl
  have b2 : (w.alloc (.cells #[.int .i64 o.seq, .int .i64 o.kind, .int .i64 o.time, .int .i64 o.key, .int .i64 o.val] 34)).cell? ⟨w.heap.size, 2, none⟩ = some (.int .i64 o.time) := box_cell w _ _ _ 2 _ rfl
  have b3 : (w.alloc (.cells #[.int .i64 o.seq, .int .i64 o.kind, .int .i64 o.time, .int .i64 o.key, .int .i64 o.val] 34)).cell? ⟨w.heap.size, 3, none⟩ = some (.int .i64 o.key) := box_cell w _ _ _ 3 _ rfl
  have b4 : (w.alloc (.cells #[.int .i64 o.seq, .int .i64 o.kind, .int .i64 o.time, .int .i64 o.key, .int .i64 o.val] 34)).cell? ⟨w.heap.size, 4, none⟩ = some (.int .i64 o.val) := box_cell w _ _ _ 4 _ rfl
  have H2 : Hid (StIs (w.alloc (.cells #[.int .i64 o.seq, .int .i64 o.kind, .int .i64 o.time, .int .i64 o.key, .int .i64 o.val] 34)) a s vr vs vp) := H.out.below (below_alloc w _)
  have hsz : w.heap.size ≤ (w.alloc (.cells #[.int .i64 o.seq, .int .i64 o.kind, .int .i64 o.time, .int .i64 o.key, .int .i64 o.val] 34)).heap.size := by simp
  have K2 : Hid (Keeps (fun k => k = a ∨ vs.ownBlock = some k) w (w.alloc (.cells #[.int .i64 o.seq, .int .i64 o.kind, .int .i64 o.time, .int .i64 o.key, .int .i64 o.val] 34))) := (Keeps.refl _ w).alloc _
  generalize w.alloc (.cells #[.int .i64 o.seq, .int .i64 o.kind, .int .i64 o.time, .int .i64 o.key, .int .i64 o.val] 34) = w1 at *
  have e9 : w1.cell? ⟨a, 9, none⟩ = some vs := H2.out.cell 9 _ rfl
  have f9 := H2.out.frozen 9
  have f3 := H2.out.frozen 3
  have HN := Lib.hid (own_ne H2.out.sam H2.out.blk (by decide))
  have HLT := Lib.hid H2.out.lt
  go_wp2_with (go_at_call 36; refine (early_any a s vr vs vp o.time _ (H2.out.below (below_drewN (Below.refl _ _) _))).mono ?_; rw [HE.out]; rintro e w' ⟨rfl, rfl⟩)
  have H3 : Hid (StIs (w1.drewN nq) a s vr vs vp) := H2.out.below (below_drewN (Below.refl _ _) _)
  have K3 := Lib.hid (K2.out.drewN nq)
  have e9a : ∀ ob, ((w1.drewN (nq + 1)).alloc ob).cell? ⟨a, 9, none⟩ = some vs := fun ob => alloc_old (o := ob) e9
  go_region_law (first | (refine step_append_lies _ rfl (.tmp 31) (.tmp 33) 40 rfl 0 34 i0 (.agg #[.int .i64 0, .int .i64 0, .int .i64 0, .int .i64 0, .int .i64 0]) 5 40 Try.underlying40 hi hz0 hz1 hz2 rfl (by decide) vs s.samples.length (opVals s.samples) rfl (H3.out.sam.alloc _).drew ⟨w1.heap.size, 0, none⟩ 1 1 o.vals rfl rfl (new_row _ _ _) (by simp [OpV.vals, Value.oneCell']) (by omega) (by unfold maxLen; omega) (by omega) (Nat.zero_le _) _ rfl ?_; intro g cap w4 hrow hg hat hgl; have hb4 : w4.heap[a]? = some (.cells (s.cellsOf vr vs vp) 86 (0, 0)) := (hg.block a (by simp; have := HLT.out; omega) (fun e => HN.out e.symm)).trans ((Below.heap_alloc _ _ a (by simpa using HLT.out)).trans H3.out.blk); have e9' : w4.cell? ⟨a, 9, none⟩ = some vs := blk_cell hb4 9 _ rfl; have f9' := blk_frozen hb4 9; have e3' : w4.cell? ⟨a, 3, none⟩ = some (.int .i64 s.next) := blk_cell hb4 3 _ rfl; have f3' := blk_frozen hb4 3; have HB4 := Lib.hid hb4; clear hb4))
  all_goals
    go_wp2
    go_ret
    refine ⟨rfl, ?_⟩
    exact put_fin (H3.out.below ((below_drewN (Below.refl (w1.drewN nq).heap.size (w1.drewN nq)) 1).alloc (by exact Nat.le_refl (w1.drewN nq).heap.size) _)) ((K3.out.drewN 1).alloc _) hg hrow hat
end Go.Proofs.Ytomekiidgdkmiaa
