/-
  The document's stream: Put.
-/
import Derived.Test.YtomekiidgdkmiaaRfOps
namespace Go.Proofs.Ytomekiidgdkmiaa
open Go.RowKit
set_option linter.unusedVariables false
set_option linter.unusedSimpArgs false

set_option maxRecDepth 100000 in
theorem rput_seq (b : Nat) (r : RfV) (vr vo vg vp : Value) (o : OpV) (w : World) (h : RfIs w b r vr vo vg vp) (hq : o.seq ≠ r.next) :
    Calls Try.prog 50 #[.pointer (some ⟨b, 0, none⟩), .agg #[.int .i64 o.seq, .int .i64 o.kind, .int .i64 o.time, .int .i64 o.key, .int .i64 o.val]] w fun e w' => e = .returned (.int .i64 2) ∧ Below w.heap.size w w' := by
  have c3 : w.cell? ⟨b, 3, none⟩ = some (.int .i64 r.next) := h.cell 3 _ rfl
  have d3 := alloc_old (o := (.cells #[.int .i64 o.seq, .int .i64 o.kind, .int .i64 o.time, .int .i64 o.key, .int .i64 o.val] 34)) c3
  have H := Lib.hid h
  have g1 : (o.seq != r.next) = true := by simp [hq]
  clear h c3 hq
  go_enter Try.func50, Try.ntmps50
  go_wp2
  go_quiet (fail)
  go_wp2
  go_ret
  exact ⟨rfl, below_drewN (below_alloc _ _) _⟩
set_option maxRecDepth 100000 in
theorem rput_kind (b : Nat) (r : RfV) (vr vo vg vp : Value) (o : OpV) (w : World) (h : RfIs w b r vr vo vg vp) (hq : o.seq = r.next) (k1 : o.kind ≠ 1) (k2 : o.kind ≠ 2) :
    Calls Try.prog 50 #[.pointer (some ⟨b, 0, none⟩), .agg #[.int .i64 o.seq, .int .i64 o.kind, .int .i64 o.time, .int .i64 o.key, .int .i64 o.val]] w fun e w' => e = .returned (.int .i64 2) ∧ Below w.heap.size w w' := by
  have c3 : w.cell? ⟨b, 3, none⟩ = some (.int .i64 r.next) := h.cell 3 _ rfl
  have d3 := alloc_old (o := (.cells #[.int .i64 o.seq, .int .i64 o.kind, .int .i64 o.time, .int .i64 o.key, .int .i64 o.val] 34)) c3
  have H := Lib.hid h
  have g1 : (o.seq != r.next) = false := by simp [hq]
  have g2 : (o.kind != 1) = true := by simp [k1]
  have g3 : (o.kind != 2) = true := by simp [k2]
  clear h c3 hq k1 k2
  go_enter Try.func50, Try.ntmps50
  go_wp2
  go_quiet (fail)
  go_wp2
  go_ret
  exact ⟨rfl, below_drewN (below_alloc _ _) _⟩
set_option maxRecDepth 100000 in
theorem rput_late (b : Nat) (r : RfV) (vr vo vg vp : Value) (o : OpV) (w : World) (h : RfIs w b r vr vo vg vp) (hok : r.ok) (hq : o.seq = r.next) (k1 : o.kind = 1) (he : r.early o.time = true) :
    Calls Try.prog 50 #[.pointer (some ⟨b, 0, none⟩), .agg #[.int .i64 o.seq, .int .i64 o.kind, .int .i64 o.time, .int .i64 o.key, .int .i64 o.val]] w fun e w' => e = .returned (.int .i64 8) ∧ Below w.heap.size w w' := by
  have c3 : w.cell? ⟨b, 3, none⟩ = some (.int .i64 r.next) := h.cell 3 _ rfl
  have d3 := alloc_old (o := (.cells #[.int .i64 o.seq, .int .i64 o.kind, .int .i64 o.time, .int .i64 o.key, .int .i64 o.val] 34)) c3
  have H := Lib.hid h
  have HE := Lib.hid he
  have g1 : (o.seq != r.next) = false := by simp [hq]
  have g2 : (o.kind != 1) = false := by simp [k1]
  have g3 : (o.kind == 1) = true := by simp [k1]
  clear h c3 hq k1 he
  go_enter Try.func50, Try.ntmps50
  go_wp2
  go_quiet (fail)
  go_wp2_with (go_at_call 62; refine (rearly_any b r vr vo vg vp o.time _ (H.out.below (below_drewN (below_alloc w _) _)) hok.ol).mono ?_; rw [HE.out]; rintro e w2 ⟨rfl, hb2⟩; have x1 := (hb2.block w.heap.size (by show w.heap.size < (w.alloc _).heap.size; simp)).trans (heap_alloc_new w _); have X1 := Lib.hid x1; have z0 := blk_cell x1 0 _ rfl; have z1 := blk_cell x1 1 _ rfl; have z2 := blk_cell x1 2 _ rfl; have z3 := blk_cell x1 3 _ rfl; have z4 := blk_cell x1 4 _ rfl; have HB2 := Lib.hid ((below_drewN (below_alloc w _) _).trans (hb2.mono (by show w.heap.size ≤ (w.alloc _).heap.size; simp))); clear hb2 x1)
  go_ret
  exact ⟨rfl, HB2.out⟩
set_option maxRecDepth 100000 in
theorem rput_back (b : Nat) (r : RfV) (vr vo vg vp : Value) (o : OpV) (w : World) (h : RfIs w b r vr vo vg vp) (hok : r.ok) (hq : o.seq = r.next) (k2 : o.kind = 2) (he : r.early o.time = true) :
    Calls Try.prog 50 #[.pointer (some ⟨b, 0, none⟩), .agg #[.int .i64 o.seq, .int .i64 o.kind, .int .i64 o.time, .int .i64 o.key, .int .i64 o.val]] w fun e w' => e = .returned (.int .i64 9) ∧ Below w.heap.size w w' := by
  have c3 : w.cell? ⟨b, 3, none⟩ = some (.int .i64 r.next) := h.cell 3 _ rfl
  have d3 := alloc_old (o := (.cells #[.int .i64 o.seq, .int .i64 o.kind, .int .i64 o.time, .int .i64 o.key, .int .i64 o.val] 34)) c3
  have H := Lib.hid h
  have HE := Lib.hid he
  have g1 : (o.seq != r.next) = false := by simp [hq]
  have g2 : (o.kind != 1) = true := by simp [k2]
  have g2b : (o.kind != 2) = false := by simp [k2]
  have g3 : (o.kind == 1) = false := by simp [k2]
  clear h c3 hq k2 he
  go_enter Try.func50, Try.ntmps50
  go_wp2
  go_quiet (fail)
  go_wp2_with (go_at_call 62; refine (rearly_any b r vr vo vg vp o.time _ (H.out.below (below_drewN (below_alloc w _) _)) hok.ol).mono ?_; rw [HE.out]; rintro e w2 ⟨rfl, hb2⟩; have x1 := (hb2.block w.heap.size (by show w.heap.size < (w.alloc _).heap.size; simp)).trans (heap_alloc_new w _); have X1 := Lib.hid x1; have z0 := blk_cell x1 0 _ rfl; have z1 := blk_cell x1 1 _ rfl; have z2 := blk_cell x1 2 _ rfl; have z3 := blk_cell x1 3 _ rfl; have z4 := blk_cell x1 4 _ rfl; have HB2 := Lib.hid ((below_drewN (below_alloc w _) _).trans (hb2.mono (by show w.heap.size ≤ (w.alloc _).heap.size; simp))); clear hb2 x1)
  go_ret
  exact ⟨rfl, HB2.out⟩
set_option maxRecDepth 100000 in
theorem rput_markform (b : Nat) (r : RfV) (vr vo vg vp : Value) (o : OpV) (w : World) (h : RfIs w b r vr vo vg vp) (hok : r.ok) (hq : o.seq = r.next) (k2 : o.kind = 2) (he : r.early o.time = false) (hz : o.key ≠ 0 ∨ o.val ≠ 0) :
    Calls Try.prog 50 #[.pointer (some ⟨b, 0, none⟩), .agg #[.int .i64 o.seq, .int .i64 o.kind, .int .i64 o.time, .int .i64 o.key, .int .i64 o.val]] w fun e w' => e = .returned (.int .i64 2) ∧ Below w.heap.size w w' := by
  have c3 : w.cell? ⟨b, 3, none⟩ = some (.int .i64 r.next) := h.cell 3 _ rfl
  have d3 := alloc_old (o := (.cells #[.int .i64 o.seq, .int .i64 o.kind, .int .i64 o.time, .int .i64 o.key, .int .i64 o.val] 34)) c3
  have H := Lib.hid h
  have HE := Lib.hid he
  have g1 : (o.seq != r.next) = false := by simp [hq]
  have g2 : (o.kind != 1) = true := by simp [k2]
  have g2b : (o.kind != 2) = false := by simp [k2]
  have g3 : (o.kind == 2) = true := by simp [k2]
  by_cases hy : o.key = 0
  · have g4 : (o.key != 0) = false := by simp [hy]
    have g5 : (o.val != 0) = true := by simp; omega
    clear h c3 hq k2 he hz hy
    go_enter Try.func50, Try.ntmps50
    go_wp2
    go_quiet (fail)
    go_wp2_with (go_at_call 62; refine (rearly_any b r vr vo vg vp o.time _ (H.out.below (below_drewN (below_alloc w _) _)) hok.ol).mono ?_; rw [HE.out]; rintro e w2 ⟨rfl, hb2⟩; have x1 := (hb2.block w.heap.size (by show w.heap.size < (w.alloc _).heap.size; simp)).trans (heap_alloc_new w _); have X1 := Lib.hid x1; have z0 := blk_cell x1 0 _ rfl; have z1 := blk_cell x1 1 _ rfl; have z2 := blk_cell x1 2 _ rfl; have z3 := blk_cell x1 3 _ rfl; have z4 := blk_cell x1 4 _ rfl; have HB2 := Lib.hid ((below_drewN (below_alloc w _) _).trans (hb2.mono (by show w.heap.size ≤ (w.alloc _).heap.size; simp))); clear hb2 x1)
    go_ret
    exact ⟨rfl, HB2.out⟩
  · have g4 : (o.key != 0) = true := by simp [hy]
    clear h c3 hq k2 he hz hy
    go_enter Try.func50, Try.ntmps50
    go_wp2
    go_quiet (fail)
    go_wp2_with (go_at_call 62; refine (rearly_any b r vr vo vg vp o.time _ (H.out.below (below_drewN (below_alloc w _) _)) hok.ol).mono ?_; rw [HE.out]; rintro e w2 ⟨rfl, hb2⟩; have x1 := (hb2.block w.heap.size (by show w.heap.size < (w.alloc _).heap.size; simp)).trans (heap_alloc_new w _); have X1 := Lib.hid x1; have z0 := blk_cell x1 0 _ rfl; have z1 := blk_cell x1 1 _ rfl; have z2 := blk_cell x1 2 _ rfl; have z3 := blk_cell x1 3 _ rfl; have z4 := blk_cell x1 4 _ rfl; have HB2 := Lib.hid ((below_drewN (below_alloc w _) _).trans (hb2.mono (by show w.heap.size ≤ (w.alloc _).heap.size; simp))); clear hb2 x1)
    go_ret
    exact ⟨rfl, HB2.out⟩

theorem infoBool : (Try.prog.info? 4).map (fun i => (i.zero, i.size, i.bytes)) = some (some (.bool false), 1, 1) := by kernel_rfl
theorem fin_ops {W3 w4 : World} {b : Nat} {r : RfV} {vr vo vg vp : Value} {o : OpV} {g cap : Nat} (H3 : RfIs W3 b r vr vo vg vp) (hg : W3.grownBy w4 vo.ownBlock)
    (hrow : w4.ownsRow 0 34 5 (.slice (some ⟨g, 0, none⟩) (r.ops.length + 1) cap) (r.ops.length + 1) (opVals r.ops ++ o.vals)) (hat : vo.ownBlock = some g ∨ g = W3.heap.size) :
    ∃ vo', RfIs (w4.setCell ⟨b, 4, none⟩ (.slice (some ⟨g, 0, none⟩) (r.ops.length + 1) cap)) b { r with ops := r.ops ++ [o] } vr vo' vg vp ∧
      Keeps (fun k => k = b ∨ vo.ownBlock = some k) W3 (w4.setCell ⟨b, 4, none⟩ (.slice (some ⟨g, 0, none⟩) (r.ops.length + 1) cap)) ∧ (∀ k, vo'.ownBlock = some k → vo.ownBlock = some k ∨ W3.heap.size ≤ k) := by
  have n1 := own_ne H3.ops H3.blk (by decide)
  have hb4 : w4.heap[b]? = some (.cells (r.cellsOf vr vo vg vp) 71 (0, 0)) := (hg.block b H3.lt (fun e => n1 e.symm)).trans H3.blk
  have kset : Keeps (fun k => k = b) w4 (w4.setCell ⟨b, 4, none⟩ (.slice (some ⟨g, 0, none⟩) (r.ops.length + 1) cap)) := (Keeps.refl _ w4).set 4 _
  have k4 : Keeps (fun k => k = b ∨ vo.ownBlock = some k) W3 w4 := Keeps.of_grown hg _ (fun i hi => .inr hi)
  refine ⟨.slice (some ⟨g, 0, none⟩) (r.ops.length + 1) cap, ⟨?_, ?_, ?_, ?_, ?_⟩, ?_, ?_⟩
  · exact (heap_set hb4).trans (by simp [RfV.cellsOf])
  · refine own_keep (own_keep H3.res (fun k hk => hg.block k (H3.res.lt k hk).2 (fun e => own_ne2 H3.res H3.ops (by decide) k hk e.symm))) (fun k hk => kset.block k (Nat.lt_of_lt_of_le (H3.res.lt k hk).2 hg.size) ?_)
    intro e; subst e; exact own_ne H3.res H3.blk (by decide) hk
  · have h2 : w4.ownsRow 0 34 5 (.slice (some ⟨g, 0, none⟩) (r.ops.length + 1) cap) (r.ops ++ [o]).length (opVals (r.ops ++ [o])) := by
      rw [opVals_snoc, List.length_append]; exact hrow
    refine own_keep h2 (fun k hk => kset.block k (h2.lt k hk).2 ?_)
    intro e; subst e; exact own_ne hrow hb4 (by decide) hk
  · refine own_keep (own_keep H3.gone (fun k hk => hg.block k (H3.gone.lt k hk).2 (fun e => own_ne2 H3.gone H3.ops (by decide) k hk e.symm))) (fun k hk => kset.block k (Nat.lt_of_lt_of_le (H3.gone.lt k hk).2 hg.size) ?_)
    intro e; subst e; exact own_ne H3.gone H3.blk (by decide) hk
  · refine own_keep (own_keep H3.pla (fun k hk => hg.block k (H3.pla.lt k hk).2 (fun e => own_ne2 H3.pla H3.ops (by decide) k hk e.symm))) (fun k hk => kset.block k (Nat.lt_of_lt_of_le (H3.pla.lt k hk).2 hg.size) ?_)
    intro e; subst e; exact own_ne H3.pla H3.blk (by decide) hk
  · exact k4.trans kset (fun _ _ h => .inl h)
  · intro k hk
    obtain rfl : g = k := Option.some.inj hk
    rcases hat with h | h
    · exact .inl h
    · right; omega
theorem boolVals_snoc (l : List Bool) (d : Bool) : boolVals (l ++ [d]) = boolVals l ++ [.bool d] := by simp [boolVals]
theorem fin_gone {W3 w4 : World} {b : Nat} {r : RfV} {vr vo vg vp : Value} {g cap : Nat} (H3 : RfIs W3 b r vr vo vg vp) (hg : W3.grownBy w4 vg.ownBlock)
    (hrow : w4.ownsRow 0 4 1 (.slice (some ⟨g, 0, none⟩) (r.gone.length + 1) cap) (r.gone.length + 1) (boolVals r.gone ++ [.bool false])) (hat : vg.ownBlock = some g ∨ g = W3.heap.size) :
    ∃ vg', RfIs (w4.setCell ⟨b, 5, none⟩ (.slice (some ⟨g, 0, none⟩) (r.gone.length + 1) cap)) b { r with gone := r.gone ++ [false] } vr vo vg' vp ∧
      Keeps (fun k => k = b ∨ vg.ownBlock = some k) W3 (w4.setCell ⟨b, 5, none⟩ (.slice (some ⟨g, 0, none⟩) (r.gone.length + 1) cap)) ∧ (∀ k, vg'.ownBlock = some k → vg.ownBlock = some k ∨ W3.heap.size ≤ k) := by
  have n1 := own_ne H3.gone H3.blk (by decide)
  have hb4 : w4.heap[b]? = some (.cells (r.cellsOf vr vo vg vp) 71 (0, 0)) := (hg.block b H3.lt (fun e => n1 e.symm)).trans H3.blk
  have kset : Keeps (fun k => k = b) w4 (w4.setCell ⟨b, 5, none⟩ (.slice (some ⟨g, 0, none⟩) (r.gone.length + 1) cap)) := (Keeps.refl _ w4).set 5 _
  have k4 : Keeps (fun k => k = b ∨ vg.ownBlock = some k) W3 w4 := Keeps.of_grown hg _ (fun i hi => .inr hi)
  refine ⟨.slice (some ⟨g, 0, none⟩) (r.gone.length + 1) cap, ⟨?_, ?_, ?_, ?_, ?_⟩, ?_, ?_⟩
  · exact (heap_set hb4).trans (by simp [RfV.cellsOf])
  · refine own_keep (own_keep H3.res (fun k hk => hg.block k (H3.res.lt k hk).2 (fun e => own_ne2 H3.res H3.gone (by decide) k hk e.symm))) (fun k hk => kset.block k (Nat.lt_of_lt_of_le (H3.res.lt k hk).2 hg.size) ?_)
    intro e; subst e; exact own_ne H3.res H3.blk (by decide) hk
  · refine own_keep (own_keep H3.ops (fun k hk => hg.block k (H3.ops.lt k hk).2 (fun e => own_ne2 H3.ops H3.gone (by decide) k hk e.symm))) (fun k hk => kset.block k (Nat.lt_of_lt_of_le (H3.ops.lt k hk).2 hg.size) ?_)
    intro e; subst e; exact own_ne H3.ops H3.blk (by decide) hk
  · have h2 : w4.ownsRow 0 4 1 (.slice (some ⟨g, 0, none⟩) (r.gone.length + 1) cap) (r.gone ++ [false]).length (boolVals (r.gone ++ [false])) := by
      rw [boolVals_snoc, List.length_append]; exact hrow
    refine own_keep h2 (fun k hk => kset.block k (h2.lt k hk).2 ?_)
    intro e; subst e; exact own_ne hrow hb4 (by decide) hk
  · refine own_keep (own_keep H3.pla (fun k hk => hg.block k (H3.pla.lt k hk).2 (fun e => own_ne2 H3.pla H3.gone (by decide) k hk e.symm))) (fun k hk => kset.block k (Nat.lt_of_lt_of_le (H3.pla.lt k hk).2 hg.size) ?_)
    intro e; subst e; exact own_ne H3.pla H3.blk (by decide) hk
  · exact k4.trans kset (fun _ _ h => .inl h)
  · intro k hk
    obtain rfl : g = k := Option.some.inj hk
    rcases hat with h | h
    · exact .inl h
    · right; omega
theorem fin_next {W : World} {b : Nat} {r : RfV} {vr vo vg vp : Value} (H : RfIs W b r vr vo vg vp) (n : Int) : RfIs (W.setCell ⟨b, 3, none⟩ (.int .i64 n)) b { r with next := n } vr vo vg vp := by
  have kset : Keeps (fun k => k = b) W (W.setCell ⟨b, 3, none⟩ (.int .i64 n)) := (Keeps.refl _ W).set 3 _
  have e : ∀ {T : TypeId} {sz m : Nat} {v : Value} {xs : List Value}, W.ownsRow 0 T sz v m xs → T ≠ 71 → (W.setCell ⟨b, 3, none⟩ (.int .i64 n)).ownsRow 0 T sz v m xs := fun h hT =>
    own_keep h (fun k hk => kset.block k (h.lt k hk).2 (fun e => by subst e; exact own_ne h H.blk hT hk))
  exact ⟨(heap_set H.blk).trans (by simp [RfV.cellsOf]), e H.res (by decide), e H.ops (by decide), e H.gone (by decide), e H.pla (by decide)⟩
/-- a document's stream that took an operation -/
def rtook (r : RfV) (o : OpV) : RfV := { r with ops := r.ops ++ [o], gone := r.gone ++ [false], next := r.next + 1 }
set_option maxHeartbeats 1000000 in
set_option maxRecDepth 100000 in
theorem rput_sample (b : Nat) (r : RfV) (vr vo vg vp : Value) (o : OpV) (w : World) (h : RfIs w b r vr vo vg vp) (hok : r.ok) (hol : r.ops.length ≤ 2000000000000) (hn2 : r.next ≤ 4000000000000000000) (hq : o.seq = r.next) (k1 : o.kind = 1) (he : r.early o.time = false) :
    Calls Try.prog 50 #[.pointer (some ⟨b, 0, none⟩), .agg #[.int .i64 o.seq, .int .i64 o.kind, .int .i64 o.time, .int .i64 o.key, .int .i64 o.val]] w fun e w' => e = .returned (.int .i64 0) ∧ ∃ vo' vg', RfIs w' b (rtook r o) vr vo' vg' vp ∧ Keeps (fun k => k = b ∨ vo.ownBlock = some k ∨ vg.ownBlock = some k) w w' ∧
      (∀ k, vo'.ownBlock = some k → vo.ownBlock = some k ∨ w.heap.size ≤ k) ∧ (∀ k, vg'.ownBlock = some k → vg.ownBlock = some k ∨ w.heap.size ≤ k) := by
  obtain ⟨i0, hi, hz0, hz1, hz2⟩ := info_parts infoOp
  obtain ⟨i1, hi1, hy0, hy1, hy2⟩ := info_parts infoBool
  have c3 : w.cell? ⟨b, 3, none⟩ = some (.int .i64 r.next) := h.cell 3 _ rfl
  have d3 := alloc_old (o := (.cells #[.int .i64 o.seq, .int .i64 o.kind, .int .i64 o.time, .int .i64 o.key, .int .i64 o.val] 34)) c3
  have H := Lib.hid h
  have HE := Lib.hid he
  have hn1 := hok.n1
  have hgl : r.gone.length ≤ 2000000000000 := by rw [hok.gl]; exact hol
  have g1 : (o.seq != r.next) = false := by simp [hq]
  have g2 : (o.kind != 1) = false := by simp [k1]
  have g3 : (o.kind == 1) = true := by simp [k1]
  have g3b : (o.kind == 2) = false := by simp [k1]
  clear h c3 hq k1 he
  go_enter Try.func50, Try.ntmps50
  go_wp2
  go_quiet (fail)
  go_wp2_with (go_at_call 62; refine (rearly_any b r vr vo vg vp o.time _ (H.out.below (below_drewN (below_alloc w _) _)) hok.ol).mono ?_; rw [HE.out]; rintro e w2 ⟨rfl, hb2⟩; have x1 := (hb2.block w.heap.size (by show w.heap.size < (w.alloc _).heap.size; simp)).trans (heap_alloc_new w _); have X1 := Lib.hid x1; have z0 := blk_cell x1 0 _ rfl; have z1 := blk_cell x1 1 _ rfl; have z2 := blk_cell x1 2 _ rfl; have z3 := blk_cell x1 3 _ rfl; have z4 := blk_cell x1 4 _ rfl; have HB2 := Lib.hid ((below_drewN (below_alloc w _) _).trans (hb2.mono (by show w.heap.size ≤ (w.alloc _).heap.size; simp))); clear hb2 x1)
  have H2 := Lib.hid (H.out.below HB2.out)
  have e4 : w2.cell? ⟨b, 4, none⟩ = some vo := H2.out.cell 4 _ rfl
  have f4 := blk_frozen H2.out.blk 4
  have hbl2 := H2.out.lt
  have e4a : ∀ ob, ((w2.drew).alloc ob).cell? ⟨b, 4, none⟩ = some vo := fun ob => alloc_old (o := ob) e4
  have HN := Lib.hid (own_ne H2.out.ops H2.out.blk (by decide))
  go_region_law (first | (refine step_append_lies _ rfl (.tmp 46) (.tmp 48) 40 rfl 0 34 i0 (.agg #[.int .i64 0, .int .i64 0, .int .i64 0, .int .i64 0, .int .i64 0]) 5 40 Try.underlying40 hi hz0 hz1 hz2 rfl (by decide) vo r.ops.length (opVals r.ops) rfl (H2.out.ops.alloc _).drew ⟨w2.heap.size, 0, none⟩ 1 1 o.vals rfl rfl (new_row _ _ _) (by simp [OpV.vals, Value.oneCell']) (by omega) (by unfold maxLen; omega) (by omega) (Nat.zero_le _) _ rfl ?_; intro g cap w4 hrow hg hat hgl2; have hb4 : w4.heap[b]? = some (.cells (r.cellsOf vr vo vg vp) 71 (0, 0)) := (hg.block b (by simp; omega) (fun e => HN.out e.symm)).trans ((Below.heap_alloc _ _ b hbl2).trans H2.out.blk); have e4' := blk_cell hb4 4 _ rfl; have f4' := blk_frozen hb4 4; have HG := Lib.hid hg; have HROW := Lib.hid hrow; have HAT := Lib.hid hat; clear hb4 hg hrow hat))
  all_goals
    obtain ⟨vo', R1, K1, F1⟩ := fin_ops (H2.out.below ((below_alloc w2 _).drew)) HG.out HROW.out HAT.out
    have HR1 := Lib.hid R1
    have HK1 := Lib.hid K1
    have HF1 := Lib.hid F1
    clear R1 K1 F1 HG HROW HAT e4' f4'
    generalize World.setCell w4 ⟨b, 4, none⟩ _ = W5 at *
    have e5 : W5.cell? ⟨b, 5, none⟩ = some vg := HR1.out.cell 5 _ rfl
    have f5 := blk_frozen HR1.out.blk 5
    have hbl5 := HR1.out.lt
    have HN5 := Lib.hid (own_ne HR1.out.gone HR1.out.blk (by decide))
    go_wp2_with (at_builtin; refine wpList_append_lies _ rfl (.tmp 56) (.tmp 57) 69 rfl 0 4 i1 (.bool false) 1 1 Try.underlying69 hi1 hy0 hy1 hy2 rfl (by decide) vg r.gone.length (boolVals r.gone) rfl (HR1.out.gone.alloc _) ⟨W5.heap.size, 0, none⟩ 1 1 [.bool false] rfl rfl (new_row' _ _ _) (by simp [Value.oneCell']) (by omega) (by unfold maxLen; omega) (by omega) (Nat.zero_le _) _ rfl ?_; intro g6 cap6 w6 hrow hg hat hgl6; have hb6 : w6.heap[b]? = some (.cells (RfV.cellsOf { r with ops := r.ops ++ [o] } vr vo' vg vp) 71 (0, 0)) := (hg.block b (by simp; omega) (fun e => HN5.out e.symm)).trans ((Below.heap_alloc _ _ b hbl5).trans HR1.out.blk); have e5' : w6.cell? ⟨b, 5, none⟩ = some vg := blk_cell hb6 5 _ rfl; have f5' := blk_frozen hb6 5; have e3' : w6.cell? ⟨b, 3, none⟩ = some (.int .i64 r.next) := blk_cell hb6 3 _ rfl; have f3' := blk_frozen hb6 3; have HG := Lib.hid hg; have HROW := Lib.hid hrow; have HAT := Lib.hid hat; clear hb6 hg hrow hat)
    go_ret
    obtain ⟨vg', R2, K2, F2⟩ := fin_gone (HR1.out.below (below_alloc W5 _)) HG.out HROW.out HAT.out
    have q2 := HB2.out.size
    have k5 : w2.heap.size ≤ W5.heap.size := by have := HK1.out.size; simp at this; omega
    refine ⟨rfl, vo', vg', fin_next R2 _, ?_, ?_, ?_⟩
    · have s1 : Keeps (fun k => k = b ∨ vo.ownBlock = some k ∨ vg.ownBlock = some k) w W5 := ((Keeps.of_below HB2.out _ (fun i hi h2 => by omega)).alloc _).drew.trans HK1.out (fun i _ h => h.elim .inl (fun h => .inr (.inl h)))
      exact (((s1.alloc _).trans K2 (fun i _ h => h.elim .inl (fun h => .inr (.inr h))))).trans (keeps_set _ b 3 _) (fun i _ h => .inl h)
    · intro k hk
      rcases HF1.out k hk with h | h
      · exact .inl h
      · right; simp at h; omega
    · intro k hk
      rcases F2 k hk with h | h
      · exact .inl h
      · right; simp at h; omega
set_option maxHeartbeats 1000000 in
set_option maxRecDepth 100000 in
theorem rput_mark (b : Nat) (r : RfV) (vr vo vg vp : Value) (o : OpV) (w : World) (h : RfIs w b r vr vo vg vp) (hok : r.ok) (hol : r.ops.length ≤ 2000000000000) (hn2 : r.next ≤ 4000000000000000000) (hq : o.seq = r.next) (k2 : o.kind = 2) (he : r.early o.time = false) (hy : o.key = 0) (hz : o.val = 0) :
    Calls Try.prog 50 #[.pointer (some ⟨b, 0, none⟩), .agg #[.int .i64 o.seq, .int .i64 o.kind, .int .i64 o.time, .int .i64 o.key, .int .i64 o.val]] w fun e w' => e = .returned (.int .i64 0) ∧ ∃ vo' vg', RfIs w' b (rtook r o) vr vo' vg' vp ∧ Keeps (fun k => k = b ∨ vo.ownBlock = some k ∨ vg.ownBlock = some k) w w' ∧
      (∀ k, vo'.ownBlock = some k → vo.ownBlock = some k ∨ w.heap.size ≤ k) ∧ (∀ k, vg'.ownBlock = some k → vg.ownBlock = some k ∨ w.heap.size ≤ k) := by
  obtain ⟨i0, hi, hz0, hz1, hz2⟩ := info_parts infoOp
  obtain ⟨i1, hi1, hy0, hy1, hy2⟩ := info_parts infoBool
  have c3 : w.cell? ⟨b, 3, none⟩ = some (.int .i64 r.next) := h.cell 3 _ rfl
  have d3 := alloc_old (o := (.cells #[.int .i64 o.seq, .int .i64 o.kind, .int .i64 o.time, .int .i64 o.key, .int .i64 o.val] 34)) c3
  have H := Lib.hid h
  have HE := Lib.hid he
  have hn1 := hok.n1
  have hgl : r.gone.length ≤ 2000000000000 := by rw [hok.gl]; exact hol
  have g1 : (o.seq != r.next) = false := by simp [hq]
  have g2 : (o.kind != 1) = true := by simp [k2]
  have g2b : (o.kind != 2) = false := by simp [k2]
  have g3 : (o.kind == 1) = false := by simp [k2]
  have g3b : (o.kind == 2) = true := by simp [k2]
  have g4 : (o.key != 0) = false := by simp [hy]
  have g5 : (o.val != 0) = false := by simp [hz]
  clear h c3 hq k2 he hy hz
  go_enter Try.func50, Try.ntmps50
  go_wp2
  go_quiet (fail)
  go_wp2_with (go_at_call 62; refine (rearly_any b r vr vo vg vp o.time _ (H.out.below (below_drewN (below_alloc w _) _)) hok.ol).mono ?_; rw [HE.out]; rintro e w2 ⟨rfl, hb2⟩; have x1 := (hb2.block w.heap.size (by show w.heap.size < (w.alloc _).heap.size; simp)).trans (heap_alloc_new w _); have X1 := Lib.hid x1; have z0 := blk_cell x1 0 _ rfl; have z1 := blk_cell x1 1 _ rfl; have z2 := blk_cell x1 2 _ rfl; have z3 := blk_cell x1 3 _ rfl; have z4 := blk_cell x1 4 _ rfl; have HB2 := Lib.hid ((below_drewN (below_alloc w _) _).trans (hb2.mono (by show w.heap.size ≤ (w.alloc _).heap.size; simp))); clear hb2 x1)
  have H2 := Lib.hid (H.out.below HB2.out)
  have e4 : w2.cell? ⟨b, 4, none⟩ = some vo := H2.out.cell 4 _ rfl
  have f4 := blk_frozen H2.out.blk 4
  have hbl2 := H2.out.lt
  have e4a : ∀ ob, ((w2.drew).alloc ob).cell? ⟨b, 4, none⟩ = some vo := fun ob => alloc_old (o := ob) e4
  have HN := Lib.hid (own_ne H2.out.ops H2.out.blk (by decide))
  go_region_law (first | (refine step_append_lies _ rfl (.tmp 46) (.tmp 48) 40 rfl 0 34 i0 (.agg #[.int .i64 0, .int .i64 0, .int .i64 0, .int .i64 0, .int .i64 0]) 5 40 Try.underlying40 hi hz0 hz1 hz2 rfl (by decide) vo r.ops.length (opVals r.ops) rfl (H2.out.ops.alloc _).drew ⟨w2.heap.size, 0, none⟩ 1 1 o.vals rfl rfl (new_row _ _ _) (by simp [OpV.vals, Value.oneCell']) (by omega) (by unfold maxLen; omega) (by omega) (Nat.zero_le _) _ rfl ?_; intro g cap w4 hrow hg hat hgl2; have hb4 : w4.heap[b]? = some (.cells (r.cellsOf vr vo vg vp) 71 (0, 0)) := (hg.block b (by simp; omega) (fun e => HN.out e.symm)).trans ((Below.heap_alloc _ _ b hbl2).trans H2.out.blk); have e4' := blk_cell hb4 4 _ rfl; have f4' := blk_frozen hb4 4; have HG := Lib.hid hg; have HROW := Lib.hid hrow; have HAT := Lib.hid hat; clear hb4 hg hrow hat))
  all_goals
    obtain ⟨vo', R1, K1, F1⟩ := fin_ops (H2.out.below ((below_alloc w2 _).drew)) HG.out HROW.out HAT.out
    have HR1 := Lib.hid R1
    have HK1 := Lib.hid K1
    have HF1 := Lib.hid F1
    clear R1 K1 F1 HG HROW HAT e4' f4'
    generalize World.setCell w4 ⟨b, 4, none⟩ _ = W5 at *
    have e5 : W5.cell? ⟨b, 5, none⟩ = some vg := HR1.out.cell 5 _ rfl
    have f5 := blk_frozen HR1.out.blk 5
    have hbl5 := HR1.out.lt
    have HN5 := Lib.hid (own_ne HR1.out.gone HR1.out.blk (by decide))
    go_wp2_with (at_builtin; refine wpList_append_lies _ rfl (.tmp 56) (.tmp 57) 69 rfl 0 4 i1 (.bool false) 1 1 Try.underlying69 hi1 hy0 hy1 hy2 rfl (by decide) vg r.gone.length (boolVals r.gone) rfl (HR1.out.gone.alloc _) ⟨W5.heap.size, 0, none⟩ 1 1 [.bool false] rfl rfl (new_row' _ _ _) (by simp [Value.oneCell']) (by omega) (by unfold maxLen; omega) (by omega) (Nat.zero_le _) _ rfl ?_; intro g6 cap6 w6 hrow hg hat hgl6; have hb6 : w6.heap[b]? = some (.cells (RfV.cellsOf { r with ops := r.ops ++ [o] } vr vo' vg vp) 71 (0, 0)) := (hg.block b (by simp; omega) (fun e => HN5.out e.symm)).trans ((Below.heap_alloc _ _ b hbl5).trans HR1.out.blk); have e5' : w6.cell? ⟨b, 5, none⟩ = some vg := blk_cell hb6 5 _ rfl; have f5' := blk_frozen hb6 5; have e3' : w6.cell? ⟨b, 3, none⟩ = some (.int .i64 r.next) := blk_cell hb6 3 _ rfl; have f3' := blk_frozen hb6 3; have HG := Lib.hid hg; have HROW := Lib.hid hrow; have HAT := Lib.hid hat; clear hb6 hg hrow hat)
    go_ret
    obtain ⟨vg', R2, K2, F2⟩ := fin_gone (HR1.out.below (below_alloc W5 _)) HG.out HROW.out HAT.out
    have q2 := HB2.out.size
    have k5 : w2.heap.size ≤ W5.heap.size := by have := HK1.out.size; simp at this; omega
    refine ⟨rfl, vo', vg', fin_next R2 _, ?_, ?_, ?_⟩
    · have s1 : Keeps (fun k => k = b ∨ vo.ownBlock = some k ∨ vg.ownBlock = some k) w W5 := ((Keeps.of_below HB2.out _ (fun i hi h2 => by omega)).alloc _).drew.trans HK1.out (fun i _ h => h.elim .inl (fun h => .inr (.inl h)))
      exact (((s1.alloc _).trans K2 (fun i _ h => h.elim .inl (fun h => .inr (.inr h))))).trans (keeps_set _ b 3 _) (fun i _ h => .inl h)
    · intro k hk
      rcases HF1.out k hk with h | h
      · exact .inl h
      · right; simp at h; omega
    · intro k hk
      rcases F2 k hk with h | h
      · exact .inl h
      · right; simp at h; omega
end Go.Proofs.Ytomekiidgdkmiaa
