/-
  The document's stream: Sample, Mark, Put.
-/
import Derived.Test.YtomekiidgdkmiaaRf
namespace Go.Proofs.Ytomekiidgdkmiaa
open Go.RowKit
set_option linter.unusedVariables false
set_option linter.unusedSimpArgs false

set_option maxRecDepth 100000 in
theorem rsample_late (b : Nat) (r : RfV) (vr vo vg vp : Value) (t k x : Int) (w : World) (h : RfIs w b r vr vo vg vp) (hok : r.ok) (he : r.early t = true) :
    Calls Try.prog 48 #[.pointer (some ⟨b, 0, none⟩), .int .i64 t, .int .i64 k, .int .i64 x] w
      fun e w' => e = .returned (.tuple #[.agg #[.int .i64 0, .int .i64 0, .int .i64 0, .int .i64 0, .int .i64 0], .int .i64 8]) ∧ Below w.heap.size w w' := by
  have HC := Lib.hid (rearly_any b r vr vo vg vp t _ (h.below (below_alloc w (.cells #[.int .i64 0, .int .i64 0, .int .i64 0, .int .i64 0, .int .i64 0] 34))) hok.ol)
  rw [he] at HC
  clear h he
  go_enter Try.func48, Try.ntmps48
  go_wp2_with (go_at_call 62; refine HC.out.mono ?_; rintro e w1 ⟨rfl, hb1⟩; have HB1 := Lib.hid ((below_alloc w _).trans (hb1.mono (by simp))); have x1 := (hb1.block w.heap.size (by simp)).trans (heap_alloc_new w _); have X1 := Lib.hid x1; have f0 := blk_frozen x1 0; have f1 := blk_frozen x1 1; have f2 := blk_frozen x1 2; have f3 := blk_frozen x1 3; have f4 := blk_frozen x1 4; have z0 := blk_cell x1 0 _ rfl; have z1 := blk_cell x1 1 _ rfl; have z2 := blk_cell x1 2 _ rfl; have z3 := blk_cell x1 3 _ rfl; have z4 := blk_cell x1 4 _ rfl; clear hb1 x1)
  have q := box5_blk (v0 := .int .i64 0) (v1 := .int .i64 0) (v2 := .int .i64 0) (v3 := .int .i64 0) (v4 := .int .i64 0) X1.out
  have r0 := blk_cell q 0 _ rfl
  have r1 := blk_cell q 1 _ rfl
  have r2 := blk_cell q 2 _ rfl
  have r3 := blk_cell q 3 _ rfl
  have r4 := blk_cell q 4 _ rfl
  exact bodyPost_ret (v := .tuple #[.agg #[.int .i64 0, .int .i64 0, .int .i64 0, .int .i64 0, .int .i64 0], .int .i64 8]) (by simp [results, Try.results48, go_sem, r0, r1, r2, r3, r4]) rfl ⟨rfl, box5 HB1.out (Nat.le_refl _)⟩
set_option maxRecDepth 100000 in
theorem rsample_full (b : Nat) (r : RfV) (vr vo vg vp : Value) (t k x : Int) (w : World) (h : RfIs w b r vr vo vg vp) (hok : r.ok) (he : r.early t = false) (hf : r.hold ≤ (heldR r.ops r.gone).length) :
    Calls Try.prog 48 #[.pointer (some ⟨b, 0, none⟩), .int .i64 t, .int .i64 k, .int .i64 x] w
      fun e w' => e = .returned (.tuple #[.agg #[.int .i64 0, .int .i64 0, .int .i64 0, .int .i64 0, .int .i64 0], .int .i64 10]) ∧ Below w.heap.size w w' := by
  have HC := Lib.hid (rearly_any b r vr vo vg vp t _ (h.below (below_alloc w (.cells #[.int .i64 0, .int .i64 0, .int .i64 0, .int .i64 0, .int .i64 0] 34))) hok.ol)
  rw [he] at HC
  have H := Lib.hid h
  have g1 : decide (r.hold ≤ ((heldR r.ops r.gone).length : Int)) = true := by simpa using hf
  have hblt := h.lt
  clear h he hf
  go_enter Try.func48, Try.ntmps48
  go_wp2_with (go_at_call 62; refine HC.out.mono ?_; rintro e w1 ⟨rfl, hb1⟩; have HB1 := Lib.hid ((below_alloc w _).trans (hb1.mono (by simp))); have x1 := (hb1.block w.heap.size (by simp)).trans (heap_alloc_new w _); have X1 := Lib.hid x1; have f0 := blk_frozen x1 0; have f1 := blk_frozen x1 1; have f2 := blk_frozen x1 2; have f3 := blk_frozen x1 3; have f4 := blk_frozen x1 4; have z0 := blk_cell x1 0 _ rfl; have z1 := blk_cell x1 1 _ rfl; have z2 := blk_cell x1 2 _ rfl; have z3 := blk_cell x1 3 _ rfl; have z4 := blk_cell x1 4 _ rfl; clear hb1 x1)
  have c2 : w1.cell? ⟨b, 2, none⟩ = some (.int .i64 r.hold) := (H.out.below HB1.out).cell 2 _ rfl
  have hz1 := HB1.out.size
  go_region_held3 (fun w' => w'.cell? ⟨b, 2, none⟩ = some (.int .i64 r.hold)) (first | exact ‹_› | go_keep) ((go_at_call 54; refine (rheld_any b r vr vo vg vp _ (H.out.below (HB1.out.drew)) hok.ol hok.gl).mono ?_; rintro e w5 ⟨v, rfl, hv, hb5⟩; obtain ⟨A5, c5, rfl⟩ := own_slice hv; have HB5 := Lib.hid (undrew2 hb5); have c2' := old_cell (undrew2 hb5) c2 (cell_lt c2); have x5 := ((undrew2 hb5).block w.heap.size (cell_lt z0)).trans X1.out; have X5 := Lib.hid x5; clear f0 f1 f2 f3 f4 z0 z1 z2 z3 z4 c2; have f0 := blk_frozen x5 0; have f1 := blk_frozen x5 1; have f2 := blk_frozen x5 2; have f3 := blk_frozen x5 3; have f4 := blk_frozen x5 4; have z0 := blk_cell x5 0 _ rfl; have z1 := blk_cell x5 1 _ rfl; have z2 := blk_cell x5 2 _ rfl; have z3 := blk_cell x5 3 _ rfl; have z4 := blk_cell x5 4 _ rfl; clear hv hb5 x5))
  go_wp2
  have q := box5_blk (v0 := .int .i64 0) (v1 := .int .i64 0) (v2 := .int .i64 0) (v3 := .int .i64 0) (v4 := .int .i64 0) X5.out
  have r0 := blk_cell q 0 _ rfl
  have r1 := blk_cell q 1 _ rfl
  have r2 := blk_cell q 2 _ rfl
  have r3 := blk_cell q 3 _ rfl
  have r4 := blk_cell q 4 _ rfl
  exact bodyPost_ret (v := .tuple #[.agg #[.int .i64 0, .int .i64 0, .int .i64 0, .int .i64 0, .int .i64 0], .int .i64 10]) (by simp [results, Try.results48, go_sem, r0, r1, r2, r3, r4]) rfl ⟨rfl, box5 (HB1.out.trans (HB5.out.mono hz1)) (Nat.le_refl _)⟩
set_option maxRecDepth 100000 in
theorem rsample_ok (b : Nat) (r : RfV) (vr vo vg vp : Value) (t k x : Int) (w : World) (h : RfIs w b r vr vo vg vp) (hok : r.ok) (he : r.early t = false) (hf : ¬ r.hold ≤ (heldR r.ops r.gone).length) :
    Calls Try.prog 48 #[.pointer (some ⟨b, 0, none⟩), .int .i64 t, .int .i64 k, .int .i64 x] w
      fun e w' => e = .returned (.tuple #[.agg #[.int .i64 r.next, .int .i64 1, .int .i64 t, .int .i64 k, .int .i64 x], .int .i64 0]) ∧ Below w.heap.size w w' := by
  have HC := Lib.hid (rearly_any b r vr vo vg vp t _ (h.below (below_alloc w (.cells #[.int .i64 0, .int .i64 0, .int .i64 0, .int .i64 0, .int .i64 0] 34))) hok.ol)
  rw [he] at HC
  have H := Lib.hid h
  have g1 : decide (r.hold ≤ ((heldR r.ops r.gone).length : Int)) = false := by simpa using hf
  have hblt := h.lt
  clear h he hf
  go_enter Try.func48, Try.ntmps48
  go_wp2_with (go_at_call 62; refine HC.out.mono ?_; rintro e w1 ⟨rfl, hb1⟩; have HB1 := Lib.hid ((below_alloc w _).trans (hb1.mono (by simp))); have x1 := (hb1.block w.heap.size (by simp)).trans (heap_alloc_new w _); have X1 := Lib.hid x1; have f0 := blk_frozen x1 0; have f1 := blk_frozen x1 1; have f2 := blk_frozen x1 2; have f3 := blk_frozen x1 3; have f4 := blk_frozen x1 4; have z0 := blk_cell x1 0 _ rfl; have z1 := blk_cell x1 1 _ rfl; have z2 := blk_cell x1 2 _ rfl; have z3 := blk_cell x1 3 _ rfl; have z4 := blk_cell x1 4 _ rfl; clear hb1 x1)
  have c2 : w1.cell? ⟨b, 2, none⟩ = some (.int .i64 r.hold) := (H.out.below HB1.out).cell 2 _ rfl
  have hz1 := HB1.out.size
  go_region_held3 (fun w' => w'.cell? ⟨b, 2, none⟩ = some (.int .i64 r.hold)) (first | exact ‹_› | go_keep) ((go_at_call 54; refine (rheld_any b r vr vo vg vp _ (H.out.below (HB1.out.drew)) hok.ol hok.gl).mono ?_; rintro e w5 ⟨v, rfl, hv, hb5⟩; obtain ⟨A5, c5, rfl⟩ := own_slice hv; have HB5 := Lib.hid (undrew2 hb5); have c3 : w5.cell? ⟨b, 3, none⟩ = some (.int .i64 r.next) := (H.out.below (HB1.out.trans ((undrew2 hb5).mono hz1))).cell 3 _ rfl; have c2' := old_cell (undrew2 hb5) c2 (cell_lt c2); have x5 := ((undrew2 hb5).block w.heap.size (cell_lt z0)).trans X1.out; have X5 := Lib.hid x5; clear f0 f1 f2 f3 f4 z0 z1 z2 z3 z4 c2; have f0 := blk_frozen x5 0; have f1 := blk_frozen x5 1; have f2 := blk_frozen x5 2; have f3 := blk_frozen x5 3; have f4 := blk_frozen x5 4; have z0 := blk_cell x5 0 _ rfl; have z1 := blk_cell x5 1 _ rfl; have z2 := blk_cell x5 2 _ rfl; have z3 := blk_cell x5 3 _ rfl; have z4 := blk_cell x5 4 _ rfl; clear hv hb5 x5))
  go_wp2
  have q := box5_blk (v0 := .int .i64 r.next) (v1 := .int .i64 1) (v2 := .int .i64 t) (v3 := .int .i64 k) (v4 := .int .i64 x) X5.out
  have r0 := blk_cell q 0 _ rfl
  have r1 := blk_cell q 1 _ rfl
  have r2 := blk_cell q 2 _ rfl
  have r3 := blk_cell q 3 _ rfl
  have r4 := blk_cell q 4 _ rfl
  exact bodyPost_ret (v := .tuple #[.agg #[.int .i64 r.next, .int .i64 1, .int .i64 t, .int .i64 k, .int .i64 x], .int .i64 0]) (by simp [results, Try.results48, go_sem, r0, r1, r2, r3, r4]) rfl ⟨rfl, box5 (HB1.out.trans (HB5.out.mono hz1)) (Nat.le_refl _)⟩
set_option maxRecDepth 100000 in
theorem rmark_back (b : Nat) (r : RfV) (vr vo vg vp : Value) (t : Int) (w : World) (h : RfIs w b r vr vo vg vp) (hok : r.ok) (he : r.early t = true) :
    Calls Try.prog 49 #[.pointer (some ⟨b, 0, none⟩), .int .i64 t] w
      fun e w' => e = .returned (.tuple #[.agg #[.int .i64 0, .int .i64 0, .int .i64 0, .int .i64 0, .int .i64 0], .int .i64 9]) ∧ Below w.heap.size w w' := by
  have HC := Lib.hid (rearly_any b r vr vo vg vp t _ (h.below (below_alloc w (.cells #[.int .i64 0, .int .i64 0, .int .i64 0, .int .i64 0, .int .i64 0] 34))) hok.ol)
  rw [he] at HC
  clear h he
  go_enter Try.func49, Try.ntmps49
  go_wp2_with (go_at_call 62; refine HC.out.mono ?_; rintro e w1 ⟨rfl, hb1⟩; have HB1 := Lib.hid ((below_alloc w _).trans (hb1.mono (by simp))); have x1 := (hb1.block w.heap.size (by simp)).trans (heap_alloc_new w _); have X1 := Lib.hid x1; have f0 := blk_frozen x1 0; have f1 := blk_frozen x1 1; have f2 := blk_frozen x1 2; have f3 := blk_frozen x1 3; have f4 := blk_frozen x1 4; have z0 := blk_cell x1 0 _ rfl; have z1 := blk_cell x1 1 _ rfl; have z2 := blk_cell x1 2 _ rfl; have z3 := blk_cell x1 3 _ rfl; have z4 := blk_cell x1 4 _ rfl; clear hb1 x1)
  have q := box5_blk (v0 := .int .i64 0) (v1 := .int .i64 0) (v2 := .int .i64 0) (v3 := .int .i64 0) (v4 := .int .i64 0) X1.out
  have r0 := blk_cell q 0 _ rfl
  have r1 := blk_cell q 1 _ rfl
  have r2 := blk_cell q 2 _ rfl
  have r3 := blk_cell q 3 _ rfl
  have r4 := blk_cell q 4 _ rfl
  exact bodyPost_ret (v := .tuple #[.agg #[.int .i64 0, .int .i64 0, .int .i64 0, .int .i64 0, .int .i64 0], .int .i64 9]) (by simp [results, Try.results49, go_sem, r0, r1, r2, r3, r4]) rfl ⟨rfl, box5 HB1.out (Nat.le_refl _)⟩
set_option maxRecDepth 100000 in
theorem rmark_ok (b : Nat) (r : RfV) (vr vo vg vp : Value) (t : Int) (w : World) (h : RfIs w b r vr vo vg vp) (hok : r.ok) (he : r.early t = false) :
    Calls Try.prog 49 #[.pointer (some ⟨b, 0, none⟩), .int .i64 t] w
      fun e w' => e = .returned (.tuple #[.agg #[.int .i64 r.next, .int .i64 2, .int .i64 t, .int .i64 0, .int .i64 0], .int .i64 0]) ∧ Below w.heap.size w w' := by
  have HC := Lib.hid (rearly_any b r vr vo vg vp t _ (h.below (below_alloc w (.cells #[.int .i64 0, .int .i64 0, .int .i64 0, .int .i64 0, .int .i64 0] 34))) hok.ol)
  rw [he] at HC
  have H := Lib.hid h
  clear h he
  go_enter Try.func49, Try.ntmps49
  go_wp2_with (go_at_call 62; refine HC.out.mono ?_; rintro e w1 ⟨rfl, hb1⟩; have HB1 := Lib.hid ((below_alloc w _).trans (hb1.mono (by simp))); have c3 : w1.cell? ⟨b, 3, none⟩ = some (.int .i64 r.next) := (H.out.below ((below_alloc w _).trans (hb1.mono (by simp)))).cell 3 _ rfl; have x1 := (hb1.block w.heap.size (by simp)).trans (heap_alloc_new w _); have X1 := Lib.hid x1; have f0 := blk_frozen x1 0; have f1 := blk_frozen x1 1; have f2 := blk_frozen x1 2; have f3 := blk_frozen x1 3; have f4 := blk_frozen x1 4; have z0 := blk_cell x1 0 _ rfl; have z1 := blk_cell x1 1 _ rfl; have z2 := blk_cell x1 2 _ rfl; have z3 := blk_cell x1 3 _ rfl; have z4 := blk_cell x1 4 _ rfl; clear hb1 x1)
  have q := box5_blk (v0 := .int .i64 r.next) (v1 := .int .i64 2) (v2 := .int .i64 t) (v3 := .int .i64 0) (v4 := .int .i64 0) X1.out
  have r0 := blk_cell q 0 _ rfl
  have r1 := blk_cell q 1 _ rfl
  have r2 := blk_cell q 2 _ rfl
  have r3 := blk_cell q 3 _ rfl
  have r4 := blk_cell q 4 _ rfl
  exact bodyPost_ret (v := .tuple #[.agg #[.int .i64 r.next, .int .i64 2, .int .i64 t, .int .i64 0, .int .i64 0], .int .i64 0]) (by simp [results, Try.results49, go_sem, r0, r1, r2, r3, r4]) rfl ⟨rfl, box5 HB1.out (Nat.le_refl _)⟩
end Go.Proofs.Ytomekiidgdkmiaa
