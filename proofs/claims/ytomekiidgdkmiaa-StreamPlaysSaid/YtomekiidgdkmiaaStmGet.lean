/-
  Contracts of a stream's Last, Held, Places.
-/
import Derived.Test.YtomekiidgdkmiaaStmOps
namespace Go.Proofs.Ytomekiidgdkmiaa
open Go.RowKit
set_option linter.unusedVariables false
set_option linter.unusedSimpArgs false

theorem last_some (a : Nat) (s : StV) (vr vs vp : Value) (w : World) (h : StIs w a s vr vs vp) (hm : s.mark.seq ≠ 0) :
    Calls Try.prog 21 #[.pointer (some ⟨a, 0, none⟩)] w
      fun e w' => e = .returned (.tuple #[.int .i64 s.mark.seq, .int .i64 s.mark.time, .bool true]) ∧ Below w.heap.size w w' := by
  have c4 : w.cell? ⟨a, 4, none⟩ = some (.int .i64 s.mark.seq) := h.cell 4 _ rfl
  have c6 : w.cell? ⟨a, 6, none⟩ = some (.int .i64 s.mark.time) := h.cell 6 _ rfl
  have g1 : (s.mark.seq == 0) = false := by simp [hm]
  clear h hm
  go_enter Try.func21, Try.ntmps21
  go_wp2
  go_quiet (fail)
  go_wp2
  go_ret3
  exact ⟨rfl, below_drewN (Below.refl _ _) _⟩
theorem last_none (a : Nat) (s : StV) (vr vs vp : Value) (w : World) (h : StIs w a s vr vs vp) (hm : s.mark.seq = 0) :
    Calls Try.prog 21 #[.pointer (some ⟨a, 0, none⟩)] w
      fun e w' => e = .returned (.tuple #[.int .i64 0, .int .i64 0, .bool false]) ∧ Below w.heap.size w w' := by
  have c4 : w.cell? ⟨a, 4, none⟩ = some (.int .i64 s.mark.seq) := h.cell 4 _ rfl
  have g1 : (s.mark.seq == 0) = true := by simp [hm]
  clear h hm
  go_enter Try.func21, Try.ntmps21
  go_wp2
  go_ret3
  exact ⟨rfl, Below.refl _ _⟩
theorem held_any (a : Nat) (s : StV) (vr vs vp : Value) (w : World) (h : StIs w a s vr vs vp) (hl : s.samples.length ≤ 3000000000000) :
    Calls Try.prog 14 #[.pointer (some ⟨a, 0, none⟩)] w
      (SomeV fun v' w' => w'.ownsRow w.heap.size 34 5 v' s.samples.length (opVals s.samples) ∧ Below w.heap.size w w') := by
  have c9 : w.cell? ⟨a, 9, none⟩ = some vs := h.cell 9 _ rfl
  have H := Lib.hid (own_sl h.sam)
  clear h
  go_enter Try.func14, Try.ntmps14
  go_wp2_with (go_at_call 37; refine (cloneOp_any s.samples vs _ hl H.out).mono ?_; rintro e w' ⟨v', rfl, h1, h2⟩)
  go_ret
  exact ⟨_, rfl, h1, h2⟩
theorem places_any (a : Nat) (s : StV) (vr vs vp : Value) (w : World) (h : StIs w a s vr vs vp) (hl : s.places.length ≤ 3000000000000) :
    Calls Try.prog 31 #[.pointer (some ⟨a, 0, none⟩)] w
      (SomeV fun v' w' => w'.ownsRow w.heap.size 49 2 v' s.places.length (plVals s.places) ∧ Below w.heap.size w w') := by
  have c10 : w.cell? ⟨a, 10, none⟩ = some vp := h.cell 10 _ rfl
  have H := Lib.hid (own_sl h.pla)
  clear h
  go_enter Try.func31, Try.ntmps31
  go_wp2_with (go_at_call 47; refine (clonePl_any s.places vp _ hl H.out).mono ?_; rintro e w' ⟨v', rfl, h1, h2⟩)
  go_ret
  exact ⟨_, rfl, h1, h2⟩
end Go.Proofs.Ytomekiidgdkmiaa
