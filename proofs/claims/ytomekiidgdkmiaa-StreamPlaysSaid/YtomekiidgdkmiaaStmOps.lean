/-
  Contracts of a stream's Sample, Mark, Put.
-/
import Derived.Test.YtomekiidgdkmiaaStm
namespace Go.Proofs.Ytomekiidgdkmiaa
open Go.RowKit
set_option linter.unusedVariables false
set_option linter.unusedSimpArgs false

def opAgg (o : OpV) : Value := .agg #[.int .i64 o.seq, .int .i64 o.kind, .int .i64 o.time, .int .i64 o.key, .int .i64 o.val]
set_option maxRecDepth 100000 in
theorem sample_late (a : Nat) (s : StV) (vr vs vp : Value) (t k x : Int) (w : World) (h : StIs w a s vr vs vp) (he : s.early t = true) :
    Calls Try.prog 12 #[.pointer (some ⟨a, 0, none⟩), .int .i64 t, .int .i64 k, .int .i64 x] w
      fun e w' => e = .returned (.tuple #[.agg #[.int .i64 0, .int .i64 0, .int .i64 0, .int .i64 0, .int .i64 0], .iface 44 (.int .i64 8)]) ∧ Below w.heap.size w w' := by
  have H := Lib.hid h
  have HE := Lib.hid he
  clear h he
  go_enter Try.func12, Try.ntmps12
  go_wp2_with (go_at_call 36; refine (early_any a s vr vs vp t _ (H.out.below (below_alloc w _))).mono ?_; rw [HE.out]; rintro e w' ⟨rfl, rfl⟩)
  exact bodyPost_ret (v := .tuple #[.agg #[.int .i64 0, .int .i64 0, .int .i64 0, .int .i64 0, .int .i64 0], .iface 44 (.int .i64 8)]) (by simp [results, Try.results12, go_sem]) rfl ⟨rfl, below_alloc _ _⟩

set_option maxRecDepth 100000 in
theorem sample_full (a : Nat) (s : StV) (vr vs vp : Value) (t k x : Int) (w : World) (h : StIs w a s vr vs vp) (he : s.early t = false) (hf : s.hold ≤ s.samples.length) :
    Calls Try.prog 12 #[.pointer (some ⟨a, 0, none⟩), .int .i64 t, .int .i64 k, .int .i64 x] w
      fun e w' => e = .returned (.tuple #[.agg #[.int .i64 0, .int .i64 0, .int .i64 0, .int .i64 0, .int .i64 0], .iface 44 (.int .i64 10)]) ∧ Below w.heap.size w w' := by
  have H := Lib.hid h
  have HE := Lib.hid he
  have c2 : w.cell? ⟨a, 2, none⟩ = some (.int .i64 s.hold) := h.cell 2 _ rfl
  obtain ⟨A, cap, hv⟩ : ∃ A cap, vs = .slice A s.samples.length cap := by
    rcases own_sl h.sam with ⟨h1, h2, _⟩ | ⟨b, off, c, h1, _⟩
    · exact ⟨none, 0, by rw [h1, h2]⟩
    · exact ⟨some ⟨b, off, none⟩, c, h1⟩
  subst hv
  have c9 : w.cell? ⟨a, 9, none⟩ = some (.slice A s.samples.length cap) := h.cell 9 _ rfl
  have d2 := alloc_old (o := .cells #[.int .i64 0, .int .i64 0, .int .i64 0, .int .i64 0, .int .i64 0] 34) c2
  have d9 := alloc_old (o := .cells #[.int .i64 0, .int .i64 0, .int .i64 0, .int .i64 0, .int .i64 0] 34) c9
  have g1 : decide (s.hold ≤ (s.samples.length : Int)) = true := by simpa using hf
  clear h he c2 c9
  go_enter Try.func12, Try.ntmps12
  go_wp2_with (go_at_call 36; refine (early_any a s vr _ vp t _ (H.out.below (below_alloc w _))).mono ?_; rw [HE.out]; rintro e w' ⟨rfl, rfl⟩)
  go_quiet (fail)
  go_wp2
  refine bodyPost_ret (v := .tuple #[.agg #[.int .i64 0, .int .i64 0, .int .i64 0, .int .i64 0, .int .i64 0], .iface 44 (.int .i64 10)]) (by simp [results, Try.results12, go_sem]) rfl ⟨rfl, ?_⟩
  iterate 5 refine Below.setCell ?_ (by exact Nat.le_refl w.heap.size) _
  exact below_drewN (below_alloc _ _) _

set_option maxRecDepth 100000 in
theorem sample_ok (a : Nat) (s : StV) (vr vs vp : Value) (t k x : Int) (w : World) (h : StIs w a s vr vs vp) (he : s.early t = false) (hf : ¬ s.hold ≤ s.samples.length) :
    Calls Try.prog 12 #[.pointer (some ⟨a, 0, none⟩), .int .i64 t, .int .i64 k, .int .i64 x] w
      fun e w' => e = .returned (.tuple #[.agg #[.int .i64 s.next, .int .i64 1, .int .i64 t, .int .i64 k, .int .i64 x], .nilIface]) ∧ Below w.heap.size w w' := by
  have H := Lib.hid h
  have HE := Lib.hid he
  have c2 : w.cell? ⟨a, 2, none⟩ = some (.int .i64 s.hold) := h.cell 2 _ rfl
  have c3 : w.cell? ⟨a, 3, none⟩ = some (.int .i64 s.next) := h.cell 3 _ rfl
  obtain ⟨A, cap, hv⟩ : ∃ A cap, vs = .slice A s.samples.length cap := by
    rcases own_sl h.sam with ⟨h1, h2, _⟩ | ⟨b, off, c, h1, _⟩
    · exact ⟨none, 0, by rw [h1, h2]⟩
    · exact ⟨some ⟨b, off, none⟩, c, h1⟩
  subst hv
  have c9 : w.cell? ⟨a, 9, none⟩ = some (.slice A s.samples.length cap) := h.cell 9 _ rfl
  have d2 := alloc_old (o := .cells #[.int .i64 0, .int .i64 0, .int .i64 0, .int .i64 0, .int .i64 0] 34) c2
  have d3 := alloc_old (o := .cells #[.int .i64 0, .int .i64 0, .int .i64 0, .int .i64 0, .int .i64 0] 34) c3
  have d9 := alloc_old (o := .cells #[.int .i64 0, .int .i64 0, .int .i64 0, .int .i64 0, .int .i64 0] 34) c9
  have g1 : decide (s.hold ≤ (s.samples.length : Int)) = false := by simpa using hf
  clear h he c2 c9 hf
  go_enter Try.func12, Try.ntmps12
  go_wp2_with (go_at_call 36; refine (early_any a s vr _ vp t _ (H.out.below (below_alloc w _))).mono ?_; rw [HE.out]; rintro e w' ⟨rfl, rfl⟩)
  go_quiet (fail)
  go_wp2
  refine bodyPost_ret (v := .tuple #[.agg #[.int .i64 s.next, .int .i64 1, .int .i64 t, .int .i64 k, .int .i64 x], .nilIface]) (by simp [results, Try.results12, go_sem]) rfl ⟨rfl, ?_⟩
  iterate 5 refine Below.setCell ?_ (by exact Nat.le_refl w.heap.size) _
  exact below_drewN (below_alloc _ _) _

set_option maxRecDepth 100000 in
theorem mark_back (a : Nat) (s : StV) (vr vs vp : Value) (t : Int) (w : World) (h : StIs w a s vr vs vp) (he : s.early t = true) :
    Calls Try.prog 20 #[.pointer (some ⟨a, 0, none⟩), .int .i64 t] w
      fun e w' => e = .returned (.tuple #[.agg #[.int .i64 0, .int .i64 0, .int .i64 0, .int .i64 0, .int .i64 0], .iface 44 (.int .i64 9)]) ∧ Below w.heap.size w w' := by
  have H := Lib.hid h
  have HE := Lib.hid he
  clear h he
  go_enter Try.func20, Try.ntmps20
  go_wp2_with (go_at_call 36; refine (early_any a s vr vs vp t _ (H.out.below (below_alloc w _))).mono ?_; rw [HE.out]; rintro e w' ⟨rfl, rfl⟩)
  exact bodyPost_ret (v := .tuple #[.agg #[.int .i64 0, .int .i64 0, .int .i64 0, .int .i64 0, .int .i64 0], .iface 44 (.int .i64 9)]) (by simp [results, Try.results20, go_sem]) rfl ⟨rfl, below_alloc _ _⟩
set_option maxRecDepth 100000 in
theorem mark_ok (a : Nat) (s : StV) (vr vs vp : Value) (t : Int) (w : World) (h : StIs w a s vr vs vp) (he : s.early t = false) :
    Calls Try.prog 20 #[.pointer (some ⟨a, 0, none⟩), .int .i64 t] w
      fun e w' => e = .returned (.tuple #[.agg #[.int .i64 s.next, .int .i64 2, .int .i64 t, .int .i64 0, .int .i64 0], .nilIface]) ∧ Below w.heap.size w w' := by
  have H := Lib.hid h
  have HE := Lib.hid he
  have c3 : w.cell? ⟨a, 3, none⟩ = some (.int .i64 s.next) := h.cell 3 _ rfl
  have d3 := alloc_old (o := .cells #[.int .i64 0, .int .i64 0, .int .i64 0, .int .i64 0, .int .i64 0] 34) c3
  clear h he c3
  go_enter Try.func20, Try.ntmps20
  go_wp2_with (go_at_call 36; refine (early_any a s vr _ vp t _ (H.out.below (below_alloc w _))).mono ?_; rw [HE.out]; rintro e w' ⟨rfl, rfl⟩)
  exact bodyPost_ret (v := .tuple #[.agg #[.int .i64 s.next, .int .i64 2, .int .i64 t, .int .i64 0, .int .i64 0], .nilIface]) (by simp [results, Try.results20, go_sem]) rfl ⟨rfl, below_alloc _ _⟩
end Go.Proofs.Ytomekiidgdkmiaa
