/-
  StreamDrops, for every input.
-/
import Derived.Test.YtomekiidgdkmiaaFrame
import Derived.Test.YtomekiidgdkmiaaDropsWalk
import Derived.SizedLaws
namespace Go.Proofs.Ytomekiidgdkmiaa
open Go.ChangeShapes Go.WideShapes Go.ChangeAt Go.RowKit
set_option linter.unusedVariables false

theorem drops_short {w : World} {x : CaseV} (h : x.okIn w) : x.sn * 80 ≤ reachBytes := by
  have h1 := h.script.size
  rw [flat_len ScV.vals 10 (fun _ => rfl), h.script.len] at h1
  omega
set_option maxRecDepth 100000 in
theorem drops_lifted (os : Os) (started : os.Started) (H : Type) (enc : TypeId × Value → H) :
    ReturnsInHanded {} Try.checked os 3 .any (Rows.streamDropsSpec.pre6 enc Try.prog Try.f3 Rows.streamDropsRow.domain false) (Rows.streamDropsSpec.post enc Try.prog Try.f3 false true false false) := by
  refine returnsInHanded_of_change_sized (C := Try.checked) Try.own started (by kernel_rfl) Try.func3
    (ChangeSpec.witness6 (enc := enc) (C := Try.checked) false ⟨#[], #[.agg #[.slice none 0 0, .int .i64 0, .int .i64 0, .slice none 0 0], .slice none 0 0], []⟩ 8 (by kernel_rfl) (by kernel_rfl) (by kernel_rfl) (by kernel_rfl)) ?_
  intro W base args ds gs before hval0 hW hcnd hsz _
  have hval : ∀ (j : Nat) t v, Try.f3.params[j]? = some t → args[j]? = some v → Value.okWide Try.prog W .any base t v := hval0
  have hW' := hW
  obtain ⟨p, q, hA0, hV, rfl, hfz, hnd⟩ := hW
  have hA : DataW.TrodAll enc Try.prog W 0 (fun _ => true) true Try.f3.params.toList args.toList ds p := hA0
  have hAk := hA
  rw [Try.params3] at hA hval
  obtain ⟨v0, v1, d0, d1, p0, p1, rfl, rfl, rfl, h0, h1⟩ := trodAll_two hA
  obtain ⟨rfl, rfl⟩ := trodVars_none hV
  obtain ⟨cs, rfl, _⟩ := okWide_struct Try.underlying25 (hval 0 25 v0 rfl rfl)
  obtain ⟨A, len, cap, rfl⟩ := okWide_slice Try.underlying26 (hval 1 26 v1 rfl rfl)
  clear hA0 hval0
  simp only [List.append_nil] at hW' hAk hsz
  have h1w : (DataW.weightsEach Try.prog (Try.f3.params.toList ++ Rows.streamDropsSpec.plain.varTypes Try.prog) [d0, d1]).all (· ≤ reachBytes) = true := hsz
  rw [Try.params3] at h1w
  obtain ⟨fuel, hf⟩ := h0
  obtain ⟨fuel1, hf1⟩ := h1
  have hfit : Fits Try.prog 25 (d0, p0) := fun q hq => by
    have := List.all_eq_true.1 h1w q (DataW.weights_mem_each (j := 0) (t := 25) (d := d0) rfl rfl q hq)
    simpa using this
  have hfit1 : Fits Try.prog 26 (d1, p1) := fun q hq => by
    have := List.all_eq_true.1 h1w q (DataW.weights_mem_each (j := 1) (t := 26) (d := d1) rfl rfl q hq)
    simpa using this
  have hf2 : DataW.trod enc Try.prog W 0 (fun _ => true) true fuel 25 cs.toList = some (d0, p0) := hf
  have hf3 : DataW.trod enc Try.prog W 0 (fun _ => true) true fuel1 26 [.slice A len cap] = some (d1, p1) := hf1
  obtain ⟨x, hx, hok⟩ := opened_case hf2 hfit
  obtain ⟨cut, hcut⟩ := opened_slice (α := PlV) PlV.vals 2 (by decide) (fun _ => rfl) PlV.ok Try.underlying26 cells_pl (by rw [by_pl]; decide) (fun n cs x h _ => opened_pl h) hf3 hfit1
  have hcs : cs = x.vals := by
    apply Array.toList_inj.1; exact hx
  subst hcs
  have key := drops_any x cut A len cap W hok (by have := drops_short hok; unfold reachBytes at this; omega) hcut
  refine key.mono fun e W' ⟨he, hb⟩ => ?_
  subst he
  exact ⟨_, rfl, law_post Try.laidOut hW' hAk rfl (by kernel_rfl) Try.underlying4 rfl (by kernel_rfl) hb⟩

theorem drops_holds : Rows.StreamDropsSaid :=
  OpenClaim.holds_of_wide 3 Try.f3 rfl rfl rfl rfl rfl rfl rfl ⟨rfl, rfl, rfl, rfl, rfl⟩ rfl rfl rfl rfl rfl (by kernel_rfl) Try.func3 (by kernel_rfl)
    (of_decide_eq_true (by kernel_rfl)) (by unfold Func.isWrapper; first | (rw [if_pos (by decide +kernel)]; kernel_rfl) | (rw [if_neg (by decide +kernel)]; exact ⟨rfl, rfl⟩))
    (fun os started H enc _ => drops_lifted os started H enc)
#print axioms drops_holds
end Go.Proofs.Ytomekiidgdkmiaa
