/-
  StreamPlays, for every input.
-/
import Derived.Test.YtomekiidgdkmiaaFrame
import Derived.Test.YtomekiidgdkmiaaPlaysWalk
import Derived.SizedLaws
namespace Go.Proofs.Ytomekiidgdkmiaa
open Go.ChangeShapes Go.WideShapes Go.ChangeAt Go.RowKit
set_option linter.unusedVariables false

theorem CaseV.short {w : World} {x : CaseV} (h : x.okIn w) : x.sn * 80 ≤ reachBytes := by
  have h1 := h.script.size
  rw [flat_len ScV.vals 10 (fun _ => rfl), h.script.len] at h1
  omega
set_option maxRecDepth 100000 in
theorem plays_lifted (os : Os) (started : os.Started) (H : Type) (enc : TypeId × Value → H) :
    ReturnsInHanded {} Try.checked os 7 .any (Rows.streamPlaysSpec.pre6 enc Try.prog Try.f7 Rows.streamPlaysRow.domain false) (Rows.streamPlaysSpec.post enc Try.prog Try.f7 false true false false) := by
  refine returnsInHanded_of_change_sized (C := Try.checked) Try.own started (by kernel_rfl) Try.func7
    (ChangeSpec.witness6 (enc := enc) (C := Try.checked) false ⟨#[], #[.agg #[.slice none 0 0, .int .i64 0, .int .i64 0, .slice none 0 0]], []⟩ 8 (by kernel_rfl) (by kernel_rfl) (by kernel_rfl) (by kernel_rfl)) ?_
  intro W base args ds gs before hval0 hW hcnd hsz _
  have hval : ∀ (j : Nat) t v, Try.f7.params[j]? = some t → args[j]? = some v → Value.okWide Try.prog W .any base t v := hval0
  have hW' := hW
  obtain ⟨p, q, hA0, hV, rfl, hfz, hnd⟩ := hW
  have hA : DataW.TrodAll enc Try.prog W 0 (fun _ => true) true Try.f7.params.toList args.toList ds p := hA0
  have hAk := hA
  rw [Try.params7] at hA hval
  obtain ⟨v0, d0, rfl, rfl, h0⟩ := trodAll_one hA
  obtain ⟨rfl, rfl⟩ := trodVars_none hV
  obtain ⟨cs, rfl, _⟩ := okWide_struct Try.underlying25 (hval 0 25 v0 rfl rfl)
  clear hA0 hval0
  simp only [List.append_nil] at hW' hAk hsz
  obtain ⟨fuel, hf⟩ := h0
  have hfit : Fits Try.prog 25 (d0, p) := fun q hq => by
    have h1 : (DataW.weightsEach Try.prog (Try.f7.params.toList ++ Rows.streamPlaysSpec.plain.varTypes Try.prog) [d0]).all (· ≤ reachBytes) = true := hsz
    rw [Try.params7] at h1
    have := List.all_eq_true.1 h1 q (DataW.weights_mem_each (j := 0) (t := 25) (d := d0) rfl rfl q hq)
    simpa using this
  have hf2 : DataW.trod enc Try.prog W 0 (fun _ => true) true fuel 25 cs.toList = some (d0, p) := hf
  obtain ⟨x, hx, hok⟩ := opened_case hf2 hfit
  have hcs : cs = x.vals := by
    apply Array.toList_inj.1; exact hx
  subst hcs
  have key := plays_any x W hok (by have := CaseV.short hok; unfold reachBytes at this; omega)
  refine key.mono fun e W' ⟨he, hb⟩ => ?_
  subst he
  exact ⟨_, rfl, law_post Try.laidOut hW' hAk rfl (by kernel_rfl) Try.underlying4 rfl (by kernel_rfl) hb⟩

theorem plays_holds : Rows.StreamPlaysSaid :=
  OpenClaim.holds_of_wide 7 Try.f7 rfl rfl rfl rfl rfl rfl rfl ⟨rfl, rfl, rfl, rfl, rfl⟩ rfl rfl rfl rfl rfl (by kernel_rfl) Try.func7 (by kernel_rfl)
    (of_decide_eq_true (by kernel_rfl)) (by unfold Func.isWrapper; first | (rw [if_pos (by decide +kernel)]; kernel_rfl) | (rw [if_neg (by decide +kernel)]; exact ⟨rfl, rfl⟩))
    (fun os started H enc _ => plays_lifted os started H enc)
#print axioms plays_holds
end Go.Proofs.Ytomekiidgdkmiaa
