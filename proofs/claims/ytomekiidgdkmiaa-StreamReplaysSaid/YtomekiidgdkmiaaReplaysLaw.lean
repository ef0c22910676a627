/-
  StreamReplays, for every input.
-/
import Derived.Test.YtomekiidgdkmiaaFrame
import Derived.Test.YtomekiidgdkmiaaReplaysWalk
import Derived.SizedLaws
namespace Go.Proofs.Ytomekiidgdkmiaa
open Go.ChangeShapes Go.WideShapes Go.ChangeAt Go.RowKit
set_option linter.unusedVariables false

theorem replays_short {w : World} {x : CaseV} (h : x.okIn w) : x.sn * 80 ≤ reachBytes := by
  have h1 := h.script.size
  rw [flat_len ScV.vals 10 (fun _ => rfl), h.script.len] at h1
  omega
set_option maxRecDepth 100000 in
theorem replays_lifted (os : Os) (started : os.Started) (H : Type) (enc : TypeId × Value → H) :
    ReturnsInHanded {} Try.checked os 6 .any (Rows.streamReplaysSpec.pre6 enc Try.prog Try.f6 Rows.streamReplaysRow.domain false) (Rows.streamReplaysSpec.post enc Try.prog Try.f6 false true false false) := by
  refine returnsInHanded_of_change_sized (C := Try.checked) Try.own started (by kernel_rfl) Try.func6
    (ChangeSpec.witness6 (enc := enc) (C := Try.checked) false ⟨#[], #[.agg #[.slice none 0 0, .int .i64 0, .int .i64 0, .slice none 0 0], .int .i64 0], []⟩ 8 (by kernel_rfl) (by kernel_rfl) (by kernel_rfl) (by kernel_rfl)) ?_
  intro W base args ds gs before hval0 hW hcnd hsz _
  have hval : ∀ (j : Nat) t v, Try.f6.params[j]? = some t → args[j]? = some v → Value.okWide Try.prog W .any base t v := hval0
  have hW' := hW
  obtain ⟨p, q, hA0, hV, rfl, hfz, hnd⟩ := hW
  have hA : DataW.TrodAll enc Try.prog W 0 (fun _ => true) true Try.f6.params.toList args.toList ds p := hA0
  have hAk := hA
  rw [Try.params6] at hA hval
  obtain ⟨v0, v1, d0, d1, p0, p1, rfl, rfl, rfl, h0, h1⟩ := trodAll_two hA
  obtain ⟨rfl, rfl⟩ := trodVars_none hV
  obtain ⟨cs, rfl, _⟩ := okWide_struct Try.underlying25 (hval 0 25 v0 rfl rfl)
  obtain ⟨most, rfl, rfl, rfl, wm⟩ := open_int Try.underlying3 (hval 1 3 v1 rfl rfl) h1
  clear hA0 hval0
  simp only [List.append_nil] at hW' hAk hsz
  have h1w : (DataW.weightsEach Try.prog (Try.f6.params.toList ++ Rows.streamReplaysSpec.plain.varTypes Try.prog) [d0, .lit (.int .i64 most)]).all (· ≤ reachBytes) = true := hsz
  rw [Try.params6] at h1w
  obtain ⟨fuel, hf⟩ := h0
  have hfit : Fits Try.prog 25 (d0, p0) := fun q hq => by
    have := List.all_eq_true.1 h1w q (DataW.weights_mem_each (j := 0) (t := 25) (d := d0) rfl rfl q hq)
    simpa using this
  have hf2 : DataW.trod enc Try.prog W 0 (fun _ => true) true fuel 25 cs.toList = some (d0, p0) := hf
  obtain ⟨x, hx, hok⟩ := opened_case hf2 hfit
  have hcs : cs = x.vals := by
    apply Array.toList_inj.1; exact hx
  subst hcs
  have key := replays_any x most W hok (by have := replays_short hok; unfold reachBytes at this; omega)
  refine key.mono fun e W' ⟨he, hb⟩ => ?_
  subst he
  exact ⟨_, rfl, law_post Try.laidOut hW' hAk rfl (by kernel_rfl) Try.underlying4 rfl (by kernel_rfl) hb⟩

theorem replays_holds : Rows.StreamReplaysSaid :=
  OpenClaim.holds_of_wide 6 Try.f6 rfl rfl rfl rfl rfl rfl rfl ⟨rfl, rfl, rfl, rfl, rfl⟩ rfl rfl rfl rfl rfl (by kernel_rfl) Try.func6 (by kernel_rfl)
    (of_decide_eq_true (by kernel_rfl)) (by unfold Func.isWrapper; first | (rw [if_pos (by decide +kernel)]; kernel_rfl) | (rw [if_neg (by decide +kernel)]; exact ⟨rfl, rfl⟩))
    (fun os started H enc _ => replays_lifted os started H enc)
#print axioms replays_holds
end Go.Proofs.Ytomekiidgdkmiaa
