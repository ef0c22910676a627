/-
  StreamFull, for every input.
-/
import Derived.Test.YtomekiidgdkmiaaFrame
import Derived.Test.YtomekiidgdkmiaaFullWalk
namespace Go.Proofs.Ytomekiidgdkmiaa
open Go.ChangeShapes Go.WideShapes Go.ChangeAt Go.RowKit
set_option linter.unusedVariables false

theorem cells_int : Try.prog.cellsOf 3 = 1 := by kernel_rfl

set_option maxRecDepth 100000 in
theorem full_lifted (os : Os) (started : os.Started) (H : Type) (enc : TypeId × Value → H) :
    ReturnsInHanded {} Try.checked os 4 .any (Rows.streamFullSpec.pre6 enc Try.prog Try.f4 Rows.streamFullRow.domain false) (Rows.streamFullSpec.post enc Try.prog Try.f4 false true false false) := by
  refine returnsInHanded_of_change (C := Try.checked) Try.own started (by kernel_rfl) Try.func4
    (ChangeSpec.witness6 (enc := enc) (C := Try.checked) false ⟨#[], #[.int .i64 0, .slice none 0 0, .int .i64 0], []⟩ 8 (by kernel_rfl) (by kernel_rfl) (by kernel_rfl) (by kernel_rfl)) ?_
  intro W base args ds gs before hval0 hW hcnd _
  have hval : ∀ (j : Nat) t v, Try.f4.params[j]? = some t → args[j]? = some v → Value.okWide Try.prog W .any base t v := hval0
  have hW' := hW
  obtain ⟨p, q, hA0, hV, rfl, hfz, hnd⟩ := hW
  have hA : DataW.TrodAll enc Try.prog W 0 (fun _ => true) true Try.f4.params.toList args.toList ds p := hA0
  have hAk := hA
  rw [Try.params4] at hA hval
  obtain ⟨v0, v1, v2, d0, d1, d2, p0, p1, p2, rfl, rfl, rfl, h0, h1, h2⟩ := trodAll_three hA
  obtain ⟨rfl, rfl⟩ := trodVars_none hV
  obtain ⟨hold, rfl, rfl, rfl, wh⟩ := open_int Try.underlying3 (hval 0 3 v0 rfl rfl) h0
  obtain ⟨cut, rfl, rfl, rfl, wc⟩ := open_int Try.underlying3 (hval 2 3 v2 rfl rfl) h2
  obtain ⟨A, len, cap, rfl⟩ := okWide_slice Try.underlying22 (hval 1 22 v1 rfl rfl)
  clear hA0 hval0
  simp only [List.append_nil] at hW' hAk
  have key : Calls Try.prog 4 #[.int .i64 hold, .slice A len cap, .int .i64 cut] W fun e w' => e = .returned (.bool true) ∧ Below W.heap.size W w' := by
    have hh : I64 hold := i64_of wh
    obtain ⟨fuel, hf⟩ := h1
    rcases open_ints Try.underlying22 Try.underlying3 cells_int hf with ⟨hcs, hx⟩ | ⟨a, len', cap', zs, hcs, _, hl, hm, hz, hx, hcell, hwz⟩
    · simp [Value.cells] at hcs
      obtain ⟨rfl, rfl, rfl⟩ := hcs
      exact full_any hold cut [] none 0 W (fun h => by simp at h) hh (fun x hx => by simp at hx)
    · simp [Value.cells] at hcs
      obtain ⟨rfl, rfl, rfl⟩ := hcs
      simp only [if_true] at hz
      have hlt : (zs.take len).length = len := by simp; omega
      have q := full_any hold cut (zs.take len) (some a) cap W ?_ hh ?_
      · rw [hlt] at q; exact q
      · rw [hlt]
        intro hp
        obtain ⟨b, off, spot⟩ := a
        have hspot : spot = none := by simpa [Addr.add] using World.cell?_spot (hcell 0 (by omega))
        subst hspot
        refine .inr ⟨b, off, cap, rfl, ?_, ?_⟩
        · have := cell_lt (hcell 0 (by omega))
          simpa [Addr.add] using this
        · intro j u hj
          have hj2 : j < (zs.take len).length := by
            have := (List.getElem?_eq_some_iff.1 hj).1
            simpa [intVals] using this
          have e1 : (intVals (zs.take len))[j]? = some (.int .i64 (nth (zs.take len) j)) := by
            unfold intVals
            rw [List.getElem?_map, List.getElem?_eq_getElem hj2, nth_get hj2]; rfl
          rw [hj] at e1
          obtain rfl := Option.some.inj e1
          rw [nth_take zs len j (by omega)]
          have := hcell j (by omega)
          rw [add_plain] at this
          exact this
      · intro x hx
        exact i64_of (hwz x (List.mem_of_mem_take hx))
  refine key.mono fun e W' ⟨he, hb⟩ => ?_
  subst he
  exact ⟨_, rfl, law_post Try.laidOut hW' hAk rfl (by kernel_rfl) Try.underlying4 rfl (by kernel_rfl) hb⟩

theorem full_holds : Rows.StreamFullSaid :=
  OpenClaim.holds_of_wide 4 Try.f4 rfl rfl rfl rfl rfl rfl rfl ⟨rfl, rfl, rfl, rfl, rfl⟩ rfl rfl rfl rfl rfl (by kernel_rfl) Try.func4 (by kernel_rfl)
    (of_decide_eq_true (by kernel_rfl)) (by unfold Func.isWrapper; first | (rw [if_pos (by decide +kernel)]; kernel_rfl) | (rw [if_neg (by decide +kernel)]; exact ⟨rfl, rfl⟩))
    (fun os started H enc _ => full_lifted os started H enc)
#print axioms full_holds
end Go.Proofs.Ytomekiidgdkmiaa
