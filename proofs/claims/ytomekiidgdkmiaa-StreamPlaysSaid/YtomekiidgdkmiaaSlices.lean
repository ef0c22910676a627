/-
  Contracts of slices.Clone at three types, and of slices.Min.
-/
import Derived.Test.YtomekiidgdkmiaaCmp
import Derived.Deep.AppendLies
namespace Go.Proofs.Ytomekiidgdkmiaa
open Go.RowKit
set_option linter.unusedVariables false

theorem infoint : (Try.prog.info? 3).map (fun i => (i.zero, i.size, i.bytes)) = some (some (.int .i64 0), 1, 8) := by kernel_rfl
theorem cloneint_any (l : List Int) (v : Value) (w : World) (hn : l.length ≤ 3000000000000) (hs : SlAt w v l.length (intVals l)) :
    Calls Try.prog 33 #[v] w (SomeV fun v' w' => w'.ownsRow w.heap.size 3 1 v' l.length (intVals l) ∧ Below w.heap.size w w') := by
  obtain ⟨i0, hi, hz0, hz1, hz2⟩ := info_parts infoint
  rcases hs with ⟨rfl, h0, h1⟩ | ⟨b, off, c, rfl, hbl, hrow⟩
  · have hq := fun wx : World => Lib.run_eql_slice_nil (P := Try.prog) wx 22 3 none 0 0 0 0 Try.underlying22
    have H0 := Lib.hid h0
    have H1 := Lib.hid h1
    clear h0 h1
    go_enter Try.func33, Try.ntmps33
    go_wp2
    go_ret
    refine ⟨_, rfl, ?_, Below.refl _ _⟩
    rw [H0.out, H1.out]
    exact World.ownsRow_nil _ _ _ _
  · have hq := fun wx : World => Lib.run_eql_slice_nil (P := Try.prog) wx 22 3 (some ⟨b, off, none⟩) l.length c 0 0 Try.underlying22
    have HROW := Lib.hid hrow
    clear hrow
    have hown : (w.alloc (.cells #[] 3)).ownsRow w.heap.size 3 1 (.slice (some ⟨w.heap.size, 0, none⟩) 0 0) 0 [] := World.ownsRow_made w #[] 0 (Nat.le_refl _) (by decide) rfl
    have HOWN := Lib.hid hown
    clear hown
    go_enter Try.func33, Try.ntmps33
    go_wp2_with (at_builtin; refine wpList_append_own _ rfl (.tmp 5) (.tmp 6) 22 rfl w.heap.size 3 i0 (.int .i64 0) 1 8 Try.underlying22 hi hz0 hz1 hz2 rfl (by decide) _ 0 [] rfl HOWN.out ⟨b, off, none⟩ l.length c (intVals l) rfl (intVals_len l) (HROW.out.below (below_alloc w _)).add (intVals_one l) (by unfold maxLen; omega) (by omega) (by simp) ?_; intro v' w1 hrow1 hg _hv)
    go_ret
    refine ⟨_, rfl, ?_, ?_⟩
    · rw [Nat.zero_add, List.nil_append] at hrow1; exact hrow1
    · exact (below_alloc w _).grown hg (by simp) (fun k hk => Nat.le_of_eq (Option.some.inj hk))

theorem infoOp : (Try.prog.info? 34).map (fun i => (i.zero, i.size, i.bytes)) = some (some (.agg #[.int .i64 0, .int .i64 0, .int .i64 0, .int .i64 0, .int .i64 0]), 5, 40) := by kernel_rfl
theorem cloneOp_any (l : List OpV) (v : Value) (w : World) (hn : l.length ≤ 3000000000000) (hs : SlAt w v l.length (opVals l)) :
    Calls Try.prog 37 #[v] w (SomeV fun v' w' => w'.ownsRow w.heap.size 34 5 v' l.length (opVals l) ∧ Below w.heap.size w w') := by
  obtain ⟨i0, hi, hz0, hz1, hz2⟩ := info_parts infoOp
  rcases hs with ⟨rfl, h0, h1⟩ | ⟨b, off, c, rfl, hbl, hrow⟩
  · have hq := fun wx : World => Lib.run_eql_slice_nil (P := Try.prog) wx 40 34 none 0 0 0 0 Try.underlying40
    have H0 := Lib.hid h0
    have H1 := Lib.hid h1
    clear h0 h1
    go_enter Try.func37, Try.ntmps37
    go_wp2
    go_ret
    refine ⟨_, rfl, ?_, Below.refl _ _⟩
    rw [H0.out, H1.out]
    exact World.ownsRow_nil _ _ _ _
  · have hq := fun wx : World => Lib.run_eql_slice_nil (P := Try.prog) wx 40 34 (some ⟨b, off, none⟩) l.length c 0 0 Try.underlying40
    have HROW := Lib.hid hrow
    clear hrow
    have hown : (w.alloc (.cells #[] 34)).ownsRow w.heap.size 34 5 (.slice (some ⟨w.heap.size, 0, none⟩) 0 0) 0 [] := World.ownsRow_made w #[] 0 (Nat.le_refl _) (by decide) rfl
    have HOWN := Lib.hid hown
    clear hown
    go_enter Try.func37, Try.ntmps37
    go_wp2_with (at_builtin; refine wpList_append_own _ rfl (.tmp 5) (.tmp 6) 40 rfl w.heap.size 34 i0 (.agg #[.int .i64 0, .int .i64 0, .int .i64 0, .int .i64 0, .int .i64 0]) 5 40 Try.underlying40 hi hz0 hz1 hz2 rfl (by decide) _ 0 [] rfl HOWN.out ⟨b, off, none⟩ l.length c (opVals l) rfl (opVals_len l) (HROW.out.below (below_alloc w _)).add (opVals_one l) (by unfold maxLen; omega) (by omega) (by simp) ?_; intro v' w1 hrow1 hg _hv)
    go_ret
    refine ⟨_, rfl, ?_, ?_⟩
    · rw [Nat.zero_add, List.nil_append] at hrow1; exact hrow1
    · exact (below_alloc w _).grown hg (by simp) (fun k hk => Nat.le_of_eq (Option.some.inj hk))

theorem infoPl : (Try.prog.info? 49).map (fun i => (i.zero, i.size, i.bytes)) = some (some (.agg #[.int .i64 0, .int .i64 0]), 2, 16) := by kernel_rfl
theorem clonePl_any (l : List PlV) (v : Value) (w : World) (hn : l.length ≤ 3000000000000) (hs : SlAt w v l.length (plVals l)) :
    Calls Try.prog 47 #[v] w (SomeV fun v' w' => w'.ownsRow w.heap.size 49 2 v' l.length (plVals l) ∧ Below w.heap.size w w') := by
  obtain ⟨i0, hi, hz0, hz1, hz2⟩ := info_parts infoPl
  rcases hs with ⟨rfl, h0, h1⟩ | ⟨b, off, c, rfl, hbl, hrow⟩
  · have hq := fun wx : World => Lib.run_eql_slice_nil (P := Try.prog) wx 26 49 none 0 0 0 0 Try.underlying26
    have H0 := Lib.hid h0
    have H1 := Lib.hid h1
    clear h0 h1
    go_enter Try.func47, Try.ntmps47
    go_wp2
    go_ret
    refine ⟨_, rfl, ?_, Below.refl _ _⟩
    rw [H0.out, H1.out]
    exact World.ownsRow_nil _ _ _ _
  · have hq := fun wx : World => Lib.run_eql_slice_nil (P := Try.prog) wx 26 49 (some ⟨b, off, none⟩) l.length c 0 0 Try.underlying26
    have HROW := Lib.hid hrow
    clear hrow
    have hown : (w.alloc (.cells #[] 49)).ownsRow w.heap.size 49 2 (.slice (some ⟨w.heap.size, 0, none⟩) 0 0) 0 [] := World.ownsRow_made w #[] 0 (Nat.le_refl _) (by decide) rfl
    have HOWN := Lib.hid hown
    clear hown
    go_enter Try.func47, Try.ntmps47
    go_wp2_with (at_builtin; refine wpList_append_own _ rfl (.tmp 5) (.tmp 6) 26 rfl w.heap.size 49 i0 (.agg #[.int .i64 0, .int .i64 0]) 2 16 Try.underlying26 hi hz0 hz1 hz2 rfl (by decide) _ 0 [] rfl HOWN.out ⟨b, off, none⟩ l.length c (plVals l) rfl (plVals_len l) (HROW.out.below (below_alloc w _)).add (plVals_one l) (by unfold maxLen; omega) (by omega) (by simp) ?_; intro v' w1 hrow1 hg _hv)
    go_ret
    refine ⟨_, rfl, ?_, ?_⟩
    · rw [Nat.zero_add, List.nil_append] at hrow1; exact hrow1
    · exact (below_alloc w _).grown hg (by simp) (fun k hk => Nat.le_of_eq (Option.some.inj hk))

/-- the least one of a row that isn't empty -/
def minL : List Int → Int
  | [] => 0
  | x :: l => l.foldl min x
theorem minL_snoc (l : List Int) (y : Int) (h : 1 ≤ l.length) : minL (l ++ [y]) = min (minL l) y := by
  cases l with
  | nil => simp at h
  | cons x l => simp [minL, List.foldl_append]
theorem minL_le (l : List Int) (x : Int) (h : x ∈ l) : minL l ≤ x := by
  suffices ∀ (l : List Int) (a : Int), l.foldl min a ≤ a ∧ ∀ x ∈ l, l.foldl min a ≤ x by
    cases l with
    | nil => cases h
    | cons a l =>
      have := this l a
      rcases List.mem_cons.1 h with rfl | h
      · exact this.1
      · exact this.2 x h
  intro l
  induction l with
  | nil => intro a; simp
  | cons b l ih =>
    intro a
    have h1 := ih (min a b)
    simp only [List.foldl_cons]
    refine ⟨by omega, fun x hx => ?_⟩
    rcases List.mem_cons.1 hx with rfl | hx
    · omega
    · exact h1.2 x hx
theorem minL_mem (l : List Int) (h : 1 ≤ l.length) : minL l ∈ l := by
  suffices ∀ (l : List Int) (a : Int), l.foldl min a = a ∨ l.foldl min a ∈ l by
    cases l with
    | nil => simp at h
    | cons a l =>
      rcases this l a with e | e
      · rw [minL, e]; exact List.mem_cons_self
      · exact List.mem_cons_of_mem _ e
  intro l
  induction l with
  | nil => intro a; exact .inl rfl
  | cons b l ih =>
    intro a
    simp only [List.foldl_cons]
    rcases ih (min a b) with e | e
    · rw [e]
      by_cases hab : a ≤ b
      · exact .inl (by omega)
      · exact .inr (by rw [show min a b = b from by omega]; exact List.mem_cons_self)
    · exact .inr (List.mem_cons_of_mem _ e)

set_option maxHeartbeats 400000 in
theorem min_any (l : List Int) (g o c : Nat) (w : World) (hl : 1 ≤ l.length) (hl2 : l.length ≤ 3000000000000) (hc : RowAt w g o (intVals l)) :
    Calls Try.prog 32 #[.slice (some ⟨g, o, none⟩) l.length c] w fun e w' => e = .returned (.int .i64 (minL l)) ∧ w = w' := by
  have c0 : w.cell? ⟨g, o, none⟩ = some (.int .i64 (nth l 0)) := hc.int 0 hl
  have HC := Lib.hid hc; clear hc
  have H1 : Hid (minL (l.take 1) = nth l 0) := by
    show _ = _
    cases l with
    | nil => simp at hl
    | cons x l => rfl
  go_enter Try.func32, Try.ntmps32
  go_wp2
  go_loop [3, 4] (fun m i => ∃ k : Nat, 1 ≤ k ∧ k ≤ l.length ∧ i = .int .i64 k ∧ m = .int .i64 (minL (l.take k))) (fun _ i => l.length - (intOf i).toNat)
  case atStart => exact ⟨1, Nat.le_refl _, hl, rfl, by rw [H1.out]⟩
  case round =>
    obtain ⟨k, hk1, hk, rfl, rfl⟩ := hrel
    by_cases hlt : k < l.length
    · have hcell := HC.out.int k hlt
      have HS : Hid (minL (l.take (k + 1)) = min (minL (l.take k)) (nth l k)) := by
        show _ = _
        rw [take_succ_nth l k hlt, minL_snoc _ _ (by simp; omega)]
      go_wp2
      go_round
      case rel => exact ⟨k + 1, by omega, by omega, by go_num, by rw [HS.out]; congr 1; split <;> omega⟩
      case measure => simp [intOf]; omega
    · go_wp2
      go_ret
      have e : k = l.length := by omega
      exact ⟨ret_int (by rw [e, List.take_length]), rfl⟩
end Go.Proofs.Ytomekiidgdkmiaa
