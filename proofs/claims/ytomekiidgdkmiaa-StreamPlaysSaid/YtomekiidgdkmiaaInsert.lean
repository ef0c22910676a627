/-
  slices.Insert of one operation into a row that the call itself made, wherever.
-/
import Derived.Test.YtomekiidgdkmiaaStmAll
import Derived.Test.YtomekiidgdkmiaaCopyK
import Derived.Shelf.Spec.SlicesInsertGrow
namespace Go.Proofs.Ytomekiidgdkmiaa
open Go.RowKit Go.Shelf Go.Lib
set_option linter.unusedVariables false
set_option linter.unusedSimpArgs false

theorem block_lt_of_some {w : World} {b : Nat} {o : Obj} (h : w.heap[b]? = some o) : b < w.heap.size := (Array.getElem?_eq_some_iff.1 h).1
theorem setRow_keeps (w : World) (g : Nat) (r : Array Value) : Keeps (fun k => k = g) w (w.setRow g r) :=
  ⟨rfl, rfl, rfl, by simp [World.setRow], fun i hi hn => by simp only [World.setRow]; rw [Array.getElem?_modify]; simp [Ne.symm hn]⟩
theorem opVals_take (l : List OpV) (i : Nat) (h : i ≤ l.length) : (opVals l).take (i * 5) = opVals (l.take i) := by
  have e : opVals l = opVals (l.take i) ++ opVals (l.drop i) := by rw [opVals, opVals, opVals, ← List.flatMap_append, List.take_append_drop]
  have hl : (opVals (l.take i)).length = i * 5 := by rw [opVals_len, List.length_take, Nat.min_eq_left h]
  rw [e, ← hl, List.take_left]
theorem opVals_ins (l : List OpV) (y : OpV) (i : Nat) : opVals (l.take i ++ y :: l.drop i) = opVals (l.take i) ++ (y.vals ++ opVals (l.drop i)) := by
  simp [opVals]
theorem ins_len (l : List OpV) (y : OpV) (i : Nat) (h : i ≤ l.length) : (l.take i ++ y :: l.drop i).length = l.length + 1 := by simp; omega
/-- the row behind the two copies -/
theorem ins_row {cur : List Value} {l : List OpV} {y : OpV} {i : Nat} {R : List Value} (hi : i ≤ l.length) (h : cur.take (i * 5) = opVals (l.take i)) (hl : i * 5 ≤ cur.length) :
    (cur.take (i * 5) ++ y.vals ++ (opVals (l.drop i) ++ R)).take ((l.length + 1) * 5) = opVals (l.take i ++ y :: l.drop i) := by
  rw [h, opVals_ins]
  have e : (opVals (l.take i) ++ (y.vals ++ opVals (l.drop i))).length = (l.length + 1) * 5 := by
    rw [← opVals_ins, opVals_len, ins_len l y i hi]
  rw [← e, show opVals (l.take i) ++ y.vals ++ (opVals (l.drop i) ++ R) = (opVals (l.take i) ++ (y.vals ++ opVals (l.drop i))) ++ R from by simp]
  rw [List.take_left]

set_option maxHeartbeats 2000000 in
set_option maxRecDepth 100000 in
theorem insert_room (l : List OpV) (g cap B vb vc i : Nat) (y : OpV) (w : World) (hi : i < l.length) (hl : l.length ≤ 3000000000000) (hown : w.ownsRow B 34 5 (.slice (some ⟨g, 0, none⟩) l.length cap) l.length (opVals l))
    (hroom : l.length + 1 ≤ cap) (hne : vb ≠ g) (hy : w.heap[vb]? = some (.cells y.vals.toArray 34 (0, 0))) :
    Calls Try.prog 61 #[.slice (some ⟨g, 0, none⟩) l.length cap, .int .i64 i, .slice (some ⟨vb, 0, none⟩) 1 vc] w
      (SomeV fun v' w' => w'.ownsRow B 34 5 v' (l.length + 1) (opVals (l.take i ++ y :: l.drop i)) ∧ Keeps (fun k => k = g) w w') := by
  obtain ⟨i0, hi0, hz0, hz1, hz2⟩ := info_parts infoOp
  have hsz : (Try.prog.info? 34).map (·.size) = some 5 := by rw [hi0]; simp [hz1]
  obtain ⟨cur, hB, hblk, hcap, hcur, htk⟩ : ∃ cur, B ≤ g ∧ w.heap[g]? = some (.cells cur 34 (0, 0)) ∧ cap ≤ maxLen ∧ cur.size = cap * 5 ∧ cur.toList.take (l.length * 5) = opVals l := by
    rcases hown.2 with ⟨h, _⟩ | ⟨g', cap', cur, h, h0, hh, h1, h1b, h2, h3⟩
    · simp at h
    · simp only [Value.slice.injEq, Option.some.injEq, Addr.mk.injEq, and_true, true_and] at h
      obtain ⟨rfl, rfl⟩ := h
      exact ⟨cur, h0, hh, h1b, h2, h3⟩
  unfold maxLen at hcap
  have hrow := own_row hown
  have hov : ∀ lb cb, (callFunc 68 #[.slice (some ⟨vb, 0, none⟩) 1 vc, .slice (some ⟨g, (i + 1) * 5, none⟩) lb cb]).run Try.prog w = .ok (.value (.bool false)) w := fun lb cb => by
    rw [run_callFunc_extern Try.func68 (by kernel_rfl) (by kernel_rfl) (by kernel_rfl) (e := Extern.SlicesOverlaps.overlaps #[40, 40] #[4]) (by kernel_rfl),
      Lib.run_overlaps_apart w 40 4 34 Try.underlying40 5 (by intro w; kernel_rfl) ⟨vb, 0, none⟩ ⟨g, (i + 1) * 5, none⟩ 1 vc lb cb hne 34 34 5 cur.size (by simp [World.shape?, hy, OpV.vals]) (by simp [World.shape?, hblk]) (by omega) (by simp [World.frozen?, hy]) (by simp [World.frozen?, hy])]
    rfl
  have hdl : (opVals (l.drop i)).length = (l.length - i) * 5 := by rw [opVals_len, List.length_drop]
  have hcl : cur.toList.length = cap * 5 := by simpa using hcur
  have hti : cur.toList.take (i * 5) = opVals (l.take i) := by
    rw [← opVals_take l i (by omega), ← htk, List.take_take, Nat.min_eq_left (by omega)]
  obtain ⟨R1, hR1⟩ : ∃ R1, R1 = (cur.toList.take ((i + 1) * 5) ++ opVals (l.drop i) ++ cur.toList.drop ((i + 1) * 5 + (opVals (l.drop i)).length)).toArray := ⟨_, rfl⟩
  have hR1s : R1.size = cap * 5 := by rw [hR1]; simp [hdl, hcl]; omega
  have hR1t : R1.toList.take (i * 5) = opVals (l.take i) := by
    rw [hR1, ← hti]
    simp only [List.append_assoc]
    rw [List.take_append_of_le_length (by rw [List.length_take, hcl]; omega), List.take_take, Nat.min_eq_left (by omega)]
  have hR1d : R1.toList.drop (i * 5 + 5) = opVals (l.drop i) ++ cur.toList.drop ((i + 1) * 5 + (opVals (l.drop i)).length) := by
    rw [hR1]
    simp only [List.append_assoc]
    rw [List.drop_append_of_le_length (by rw [List.length_take, hcl]; omega), List.drop_eq_nil_of_le (by rw [List.length_take, hcl]; omega), List.nil_append]
  obtain ⟨R2, hR2⟩ : ∃ R2, R2 = (R1.toList.take (i * 5) ++ y.vals ++ R1.toList.drop (i * 5 + y.vals.length)).toArray := ⟨_, rfl⟩
  have hR2s : R2.size = cap * 5 := by rw [hR2]; simp [hR1s, OpV.vals]; omega
  have hR2t : R2.toList.take ((l.length + 1) * 5) = opVals (l.take i ++ y :: l.drop i) := by
    rw [hR2]
    have e5 : i * 5 + y.vals.length = i * 5 + 5 := rfl
    rw [e5, hR1d, hR1t]
    have := ins_row (cur := opVals (l.take i)) (l := l) (y := y) (i := i) (R := cur.toList.drop ((i + 1) * 5 + (opVals (l.drop i)).length)) (by omega) (by rw [List.take_of_length_le]; rw [opVals_len, List.length_take]; omega) (by rw [opVals_len, List.length_take]; omega)
    rw [List.take_of_length_le (show (opVals (l.take i)).length ≤ i * 5 by rw [opVals_len, List.length_take]; omega)] at this
    exact this
  have hcp1 : ∀ ty dc sc, (Builtin.copy_ #[40, 40] ty #[.slice (some ⟨g, (i + 1) * 5, none⟩) (l.length - i) dc, .slice (some ⟨g, i * 5, none⟩) (l.length + 1 - i) sc]).run Try.prog w.drew = .ok (goInt ((l.length - i : Nat) : Int)) (w.drew.setRow g R1) := fun ty dc sc => by
    rw [hR1]
    exact run_copy_rowk w.drew _ _ ty 34 5 g ((i + 1) * 5) _ dc ⟨g, i * 5, none⟩ _ sc cur 34 (opVals (l.drop i)) (l.length - i) Try.underlying40 hsz hblk (by simp only [Nat.min_def]; split <;> omega) hdl
      (fun j u hj => by
        rw [Addr.add_lit]
        have h1 : (opVals l)[i * 5 + j]? = some u := by
          have e : opVals l = opVals (l.take i) ++ opVals (l.drop i) := by rw [opVals, opVals, opVals, ← List.flatMap_append, List.take_append_drop]
          have hl5 : (opVals (l.take i)).length = i * 5 := by rw [opVals_len, List.length_take, Nat.min_eq_left (by omega)]
          rw [e, List.getElem?_append_right (by omega), hl5, Nat.add_sub_cancel_left]; exact hj
        have := hrow (i * 5 + j) u h1
        rwa [Nat.zero_add] at this)
      (by rw [hdl, hcur]; omega) (opVals_one _)
  have hcp2 : ∀ W : World, W.heap[g]? = some (.cells R1 34 (0, 0)) → W.heap[vb]? = some (.cells y.vals.toArray 34 (0, 0)) → ∀ ty dc, (Builtin.copy_ #[40, 40] ty #[.slice (some ⟨g, i * 5, none⟩) (l.length + 1 - i) dc, .slice (some ⟨vb, 0, none⟩) 1 vc]).run Try.prog W = .ok (goInt 1) (W.setRow g R2) := fun W h1 h2 ty dc => by
    rw [hR2]
    exact run_copy_rowk W _ _ ty 34 5 g (i * 5) _ dc ⟨vb, 0, none⟩ 1 vc R1 34 y.vals 1 Try.underlying40 hsz h1 (by simp only [Nat.min_def]; split <;> omega) rfl
      (fun j u hj => by rw [Addr.add_lit, cell_of_row _ _ _ _ _ _ h2]; simpa using hj) (by rw [hR1s]; simp [OpV.vals]; omega) (by simp [OpV.vals, Value.oneCell'])
  have hvg : w.heap[vb]? = some (.cells y.vals.toArray 34 (0, 0)) → (w.drew.setRow g R1).heap[vb]? = some (.cells y.vals.toArray 34 (0, 0)) := fun h => ((setRow_keeps w.drew g R1).block vb (block_lt_of_some h) hne).trans h
  have W1g : (w.drew.setRow g R1).heap[g]? = some (.cells R1 34 (0, 0)) := setRow_heap w.drew g cur _ _ _ hblk
  have W1v := hvg hy
  have g0 : ((1 : Int) == 0) = false := by decide
  have g1 : ((i : Int) == (l.length : Int)) = false := by simp; omega
  have g2 : decide (cap < l.length + 1) = false := by simp; omega
  have H1 := Lib.hid hcp1
  have H2 := Lib.hid hcp2
  have HV := Lib.hid hov
  have HT := Lib.hid hR2t
  have HS := Lib.hid hR2s
  have HB := Lib.hid hblk
  clear hcp1 hcp2 hov hR2t hR2s hblk hR2 hR1d hR1t hR1s hR1 hti hcl hdl hvg hrow htk hcur hy hown
  have hin : i ≤ l.length := by omega
  have hb2 : ¬ (cap = i + 1) := by omega
  have hb3 : (i : Int) ≤ (l.length : Int) + 1 := by omega
  have hb4 : ¬ (cap = i) := by omega
  go_enter Try.func61, Try.ntmps61
  go_wp2_with (simp only [HV.out])
  have hw1 : IntKind.i64.wrap ((i : Int) + 1) = (i : Int) + 1 := by rw [IntKind.wrap_i64]; omega
  have hb1 : (0 : Int) ≤ (i : Int) + 1 := by omega
  have htn : ((i : Int) + 1).toNat = i + 1 := by omega
  go_region_law (refine step_copy_runI rfl _ _ 40 40 rfl (.slice (some ⟨g, (i + 1) * 5, none⟩) (l.length - i) (cap - (i + 1))) (.slice (some ⟨g, i * 5, none⟩) (l.length + 1 - i) (cap - i)) (by simp [Act.eval, Act.put]) (by simp [Act.eval, Act.put]) (H1.out _ _ _) ?_)
  have E2 := H2.out _ W1g W1v
  go_wp2
  go_ret
  have W2g := setRow_heap (w.drew.setRow g R1) g R1 R2 _ _ W1g
  refine ⟨_, rfl, ⟨by rw [opVals_len, ins_len l y i (by omega)], .inr ⟨g, cap, R2, rfl, hB, W2g, hroom, by unfold maxLen; omega, HS.out, HT.out⟩⟩, ?_⟩
  exact ((Keeps.refl (fun k => k = g) w).drew.trans (setRow_keeps _ g R1) (fun _ _ h => h)).trans (setRow_keeps _ g R2) (fun _ _ h => h)

theorem zop_len (n : Nat) : (Builtin.zeroCells (Value.agg #[.int .i64 0, .int .i64 0, .int .i64 0, .int .i64 0, .int .i64 0]).cells n).size = n * 5 := by
  have := zeroCells_len (Value.agg #[.int .i64 0, .int .i64 0, .int .i64 0, .int .i64 0, .int .i64 0]).cells n
  simpa [Value.cells] using this
set_option maxHeartbeats 2000000 in
set_option maxRecDepth 100000 in
theorem insert_grow (l : List OpV) (g cap B vb vc i : Nat) (y : OpV) (w : World) (hi : i < l.length) (hl : l.length ≤ 3000000000000) (hown : w.ownsRow B 34 5 (.slice (some ⟨g, 0, none⟩) l.length cap) l.length (opVals l))
    (hroom : cap < l.length + 1) (hy : w.heap[vb]? = some (.cells y.vals.toArray 34 (0, 0))) :
    Calls Try.prog 61 #[.slice (some ⟨g, 0, none⟩) l.length cap, .int .i64 i, .slice (some ⟨vb, 0, none⟩) 1 vc] w
      (SomeV fun v' w' => w'.ownsRow w.heap.size 34 5 v' (l.length + 1) (opVals (l.take i ++ y :: l.drop i)) ∧ Below w.heap.size w w') := by
  obtain ⟨i0, hi0, hz0, hz1, hz2⟩ := info_parts infoOp
  have hsz : (Try.prog.info? 34).map (·.size) = some 5 := by rw [hi0]; simp [hz1]
  obtain ⟨cur, hB, hblk, hnc, hcap, hcur, htk⟩ : ∃ cur, B ≤ g ∧ w.heap[g]? = some (.cells cur 34 (0, 0)) ∧ l.length ≤ cap ∧ cap ≤ maxLen ∧ cur.size = cap * 5 ∧ cur.toList.take (l.length * 5) = opVals l := by
    rcases hown.2 with ⟨h, _⟩ | ⟨g', cap', cur, h, h0, hh, h1, h1b, h2, h3⟩
    · simp at h
    · simp only [Value.slice.injEq, Option.some.injEq, Addr.mk.injEq, and_true, true_and] at h
      obtain ⟨rfl, rfl⟩ := h
      exact ⟨cur, h0, hh, h1, h1b, h2, h3⟩
  unfold maxLen at hcap
  have hrow := own_row hown
  have hdl : (opVals (l.drop i)).length = (l.length - i) * 5 := by rw [opVals_len, List.length_drop]
  have htl : (opVals (l.take i)).length = i * 5 := by rw [opVals_len, List.length_take, Nat.min_eq_left (by omega)]
  have hsrc : ∀ j u, (opVals (l.drop i))[j]? = some u → w.cell? ⟨g, i * 5 + j, none⟩ = some u := fun j u hj => by
    have h1 : (opVals l)[i * 5 + j]? = some u := by
      have e : opVals l = opVals (l.take i) ++ opVals (l.drop i) := by rw [opVals, opVals, opVals, ← List.flatMap_append, List.take_append_drop]
      rw [e, List.getElem?_append_right (by omega), htl, Nat.add_sub_cancel_left]; exact hj
    have := hrow (i * 5 + j) u h1
    rwa [Nat.zero_add] at this
  have hkk : (l.length : Int) + 1 - (i : Int) = ((l.length + 1 - i : Nat) : Int) := by omega
  have hik : i + (l.length + 1 - i) = l.length + 1 := by omega
  have hold : (Builtin.firstCells i0.size i (.slice (some ⟨g, 0, none⟩) i cap)).run Try.prog w.drew = .ok (opVals (l.take i)).toArray w.drew := by
    rw [hz1]
    exact run_firstCells_some w.drew 5 i ⟨g, 0, none⟩ i cap (opVals (l.take i)) htl (fun j v hj => by
      rw [add_zero_addr]
      have h1 : (opVals l)[j]? = some v := by
        have e : opVals l = opVals (l.take i) ++ opVals (l.drop i) := by rw [opVals, opVals, opVals, ← List.flatMap_append, List.take_append_drop]
        rw [e, List.getElem?_append_left (by have := (List.getElem?_eq_some_iff.1 hj).1; exact this)]; exact hj
      have := hrow j v h1
      rwa [Nat.zero_add] at this)
  obtain ⟨G, hG⟩ : ∃ G, G = grownCap w (l.length + 1) cap 34 := ⟨_, rfl⟩
  obtain ⟨R0, hR0⟩ : ∃ R0 : Array Value, R0 = (opVals (l.take i)).toArray ++ Builtin.zeroCells (Value.agg #[.int .i64 0, .int .i64 0, .int .i64 0, .int .i64 0, .int .i64 0]).cells (l.length + 1 - i) ++ Builtin.zeroCells (Value.agg #[.int .i64 0, .int .i64 0, .int .i64 0, .int .i64 0, .int .i64 0]).cells (G - (l.length + 1)) := ⟨_, rfl⟩
  have hGn : l.length + 1 ≤ G := by rw [hG]; exact grownCap_ge w _ _ _
  have hG63 : G ≤ 9223372036854775807 := by
    have := grownCap_le_maxLen w (l.length + 1) cap 34 (by unfold maxLen; omega)
    rw [← hG] at this
    unfold maxLen at this
    omega
  have hR0s : R0.size = G * 5 := by
    rw [hR0]; simp only [Array.size_append, zop_len, List.size_toArray, htl]; omega
  have hR0t : R0.toList.take (i * 5) = opVals (l.take i) := by
    rw [hR0]
    simp only [Array.toList_append, List.append_assoc]
    rw [← htl, List.take_left]
  have hrz : ∀ ty, (Builtin.append_ #[40, 3] ty #[.slice (some ⟨g, 0, none⟩) i cap, .int .i64 ((l.length : Int) + 1 - (i : Int))]).run Try.prog w =
      .ok (.slice (some ⟨w.heap.size, 0, none⟩) (l.length + 1) G) (w.drew.alloc (.cells R0 34)) := fun ty => by
    have h := Lib.run_append_grow_zeros w 40 3 ty 34 i0 _ .i64 .i64 Try.underlying40 Try.underlying3 hi0 hz0 (some ⟨g, 0, none⟩) i cap (opVals (l.take i)) hold (l.length + 1 - i) (by omega) (by omega) (by omega) (by omega) (by rw [hz2]; omega) (by rw [hz2, hik]; exact growslice_fits hroom (by omega))
    rw [hik] at h
    rw [hkk, hG, hR0, hG]
    exact h
  obtain ⟨RA, hRA⟩ : ∃ RA, RA = (R0.toList.take (i * 5) ++ y.vals ++ R0.toList.drop (i * 5 + y.vals.length)).toArray := ⟨_, rfl⟩
  have e5 : i * 5 + y.vals.length = i * 5 + 5 := rfl
  have hRAs : RA.size = G * 5 := by rw [hRA]; simp [hR0s, OpV.vals]; omega
  have hRAt : RA.toList.take ((i + 1) * 5) = opVals (l.take i) ++ y.vals := by
    rw [hRA, hR0t]
    have e : (opVals (l.take i) ++ y.vals).length = (i + 1) * 5 := by rw [List.length_append, htl]; simp [OpV.vals]; omega
    rw [← e]
    simp only [List.take_left]
  obtain ⟨RB, hRB⟩ : ∃ RB, RB = (RA.toList.take ((i + 1) * 5) ++ opVals (l.drop i) ++ RA.toList.drop ((i + 1) * 5 + (opVals (l.drop i)).length)).toArray := ⟨_, rfl⟩
  have hRBs : RB.size = G * 5 := by rw [hRB]; simp [hRAs, hdl]; omega
  have hRBt : RB.toList.take ((l.length + 1) * 5) = opVals (l.take i ++ y :: l.drop i) := by
    rw [hRB, hRAt]
    have e : (opVals (l.take i) ++ y.vals ++ opVals (l.drop i)).length = (l.length + 1) * 5 := by
      rw [List.append_assoc, ← opVals_ins, opVals_len, ins_len l y i (by omega)]
    rw [← e]
    simp only [List.take_left]
    rw [opVals_ins, List.append_assoc]
  have hcA : ∀ W : World, W.heap[w.heap.size]? = some (.cells R0 34 (0, 0)) → W.heap[vb]? = some (.cells y.vals.toArray 34 (0, 0)) → ∀ ty dc, (Builtin.copy_ #[40, 40] ty #[.slice (some ⟨w.heap.size, i * 5, none⟩) (l.length + 1 - i) dc, .slice (some ⟨vb, 0, none⟩) 1 vc]).run Try.prog W = .ok (goInt 1) (W.setRow w.heap.size RA) := fun W h1 h2 ty dc => by
    rw [hRA]
    exact run_copy_rowk W _ _ ty 34 5 w.heap.size (i * 5) _ dc ⟨vb, 0, none⟩ 1 vc R0 34 y.vals 1 Try.underlying40 hsz h1 (by simp only [Nat.min_def]; split <;> omega) rfl
      (fun j u hj => by rw [Addr.add_lit, cell_of_row _ _ _ _ _ _ h2]; simpa using hj) (by rw [hR0s]; simp [OpV.vals]; omega) (by simp [OpV.vals, Value.oneCell'])
  have hcB : ∀ W : World, W.heap[w.heap.size]? = some (.cells RA 34 (0, 0)) → W.heap[g]? = w.heap[g]? → ∀ ty dc sc, (Builtin.copy_ #[40, 40] ty #[.slice (some ⟨w.heap.size, (i + 1) * 5, none⟩) (l.length - i) dc, .slice (some ⟨g, i * 5, none⟩) (l.length - i) sc]).run Try.prog W = .ok (goInt ((l.length - i : Nat) : Int)) (W.setRow w.heap.size RB) := fun W h1 h2 ty dc sc => by
    rw [hRB]
    exact run_copy_rowk W _ _ ty 34 5 w.heap.size ((i + 1) * 5) _ dc ⟨g, i * 5, none⟩ _ sc RA 34 (opVals (l.drop i)) (l.length - i) Try.underlying40 hsz h1 (by simp only [Nat.min_def]; split <;> omega) hdl
      (fun j u hj => by rw [Addr.add_lit]; exact (World.cell?_of_block (a := ⟨g, i * 5 + j, none⟩) h2).trans (hsrc j u hj))
      (by rw [hdl, hRAs]; omega) (opVals_one _)
  have hgl : g < w.heap.size := block_lt_of_some hblk
  have hvl : vb < w.heap.size := block_lt_of_some hy
  have W1n : ((w.alloc (.cells R0 34)).drew).heap[w.heap.size]? = some (.cells R0 34 (0, 0)) := heap_alloc_new w _
  have W1v : ((w.alloc (.cells R0 34)).drew).heap[vb]? = some (.cells y.vals.toArray 34 (0, 0)) := (Below.heap_alloc w _ vb hvl).trans hy
  have W2n : (((w.alloc (.cells R0 34)).drew).setRow w.heap.size RA).heap[w.heap.size]? = some (.cells RA 34 (0, 0)) := setRow_heap _ _ R0 _ _ _ W1n
  have W2g : (((w.alloc (.cells R0 34)).drew).setRow w.heap.size RA).heap[g]? = w.heap[g]? := ((setRow_keeps _ _ RA).block g (by show g < (w.alloc _).heap.size; simp; omega) (by omega)).trans (Below.heap_alloc w _ g hgl)
  have EA := hcA _ W1n W1v
  have H2 : Hid (∀ ty dc sc, (Builtin.copy_ #[40, 40] ty #[.slice (some ⟨w.heap.size, (i + 1) * 5, none⟩) (l.length - i) dc, .slice (some ⟨g, i * 5, none⟩) (l.length - i) sc]).run Try.prog (((w.alloc (.cells R0 34)).drew).setRow w.heap.size RA).drew = .ok (goInt ((l.length - i : Nat) : Int)) ((((w.alloc (.cells R0 34)).drew).setRow w.heap.size RA).drew.setRow w.heap.size RB)) := hcB (((w.alloc (.cells R0 34)).drew).setRow w.heap.size RA).drew W2n W2g
  have W3n := setRow_heap (((w.alloc (.cells R0 34)).drew).setRow w.heap.size RA).drew w.heap.size RA RB _ _ W2n
  have HR := Lib.hid hrz
  have HEA := Lib.hid EA
  have HT := Lib.hid hRBt
  have HS := Lib.hid hRBs
  have HW3 := Lib.hid W3n
  have g0 : ((1 : Int) == 0) = false := by decide
  have g1 : ((i : Int) == (l.length : Int)) = false := by simp; omega
  have hin : i ≤ l.length := by omega
  have hb2 : ¬ (G = i + 1) := by omega
  have hb4 : ¬ (G = i) := by omega
  have hb5 : ¬ (cap = i) := by omega
  have hb3 : (i : Int) ≤ (l.length : Int) + 1 := by omega
  clear EA hcA hcB hRBt hRBs W3n W2n W2g W1n W1v hRB hRAt hRAs e5 hRA hrz hR0t hR0s hR0 hG hold hik hkk hsrc htl hdl hrow htk hcur hblk hy hown
  go_enter Try.func61, Try.ntmps61
  go_wp2_with (at_builtin; refine Lib.wpList_append_run _ rfl _ _ _ _ rfl _ _ rfl rfl _ _ (HR.out _) ?_; have EA := HEA.out)
  have hw1 : IntKind.i64.wrap ((i : Int) + 1) = (i : Int) + 1 := by rw [IntKind.wrap_i64]; omega
  have hb1 : (0 : Int) ≤ (i : Int) + 1 := by omega
  have htn : ((i : Int) + 1).toNat = i + 1 := by omega
  go_region_law (refine step_copy_runI rfl _ _ 40 40 rfl (.slice (some ⟨w.heap.size, (i + 1) * 5, none⟩) (l.length - i) (G - (i + 1))) (.slice (some ⟨g, i * 5, none⟩) (l.length - i) (cap - i)) (by simp [Act.eval, Act.put]) (by simp [Act.eval, Act.put]) (H2.out _ _ _) ?_)
  go_wp2
  go_ret
  refine ⟨_, rfl, ⟨by rw [opVals_len, ins_len l y i (by omega)], .inr ⟨w.heap.size, G, RB, rfl, Nat.le_refl _, HW3.out, hGn, by unfold maxLen; omega, HS.out, HT.out⟩⟩, ?_⟩
  have kk := (((Keeps.refl (fun k => k = w.heap.size) w).alloc (.cells R0 34)).drew.trans (setRow_keeps _ w.heap.size RA) (fun _ _ h => h)).drew.trans (setRow_keeps _ w.heap.size RB) (fun _ _ h => h)
  exact kk.below (Nat.le_refl _) (fun k hk => by omega)
/-- one operation laid between others, wherever: a row of the call's own -/
theorem insert_any (l : List OpV) (v : Value) (B vb vc i : Nat) (y : OpV) (w : World) (hi : i ≤ l.length) (hl : l.length ≤ 3000000000000) (hown : w.ownsRow B 34 5 v l.length (opVals l)) (hB : B ≤ w.heap.size) (hne : v.ownBlock ≠ some vb)
    (hy : w.heap[vb]? = some (.cells y.vals.toArray 34 (0, 0))) :
    Calls Try.prog 61 #[v, .int .i64 i, .slice (some ⟨vb, 0, none⟩) 1 vc] w
      (SomeV fun v' w' => w'.ownsRow B 34 5 v' (l.length + 1) (opVals (l.take i ++ y :: l.drop i)) ∧ Below B w w') := by
  have hvl : vb < w.heap.size := block_lt_of_some hy
  by_cases hlt : i < l.length
  · obtain ⟨g, cap, rfl, hg, hgl⟩ := own_some hown (by omega)
    have hc : l.length ≤ cap := by
      rcases hown.2 with ⟨h, _⟩ | ⟨g', cap', cur, h, h0, hh, h1, _⟩
      · simp at h
      · simp only [Value.slice.injEq] at h
        obtain ⟨_, _, rfl⟩ := h; exact h1
    by_cases hr : l.length + 1 ≤ cap
    · refine (insert_room l g cap B vb vc i y w hlt hl hown hr (fun e => hne (by rw [e]; rfl)) hy).mono ?_
      rintro e w' ⟨v', rfl, h1, h2⟩
      exact ⟨v', rfl, h1, h2.below hB (fun k hk => by omega)⟩
    · refine (insert_grow l g cap B vb vc i y w hlt hl hown (by omega) hy).mono ?_
      rintro e w' ⟨v', rfl, h1, h2⟩
      exact ⟨v', rfl, own_down h1 hB, h2.mono hB⟩
  · have e : i = l.length := by omega
    subst e
    refine (insert_end l v B vb vc y w hl hown hB (fun j u hj => by rw [Nat.zero_add, cell_of_row _ _ _ _ _ _ hy]; simpa using hj)).mono ?_
    rintro e w' ⟨v', rfl, h1, h2⟩
    refine ⟨v', rfl, ?_, h2⟩
    rw [List.take_length, List.drop_length]
    exact h1
end Go.Proofs.Ytomekiidgdkmiaa
