/-
  slices.IndexFunc and slices.DeleteFunc at operations, with a closure of one captured cell.
-/
import Derived.Test.YtomekiidgdkmiaaStm
namespace Go.Proofs.Ytomekiidgdkmiaa
open Go.RowKit
set_option linter.unusedVariables false
set_option linter.unusedSimpArgs false

set_option maxRecDepth 100000 in
theorem indexop_any (fid : Nat) (hcall : ∀ (args : Array Value) (wx : World), (callFunc fid args).run Try.prog wx = .ok (.enter fid args) wx) (cap : Value) (l : List OpV) (b off c : Nat) (p : Nat → Bool) (w : World) (hl : l.length ≤ 3000000000000) (hat : RowAt w b off (opVals l))
    (hf : ∀ i w1, i < l.length → Below w.heap.size w w1 → Calls Try.prog fid #[.agg #[.int .i64 (opn l i).seq, .int .i64 (opn l i).kind, .int .i64 (opn l i).time, .int .i64 (opn l i).key, .int .i64 (opn l i).val], cap] w1 fun e w' => e = .returned (.bool (p i)) ∧ Below w1.heap.size w1 w') :
    Calls Try.prog 57 #[.slice (some ⟨b, off, none⟩) l.length c, .func (.func fid) #[] #[cap]] w
      fun e w' => e = .returned (.int .i64 (firstAt p l.length 0)) ∧ Below w.heap.size w w' := by
  have HF := Lib.hid hf
  have HA := Lib.hid hat
  clear hf hat
  go_enter Try.func57, Try.ntmps57
  go_wp2
  go_loopw [5, 8] (fun _ i wr => ∃ k : Nat, k ≤ l.length ∧ i = .int .i64 k ∧ Hid (firstAt p l.length 0 = firstAt p l.length k) ∧ Below w.heap.size w wr) (fun _ i _ => l.length - (intOf i).toNat)
  case atStart => exact ⟨0, Nat.zero_le _, rfl, rfl, Below.refl _ _⟩
  case round =>
    obtain ⟨k, hk, rfl, hz, hbel⟩ := hrel
    by_cases hlt : k < l.length
    · obtain ⟨a1, a2, a3, a4, a5⟩ := HA.out.op k hlt
      have c1 := old_cell hbel a1 (cell_lt a1)
      have c2 := old_cell hbel a2 (cell_lt a2)
      have c3 := old_cell hbel a3 (cell_lt a3)
      have c4 := old_cell hbel a4 (cell_lt a4)
      have c5 := old_cell hbel a5 (cell_lt a5)
      clear a1 a2 a3 a4 a5
      cases hp : p k
      · have hz2 : Hid (firstAt p l.length 0 = firstAt p l.length (k + 1)) := by
          show _ = _
          rw [hz.out]; rw [firstAt]; rw [dif_pos hlt, hp]; rfl
        have HP := Lib.hid hp
        clear hp
        go_wp2_with ((with_reducible refine (HF.out k _ hlt hbel).mono ?_); rw [HP.out]; rintro e w' ⟨rfl, hb⟩)
        go_roundw
        case rel => exact ⟨k + 1, by omega, by go_num, hz2, hbel.trans (hb.mono hbel.size)⟩
        case measure => simp [intOf]; omega
      · have hz2 : Hid (firstAt p l.length k = k) := by
          show _ = _
          rw [firstAt, dif_pos hlt, hp]; rfl
        have HP := Lib.hid hp
        clear hp
        go_wp2_with ((with_reducible refine (HF.out k _ hlt hbel).mono ?_); rw [HP.out]; rintro e w' ⟨rfl, hb⟩)
        go_ret
        exact ⟨ret_int (by rw [hz.out, hz2.out]), hbel.trans (hb.mono hbel.size)⟩
    · have hz2 : Hid (firstAt p l.length k = -1) := by
        show _ = _
        rw [firstAt, dif_neg hlt]
      go_wp2
      go_ret
      exact ⟨ret_int (by rw [hz.out, hz2.out]), hbel⟩

theorem indexop_nil (f : Value) (w : World) :
    Calls Try.prog 57 #[.slice none 0 0, f] w fun e w' => e = .returned (.int .i64 (-1)) ∧ w = w' := by
  go_enter Try.func57, Try.ntmps57
  go_wp2
  go_loop [5, 8] (fun _ i => i = .int .i64 0) (fun _ _ => 0)
  case atStart => rfl
  case round =>
    subst hrel
    go_wp2
    go_ret
    exact ⟨rfl, rfl⟩

/-- the elements for whose index p doesn't hold -/
def fil (p : Nat → Bool) : Nat → List OpV → List OpV
  | _, [] => []
  | i, x :: l => if p i then fil p (i + 1) l else x :: fil p (i + 1) l
theorem fil_append (p : Nat → Bool) (l m : List OpV) (i : Nat) : fil p i (l ++ m) = fil p i l ++ fil p (i + l.length) m := by
  induction l generalizing i with
  | nil => simp [fil]
  | cons x l ih =>
    simp only [List.cons_append, fil, ih, List.length_cons]
    rw [show i + 1 + l.length = i + (l.length + 1) from by omega]
    split <;> simp
theorem fil_len (p : Nat → Bool) (l : List OpV) (i : Nat) : (fil p i l).length ≤ l.length := by
  induction l generalizing i with
  | nil => simp [fil]
  | cons x l ih =>
    have := ih (i + 1)
    simp only [fil]
    split <;> simp <;> omega
theorem fil_none (p : Nat → Bool) (l : List OpV) (i : Nat) (h : ∀ k, i ≤ k → k < i + l.length → p k = false) : fil p i l = l := by
  induction l generalizing i with
  | nil => rfl
  | cons x l ih =>
    simp only [fil]
    rw [h i (Nat.le_refl _) (by simp), ih (i + 1) (fun k h1 h2 => h k (by omega) (by simp; omega))]
    simp
theorem take_succ_op (l : List OpV) (k : Nat) (h : k < l.length) : l.take (k + 1) = l.take k ++ [opn l k] := by
  rw [List.take_succ_eq_append_getElem h, opn_get h]
theorem drop_op (l : List OpV) (k : Nat) (h : k < l.length) : l.drop k = opn l k :: l.drop (k + 1) := by
  rw [List.drop_eq_getElem_cons h, opn_get h]
theorem fil_step_yes (p : Nat → Bool) (l : List OpV) (k : Nat) (h : k < l.length) (hp : p k = true) : fil p 0 (l.take (k + 1)) = fil p 0 (l.take k) := by
  rw [take_succ_op l k h, fil_append]
  simp [fil, Nat.min_eq_left (Nat.le_of_lt h), hp]
theorem fil_step_no (p : Nat → Bool) (l : List OpV) (k : Nat) (h : k < l.length) (hp : p k = false) : fil p 0 (l.take (k + 1)) = fil p 0 (l.take k) ++ [opn l k] := by
  rw [take_succ_op l k h, fil_append]
  simp [fil, Nat.min_eq_left (Nat.le_of_lt h), hp]
theorem fil_filter (q : OpV → Bool) (l : List OpV) (p : Nat → Bool) (i : Nat) (h : ∀ k, k < l.length → p (i + k) = q (opn l k)) : fil p i l = l.filter (fun o => !q o) := by
  induction l generalizing i with
  | nil => rfl
  | cons x l ih =>
    have h0 : p i = q x := h 0 (by simp)
    have h1 := ih (i + 1) (fun k hk => by have := h (k + 1) (by simpa using hk); rw [show i + 1 + k = i + (k + 1) from by omega]; exact this)
    simp only [fil, List.filter_cons, h0, h1]
    cases q x <;> simp

/-- an operation stored into a row -/
def set5 (w : World) (g pos : Nat) (o : OpV) : World :=
  ((((w.setCell ⟨g, pos, none⟩ (.int .i64 o.seq)).setCell ⟨g, pos + 1, none⟩ (.int .i64 o.kind)).setCell ⟨g, pos + 2, none⟩ (.int .i64 o.time)).setCell ⟨g, pos + 3, none⟩ (.int .i64 o.key)).setCell ⟨g, pos + 4, none⟩ (.int .i64 o.val)
theorem set5_keeps (w : World) (g pos : Nat) (o : OpV) : Keeps (fun k => k = g) w (set5 w g pos o) := (((((Keeps.refl _ w).set pos _).set (pos + 1) _).set (pos + 2) _).set (pos + 3) _).set (pos + 4) _
theorem set5_heap {w : World} {g pos : Nat} {o : OpV} {cur : Array Value} {T : TypeId} (h : w.heap[g]? = some (.cells cur T (0, 0))) :
    ∃ cur', (set5 w g pos o).heap[g]? = some (.cells cur' T (0, 0)) ∧ cur'.size = cur.size ∧ (∀ j, (j < pos ∨ pos + 5 ≤ j) → cur'[j]? = cur[j]?) ∧ (pos + 5 ≤ cur.size → ∀ j, j < 5 → cur'[pos + j]? = o.vals[j]?) := by
  refine ⟨_, heap_set (heap_set (heap_set (heap_set (heap_set h)))), by simp, ?_, ?_⟩
  · intro j hj
    repeat rw [Array.getElem?_setIfInBounds_ne (by omega)]
  · intro hs j hj
    match j, hj with
    | 0, _ => repeat (first | rw [Array.getElem?_setIfInBounds_ne (by omega)] | (rw [Array.getElem?_setIfInBounds_self]; simp [OpV.vals]; done) | simp [Array.getElem?_setIfInBounds, OpV.vals]; omega)
    | 1, _ => simp [Array.getElem?_setIfInBounds, OpV.vals]; omega
    | 2, _ => simp [Array.getElem?_setIfInBounds, OpV.vals]; omega
    | 3, _ => simp [Array.getElem?_setIfInBounds, OpV.vals]; omega
    | 4, _ => simp [Array.getElem?_setIfInBounds, OpV.vals]; omega
end Go.Proofs.Ytomekiidgdkmiaa
