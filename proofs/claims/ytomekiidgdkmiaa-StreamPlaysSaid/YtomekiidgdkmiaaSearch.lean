/-
  slices.BinarySearchFunc at operations, by their numbers.
-/
import Derived.Test.YtomekiidgdkmiaaStm
namespace Go.Proofs.Ytomekiidgdkmiaa
open Go.RowKit
set_option linter.unusedVariables false
set_option linter.unusedSimpArgs false

set_option maxRecDepth 100000 in
theorem seqcmp_any (x y : OpV) (w : World) (hx : 0 ≤ x.seq) (hx2 : x.seq ≤ 4611686018427387904) (hy : 0 ≤ y.seq) (hy2 : y.seq ≤ 4611686018427387904) :
    Calls Try.prog 60 #[.agg #[.int .i64 x.seq, .int .i64 x.kind, .int .i64 x.time, .int .i64 x.key, .int .i64 x.val], .agg #[.int .i64 y.seq, .int .i64 y.kind, .int .i64 y.time, .int .i64 y.key, .int .i64 y.val]] w
      fun e w' => e = .returned (.int .i64 (x.seq - y.seq)) ∧ Below w.heap.size w w' := by
  go_enter Try.func60, Try.ntmps60
  go_wp2
  go_ret
  exact ⟨rfl, below_alloc2 _ _ _⟩

def SeqAt (r : Nat) (l : List OpV) (x : Int) : Prop := r ≤ l.length ∧ (∀ t, t < r → (opn l t).seq < x) ∧ (∀ t, r ≤ t → t < l.length → x ≤ (opn l t).seq)

set_option maxHeartbeats 800000 in
set_option maxRecDepth 100000 in
theorem search_any (l : List OpV) (b off c : Nat) (y : OpV) (w : World) (hl : l.length ≤ 3000000000000) (hat : RowAt w b off (opVals l)) (hy : 0 ≤ y.seq) (hy2 : y.seq ≤ 4611686018427387904)
    (hs : ∀ i, i < l.length → 0 ≤ (opn l i).seq ∧ (opn l i).seq ≤ 4611686018427387904) (hsort : ∀ i j, i < j → j < l.length → (opn l i).seq < (opn l j).seq) :
    Calls Try.prog 59 #[.slice (some ⟨b, off, none⟩) l.length c, .agg #[.int .i64 y.seq, .int .i64 y.kind, .int .i64 y.time, .int .i64 y.key, .int .i64 y.val], .func (.func 60) #[] #[]] w
      fun e w' => ∃ (r : Nat) (fd : Bool), e = .returned (.tuple #[.int .i64 r, .bool fd]) ∧ SeqAt r l y.seq ∧ Below w.heap.size w w' := by
  have HAT := Lib.hid hat
  have HS := Lib.hid hs
  have HSORT := Lib.hid hsort
  clear hat hs hsort
  go_enter Try.func59, Try.ntmps59
  go_wp2
  go_loopw [9, 10, 11] (fun iv jv _ wr => ∃ i j : Nat, i ≤ j ∧ j ≤ l.length ∧ iv = .int .i64 i ∧ jv = .int .i64 j ∧ Hid (∀ t, t < i → (opn l t).seq < y.seq) ∧ Hid (∀ t, j ≤ t → t < l.length → y.seq ≤ (opn l t).seq) ∧
      Below (w.heap.size + 1) (w.alloc (.cells #[.int .i64 y.seq, .int .i64 y.kind, .int .i64 y.time, .int .i64 y.key, .int .i64 y.val] 34)) wr) (fun iv jv _ _ => (intOf jv).toNat - (intOf iv).toNat)
  case atStart => exact ⟨0, l.length, Nat.zero_le _, Nat.le_refl _, rfl, rfl, fun t ht => by omega, fun t h1 h2 => by omega, Below.refl _ _⟩
  case round =>
    obtain ⟨i, j, hij, hj, rfl, rfl, h1, h2, hbel⟩ := hrel
    have hall : Below w.heap.size w wr := (below_alloc w _).trans (hbel.mono (by omega))
    have b0 := old_cell hbel (box_cell w _ _ _ 0 _ rfl) (by simp)
    have b1 := old_cell hbel (box_cell w _ _ _ 1 _ rfl) (by simp)
    have b2 := old_cell hbel (box_cell w _ _ _ 2 _ rfl) (by simp)
    have b3 := old_cell hbel (box_cell w _ _ _ 3 _ rfl) (by simp)
    have b4 := old_cell hbel (box_cell w _ _ _ 4 _ rfl) (by simp)
    have HALL := Lib.hid hall
    have HBEL := Lib.hid hbel
    clear hall hbel
    by_cases hlt : i < j
    · obtain ⟨h, hh⟩ : ∃ h, h = (i + j) / 2 := ⟨_, rfl⟩
      have hih : i ≤ h := by omega
      have hhj : h < j := by omega
      have hhl : h < l.length := by omega
      obtain ⟨a1, a2, a3, a4, a5⟩ := HAT.out.op h hhl
      have c1 := old_cell HALL.out a1 (cell_lt a1)
      have c2 := old_cell HALL.out a2 (cell_lt a2)
      have c3 := old_cell HALL.out a3 (cell_lt a3)
      have c4 := old_cell HALL.out a4 (cell_lt a4)
      have c5 := old_cell HALL.out a5 (cell_lt a5)
      clear a1 a2 a3 a4 a5
      obtain ⟨s1, s2⟩ := HS.out h hhl
      have he : ((i : Int) + (j : Int)) / 2 = (h : Int) := by omega
      have HE := Lib.hid he
      clear hh he
      cases hd : decide ((opn l h).seq - y.seq < 0)
      · have HD := Lib.hid (of_decide_eq_false hd)
        go_wp2_with fail
        rw [HE.out]
        go_region_held3 (fun w' => w'.cell? ⟨b, off + h * 5, none⟩ = some (.int .i64 (opn l h).seq) ∧ w'.cell? ⟨b, off + h * 5 + 1, none⟩ = some (.int .i64 (opn l h).kind) ∧ w'.cell? ⟨b, off + h * 5 + 2, none⟩ = some (.int .i64 (opn l h).time) ∧ w'.cell? ⟨b, off + h * 5 + 3, none⟩ = some (.int .i64 (opn l h).key) ∧ w'.cell? ⟨b, off + h * 5 + 4, none⟩ = some (.int .i64 (opn l h).val) ∧
            w'.cell? ⟨w.heap.size, 0, none⟩ = some (.int .i64 y.seq) ∧ w'.cell? ⟨w.heap.size, 1, none⟩ = some (.int .i64 y.kind) ∧ w'.cell? ⟨w.heap.size, 2, none⟩ = some (.int .i64 y.time) ∧ w'.cell? ⟨w.heap.size, 3, none⟩ = some (.int .i64 y.key) ∧ w'.cell? ⟨w.heap.size, 4, none⟩ = some (.int .i64 y.val)) (go_keep)
          (first | (go_at_call 60; obtain ⟨s0, s1', s2', s3, s4, s5, s6, s7, s8, s9⟩ := ‹_ ∧ _ ∧ _ ∧ _ ∧ _ ∧ _ ∧ _ ∧ _ ∧ _ ∧ _›; refine (seqcmp_any (opn l h) y _ s1 s2 hy hy2).mono ?_; rintro e w3 ⟨rfl, hbl⟩; have HB3 := Lib.hid (undrew2 hbl); replace s0 := old_cell hbl s0 (cell_lt s0); replace s1' := old_cell hbl s1' (cell_lt s1'); replace s2' := old_cell hbl s2' (cell_lt s2'); replace s3 := old_cell hbl s3 (cell_lt s3); replace s4 := old_cell hbl s4 (cell_lt s4); replace s5 := old_cell hbl s5 (cell_lt s5); replace s6 := old_cell hbl s6 (cell_lt s6); replace s7 := old_cell hbl s7 (cell_lt s7); replace s8 := old_cell hbl s8 (cell_lt s8); replace s9 := old_cell hbl s9 (cell_lt s9)))
        go_wp2
        go_roundw
        case rel =>
          refine ⟨i, h, hih, by omega, rfl, rfl, h1, ?_, HBEL.out.trans (HB3.out.mono (by have := HBEL.out.size; simp at this; omega))⟩
          intro t ht1 ht2
          have hd2 := HD.out
          rcases Nat.eq_or_lt_of_le ht1 with e | e
          · subst e; omega
          · have := HSORT.out h t e ht2; omega
        case measure => simp [intOf]; omega
      · have HD := Lib.hid (of_decide_eq_true hd)
        go_wp2_with fail
        rw [HE.out]
        go_region_held3 (fun w' => w'.cell? ⟨b, off + h * 5, none⟩ = some (.int .i64 (opn l h).seq) ∧ w'.cell? ⟨b, off + h * 5 + 1, none⟩ = some (.int .i64 (opn l h).kind) ∧ w'.cell? ⟨b, off + h * 5 + 2, none⟩ = some (.int .i64 (opn l h).time) ∧ w'.cell? ⟨b, off + h * 5 + 3, none⟩ = some (.int .i64 (opn l h).key) ∧ w'.cell? ⟨b, off + h * 5 + 4, none⟩ = some (.int .i64 (opn l h).val) ∧
            w'.cell? ⟨w.heap.size, 0, none⟩ = some (.int .i64 y.seq) ∧ w'.cell? ⟨w.heap.size, 1, none⟩ = some (.int .i64 y.kind) ∧ w'.cell? ⟨w.heap.size, 2, none⟩ = some (.int .i64 y.time) ∧ w'.cell? ⟨w.heap.size, 3, none⟩ = some (.int .i64 y.key) ∧ w'.cell? ⟨w.heap.size, 4, none⟩ = some (.int .i64 y.val)) (go_keep)
          (first | (go_at_call 60; obtain ⟨s0, s1', s2', s3, s4, s5, s6, s7, s8, s9⟩ := ‹_ ∧ _ ∧ _ ∧ _ ∧ _ ∧ _ ∧ _ ∧ _ ∧ _ ∧ _›; refine (seqcmp_any (opn l h) y _ s1 s2 hy hy2).mono ?_; rintro e w3 ⟨rfl, hbl⟩; have HB3 := Lib.hid (undrew2 hbl); replace s0 := old_cell hbl s0 (cell_lt s0); replace s1' := old_cell hbl s1' (cell_lt s1'); replace s2' := old_cell hbl s2' (cell_lt s2'); replace s3 := old_cell hbl s3 (cell_lt s3); replace s4 := old_cell hbl s4 (cell_lt s4); replace s5 := old_cell hbl s5 (cell_lt s5); replace s6 := old_cell hbl s6 (cell_lt s6); replace s7 := old_cell hbl s7 (cell_lt s7); replace s8 := old_cell hbl s8 (cell_lt s8); replace s9 := old_cell hbl s9 (cell_lt s9)))
        go_wp2
        go_roundw
        case rel =>
          refine ⟨h + 1, j, by omega, hj, by go_num, rfl, ?_, h2, HBEL.out.trans (HB3.out.mono (by have := HBEL.out.size; simp at this; omega))⟩
          intro t ht
          have hd2 := HD.out
          rcases Nat.lt_succ_iff_lt_or_eq.1 ht with e | e
          · have := HSORT.out t h e hhl; omega
          · subst e; omega
        case measure => simp [intOf]; omega
    · have e : i = j := by omega
      subst e
      by_cases hin : i < l.length
      · have g1 : decide (i < l.length) = true := decide_eq_true hin
        obtain ⟨a1, a2, a3, a4, a5⟩ := HAT.out.op i hin
        have c1 := old_cell HALL.out a1 (cell_lt a1)
        have c2 := old_cell HALL.out a2 (cell_lt a2)
        have c3 := old_cell HALL.out a3 (cell_lt a3)
        have c4 := old_cell HALL.out a4 (cell_lt a4)
        have c5 := old_cell HALL.out a5 (cell_lt a5)
        clear a1 a2 a3 a4 a5
        obtain ⟨s1, s2⟩ := HS.out i hin
        go_wp2_with fail
        go_region_held3 (fun w' => w'.cell? ⟨b, off + i * 5, none⟩ = some (.int .i64 (opn l i).seq) ∧ w'.cell? ⟨b, off + i * 5 + 1, none⟩ = some (.int .i64 (opn l i).kind) ∧ w'.cell? ⟨b, off + i * 5 + 2, none⟩ = some (.int .i64 (opn l i).time) ∧ w'.cell? ⟨b, off + i * 5 + 3, none⟩ = some (.int .i64 (opn l i).key) ∧ w'.cell? ⟨b, off + i * 5 + 4, none⟩ = some (.int .i64 (opn l i).val) ∧
            w'.cell? ⟨w.heap.size, 0, none⟩ = some (.int .i64 y.seq) ∧ w'.cell? ⟨w.heap.size, 1, none⟩ = some (.int .i64 y.kind) ∧ w'.cell? ⟨w.heap.size, 2, none⟩ = some (.int .i64 y.time) ∧ w'.cell? ⟨w.heap.size, 3, none⟩ = some (.int .i64 y.key) ∧ w'.cell? ⟨w.heap.size, 4, none⟩ = some (.int .i64 y.val)) (go_keep)
          (first | (go_at_call 60; obtain ⟨s0, s1', s2', s3, s4, s5, s6, s7, s8, s9⟩ := ‹_ ∧ _ ∧ _ ∧ _ ∧ _ ∧ _ ∧ _ ∧ _ ∧ _ ∧ _›; refine (seqcmp_any (opn l i) y _ s1 s2 hy hy2).mono ?_; rintro e w3 ⟨rfl, hbl⟩; have HB3 := Lib.hid (undrew2 hbl); replace s0 := old_cell hbl s0 (cell_lt s0); replace s1' := old_cell hbl s1' (cell_lt s1'); replace s2' := old_cell hbl s2' (cell_lt s2'); replace s3 := old_cell hbl s3 (cell_lt s3); replace s4 := old_cell hbl s4 (cell_lt s4); replace s5 := old_cell hbl s5 (cell_lt s5); replace s6 := old_cell hbl s6 (cell_lt s6); replace s7 := old_cell hbl s7 (cell_lt s7); replace s8 := old_cell hbl s8 (cell_lt s8); replace s9 := old_cell hbl s9 (cell_lt s9)))
        all_goals
          go_wp2
          go_ret2
          exact ⟨i, _, rfl, ⟨hj, h1.out, h2.out⟩, HALL.out.trans (HB3.out.mono HALL.out.size)⟩
      · have g1 : decide (i < l.length) = false := decide_eq_false hin
        go_wp2_with fail
        go_quiet (fail)
        go_wp2
        go_ret2
        exact ⟨i, _, rfl, ⟨hj, h1.out, h2.out⟩, below_drewN HALL.out _⟩
end Go.Proofs.Ytomekiidgdkmiaa
