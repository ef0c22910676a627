/-
  Contracts of place.Covered and what it calls.
-/
import Derived.Test.YtomekiidgdkmiaaIds
namespace Go.Proofs.Ytomekiidgdkmiaa
open Go.RowKit
set_option linter.unusedVariables false

set_option maxRecDepth 100000 in
theorem covopen_any (k : Nat) (win key : Int) (bx pb po n c : Nat) (q : PlV) (w : World) (hk : k < n) (hn : n ≤ 1000)
    (hbox : w.cell? ⟨bx, 0, none⟩ = some (.slice (some ⟨pb, po, none⟩) n c)) (h1 : w.cell? ⟨pb, po + k * 2, none⟩ = some (.int .i64 q.win)) (h2 : w.cell? ⟨pb, po + k * 2 + 1, none⟩ = some (.int .i64 q.key)) :
    Calls Try.prog 66 #[.agg #[.int .i64 k, .int .i64 win, .int .i64 key], .pointer (some ⟨bx, 0, none⟩)] w fun e w' => e = .returned (.bool (!lessP win key q.win q.key)) ∧ Below w.heap.size w w' := by
  have g1 : decide ((k : Int) < 0) = false := by simp
  have g2 : decide ((n : Int) ≤ (k : Int)) = false := by simp; omega
  have g3 : decide (n ≤ k) = false := by simp; omega
  have hb1 := cell_lt hbox
  have hb2 := cell_lt h1
  simp only at hb1 hb2
  have B0 := alloc_old (o := .cells #[.int .i64 k, .int .i64 win, .int .i64 key] 51) hbox
  have B1 := alloc_old (o := .cells #[.int .i64 k, .int .i64 win, .int .i64 key] 51) h1
  have B2 := alloc_old (o := .cells #[.int .i64 k, .int .i64 win, .int .i64 key] 51) h2
  clear hbox h1 h2
  go_enter Try.func66, Try.ntmps66
  go_wp2
  go_region_held3 (fun w' => w'.cell? ⟨w.heap.size, 0, none⟩ = some (.int .i64 k) ∧ w'.cell? ⟨w.heap.size, 1, none⟩ = some (.int .i64 win) ∧ w'.cell? ⟨w.heap.size, 2, none⟩ = some (.int .i64 key) ∧ w'.cell? ⟨bx, 0, none⟩ = some (.slice (some ⟨pb, po, none⟩) n c) ∧ w'.cell? ⟨pb, po + k * 2, none⟩ = some (.int .i64 q.win) ∧ w'.cell? ⟨pb, po + k * 2 + 1, none⟩ = some (.int .i64 q.key)) (go_keep)
    (first | (go_at_call 38; obtain ⟨s0, s1, s2, s3, s4, s5⟩ := ‹_ ∧ _ ∧ _ ∧ _ ∧ _ ∧ _›; refine (less_any _ _ _ _ _).mono ?_; rintro e w' ⟨rfl, hbl⟩; replace s0 := old_cell hbl s0 (cell_lt s0); replace s1 := old_cell hbl s1 (cell_lt s1); replace s2 := old_cell hbl s2 (cell_lt s2); replace s3 := old_cell hbl s3 (cell_lt s3); replace s4 := old_cell hbl s4 (cell_lt s4); replace s5 := old_cell hbl s5 (cell_lt s5)))
  go_wp2
  go_ret
  exact ⟨by simp, ((below_alloc w _).drew).trans (hbl.mono (by simp))⟩

/-- element i of a row of names -/
def IdsAt (w : World) (b off : Nat) (l : List IdV) : Prop :=
  ∀ i, i < l.length → w.cell? ⟨b, off + i * 3, none⟩ = some (.int .i64 (idn l i).lane) ∧ w.cell? ⟨b, off + i * 3 + 1, none⟩ = some (.int .i64 (idn l i).win) ∧ w.cell? ⟨b, off + i * 3 + 2, none⟩ = some (.int .i64 (idn l i).key)

/-- the first element from k on for which p holds, or -1 -/
def firstAt (p : Nat → Bool) (n : Nat) : Nat → Int
  | k => if h : k < n then (if p k then k else firstAt p n (k + 1)) else -1
termination_by k => n - k

set_option maxRecDepth 100000 in
theorem indexid_any (l : List IdV) (b off c : Nat) (bx : Nat) (p : Nat → Bool) (w : World) (hl : l.length ≤ 1000) (hat : IdsAt w b off l)
    (hf : ∀ i w1, i < l.length → Below w.heap.size w w1 → Calls Try.prog 66 #[.agg #[.int .i64 (idn l i).lane, .int .i64 (idn l i).win, .int .i64 (idn l i).key], .pointer (some ⟨bx, 0, none⟩)] w1 fun e w' => e = .returned (.bool (p i)) ∧ Below w1.heap.size w1 w') :
    Calls Try.prog 73 #[.slice (some ⟨b, off, none⟩) l.length c, .func (.func 66) #[] #[.pointer (some ⟨bx, 0, none⟩)]] w
      fun e w' => e = .returned (.int .i64 (firstAt p l.length 0)) ∧ Below w.heap.size w w' := by
  have HF := Lib.hid hf
  have HA := Lib.hid hat
  clear hf hat
  go_enter Try.func73, Try.ntmps73
  go_wp2
  go_loopw [5, 8] (fun _ i wr => ∃ k : Nat, k ≤ l.length ∧ i = .int .i64 k ∧ Hid (firstAt p l.length 0 = firstAt p l.length k) ∧ Below w.heap.size w wr) (fun _ i _ => l.length - (intOf i).toNat)
  case atStart => exact ⟨0, Nat.zero_le _, rfl, rfl, Below.refl _ _⟩
  case round =>
    obtain ⟨k, hk, rfl, hz, hbel⟩ := hrel
    by_cases hlt : k < l.length
    · obtain ⟨a1, a2, a3⟩ := HA.out k hlt
      have c1 := old_cell hbel a1 (cell_lt a1)
      have c2 := old_cell hbel a2 (cell_lt a2)
      have c3 := old_cell hbel a3 (cell_lt a3)
      clear a1 a2 a3
      cases hp : p k
      · have hz2 : Hid (firstAt p l.length 0 = firstAt p l.length (k + 1)) := by
          rw [hz.out]; rw [firstAt]; rw [dif_pos hlt, hp]; rfl
        have HP := Lib.hid hp
        clear hp
        go_wp2_with (go_at_call 66; refine (HF.out k _ hlt hbel).mono ?_; rw [HP.out]; rintro e w' ⟨rfl, hb⟩)
        go_roundw
        case rel => exact ⟨k + 1, by omega, by go_num, hz2, hbel.trans (hb.mono hbel.size)⟩
        case measure => simp [intOf]; omega
      · have hz2 : Hid (firstAt p l.length k = k) := by
          show _ = _
          rw [firstAt, dif_pos hlt, hp]; rfl
        have HP := Lib.hid hp
        clear hp
        go_wp2_with (go_at_call 66; refine (HF.out k _ hlt hbel).mono ?_; rw [HP.out]; rintro e w' ⟨rfl, hb⟩)
        go_ret
        exact ⟨ret_int (by rw [hz.out, hz2.out]), hbel.trans (hb.mono hbel.size)⟩
    · have hz2 : Hid (firstAt p l.length k = -1) := by
        show _ = _
        rw [firstAt, dif_neg hlt]
      go_wp2
      go_ret
      exact ⟨ret_int (by rw [hz.out, hz2.out]), hbel⟩

/-- is there an element for which p holds? -/
theorem firstAt_neg (p : Nat → Bool) (n : Nat) : ∀ k, firstAt p n k = -1 ∨ 0 ≤ firstAt p n k := by
  intro k
  induction h : n - k generalizing k with
  | zero => rw [firstAt, dif_neg (by omega)]; exact .inl rfl
  | succ d ih =>
    rw [firstAt, dif_pos (by omega)]
    split
    · right; omega
    · exact ih (k + 1) (by omega)
theorem firstAt_any (p : Nat → Bool) (n : Nat) : ∀ k, (firstAt p n k = -1 ↔ ∀ i, k ≤ i → i < n → p i = false) := by
  intro k
  induction h : n - k generalizing k with
  | zero => rw [firstAt, dif_neg (by omega)]; exact ⟨fun _ i hi hn => by omega, fun _ => rfl⟩
  | succ d ih =>
    rw [firstAt, dif_pos (by omega)]
    split
    · rename_i hp
      constructor
      · intro h2; omega
      · intro h2; have := h2 k (Nat.le_refl _) (by omega); rw [hp] at this; cases this
    · rename_i hp
      rw [ih (k + 1) (by omega)]
      constructor
      · intro h2 i hi hn
        rcases Nat.eq_or_lt_of_le hi with e | e
        · subst e; simpa using hp
        · exact h2 i (by omega) hn
      · intro h2 i hi hn; exact h2 i (by omega) hn

/-- are all cells of an operation ahead of the places? -/
def covered (ids : List IdV) (pl : List PlV) : Bool := ids.all fun d => lessP d.win d.key (pln pl d.lane.toNat).win (pln pl d.lane.toNat).key
def notCov (ids : List IdV) (pl : List PlV) (i : Nat) : Bool := !lessP (idn ids i).win (idn ids i).key (pln pl (idn ids i).lane.toNat).win (pln pl (idn ids i).lane.toNat).key
theorem covered_first (ids : List IdV) (pl : List PlV) : (!decide (0 ≤ firstAt (notCov ids pl) ids.length 0)) = covered ids pl := by
  have h1 := firstAt_neg (notCov ids pl) ids.length 0
  have h2 := firstAt_any (notCov ids pl) ids.length 0
  by_cases h : firstAt (notCov ids pl) ids.length 0 = -1
  · rw [h]
    have h3 := h2.1 h
    symm
    simp only [covered, Int.reduceNeg, Int.reduceLE, decide_false, Bool.not_false]
    rw [List.all_eq_true]
    intro d hd
    obtain ⟨i, hi, rfl⟩ := List.getElem_of_mem hd
    have h4 := h3 i (by omega) hi
    simp only [notCov, Bool.not_eq_false'] at h4
    rw [idn_get hi]; exact h4
  · have h5 : 0 ≤ firstAt (notCov ids pl) ids.length 0 := by omega
    simp only [h5, decide_true, Bool.not_true]
    symm
    have h6 : ¬ ∀ i, 0 ≤ i → i < ids.length → notCov ids pl i = false := fun hn => h (h2.2 hn)
    rw [covered, Bool.eq_false_iff]
    intro hall
    apply h6
    intro i _ hi
    have h7 := List.all_eq_true.1 hall ids[i] (List.getElem_mem hi)
    rw [idn_get hi] at h7
    simp only [notCov, h7, Bool.not_true]

theorem containsid_any (l : List IdV) (b off c : Nat) (bx : Nat) (p : Nat → Bool) (w : World) (hl : l.length ≤ 1000) (hat : IdsAt w b off l)
    (hf : ∀ i w1, i < l.length → Below w.heap.size w w1 → Calls Try.prog 66 #[.agg #[.int .i64 (idn l i).lane, .int .i64 (idn l i).win, .int .i64 (idn l i).key], .pointer (some ⟨bx, 0, none⟩)] w1 fun e w' => e = .returned (.bool (p i)) ∧ Below w1.heap.size w1 w') :
    Calls Try.prog 67 #[.slice (some ⟨b, off, none⟩) l.length c, .func (.func 66) #[] #[.pointer (some ⟨bx, 0, none⟩)]] w
      fun e w' => e = .returned (.bool (decide (0 ≤ firstAt p l.length 0))) ∧ Below w.heap.size w w' := by
  have HF := Lib.hid hf
  have HA := Lib.hid hat
  clear hf hat
  go_enter Try.func67, Try.ntmps67
  go_wp2_with (go_at_call 73; refine (indexid_any l b off c bx p _ hl HA.out HF.out).mono ?_; rintro e w' ⟨rfl, hb⟩)
  go_ret
  exact ⟨rfl, hb⟩
theorem containsid_n (n : Nat) (l : List IdV) (hnl : n = l.length) (b off c : Nat) (bx : Nat) (p : Nat → Bool) (w : World) (hl : l.length ≤ 1000) (hat : IdsAt w b off l)
    (hf : ∀ i w1, i < l.length → Below w.heap.size w w1 → Calls Try.prog 66 #[.agg #[.int .i64 (idn l i).lane, .int .i64 (idn l i).win, .int .i64 (idn l i).key], .pointer (some ⟨bx, 0, none⟩)] w1 fun e w' => e = .returned (.bool (p i)) ∧ Below w1.heap.size w1 w') :
    Calls Try.prog 67 #[.slice (some ⟨b, off, none⟩) n c, .func (.func 66) #[] #[.pointer (some ⟨bx, 0, none⟩)]] w
      fun e w' => e = .returned (.bool (decide (0 ≤ firstAt p n 0))) ∧ Below w.heap.size w w' := by
  subst hnl
  exact containsid_any l b off c bx p w hl hat hf

theorem idVals_at {w : World} {B g cap : Nat} {T : TypeId} {l : List IdV} {n : Nat} (h : w.ownsRow B T 3 (.slice (some ⟨g, 0, none⟩) n cap) n (idVals l)) (hn : n = l.length) : IdsAt w g 0 l := by
  subst hn
  intro i hi
  have e0 : ∀ j, j < 3 → w.cell? ⟨g, i * 3 + j, none⟩ = (idn l i).vals[j]? := by
    intro j hj
    rw [h.cellAt (i * 3 + j) (by omega), idVals, flat_get IdV.vals 3 (fun _ => rfl) l i j hi hj, idn_get hi]
  refine ⟨?_, ?_, ?_⟩
  · have := e0 0 (by omega); rw [Nat.zero_add]; exact this
  · have := e0 1 (by omega); rw [Nat.zero_add]; exact this
  · have := e0 2 (by omega); rw [Nat.zero_add]; exact this

theorem ints_below {w w1 : World} {b off : Nat} {l : List Int} (h : ∀ i, i < l.length → w.cell? ⟨b, off + i, none⟩ = some (.int .i64 (nth l i))) (hb : Below w.heap.size w w1) : ∀ i, i < l.length → w1.cell? ⟨b, off + i, none⟩ = some (.int .i64 (nth l i)) :=
  fun i hi => old_cell hb (h i hi) (cell_lt (h i hi))
theorem below_alloc2 (w : World) (o1 o2 : Obj) : Below w.heap.size w ((w.alloc o1).alloc o2) := (below_alloc w o1).alloc (by simp) o2

def PlAt (w : World) (b off : Nat) (l : List PlV) : Prop :=
  ∀ i, i < l.length → w.cell? ⟨b, off + i * 2, none⟩ = some (.int .i64 (pln l i).win) ∧ w.cell? ⟨b, off + i * 2 + 1, none⟩ = some (.int .i64 (pln l i).key)
theorem PlAt.below {w w1 : World} {b off : Nat} {l : List PlV} (h : PlAt w b off l) (hb : Below w.heap.size w w1) : PlAt w1 b off l :=
  fun i hi => ⟨old_cell hb (h i hi).1 (cell_lt (h i hi).1), old_cell hb (h i hi).2 (cell_lt (h i hi).2)⟩

theorem idn_lane (o : OpV) (sh : Int) (hs : 1 ≤ sh) : ∀ (res : List Int) (i j : Nat), j < res.length → idn (idsFrom o sh i res) j = idOf o sh (i + j) (nth res j) := by
  intro res
  induction res with
  | nil => intro i j h; simp at h
  | cons r res ih =>
    intro i j h
    cases j with
    | zero => rfl
    | succ j =>
      have := ih (i + 1) j (by simpa using h)
      rw [show i + (j + 1) = i + 1 + j from by omega]
      exact this
theorem lane_lt (o : OpV) (sh : Int) (hs : 1 ≤ sh) (res : List Int) (i : Nat) (hi : i < res.length) : 0 ≤ (idn (idsOf o res sh) i).lane ∧ (idn (idsOf o res sh) i).lane.toNat < res.length * sh.toNat := by
  have e : (idn (idsOf o res sh) i).lane = (i : Int) * sh + md o.key sh := by
    unfold idsOf; rw [idn_lane o sh hs res 0 i hi]; simp [idOf]
  have hm := md_bd o.key sh hs
  obtain ⟨s, rfl⟩ : ∃ s : Nat, sh = s := ⟨sh.toNat, by omega⟩
  rw [e]
  have h1 : (0 : Int) ≤ (i : Int) * s := Int.mul_nonneg (by omega) (by omega)
  have h2 : i * s + s ≤ res.length * s := by
    have : (i + 1) * s ≤ res.length * s := Nat.mul_le_mul_right _ hi
    rw [Nat.add_mul] at this; omega
  have h3 : ((i * s : Nat) : Int) = (i : Int) * s := by simp
  refine ⟨by omega, ?_⟩
  simp only [Int.toNat_natCast]
  omega

theorem cov_ask (o : OpV) (res : List Int) (sh : Int) (hs : 1 ≤ sh) (pb po pc bx : Nat) (pl : List PlV) (hlen : pl.length = res.length * sh.toNat) (hpn : pl.length ≤ 1000) (w1 : World)
    (hbox : w1.cell? ⟨bx, 0, none⟩ = some (.slice (some ⟨pb, po, none⟩) pl.length pc)) (hpl : PlAt w1 pb po pl) :
    ∀ i w2, i < (idsOf o res sh).length → Below w1.heap.size w1 w2 → Calls Try.prog 66 #[.agg #[.int .i64 (idn (idsOf o res sh) i).lane, .int .i64 (idn (idsOf o res sh) i).win, .int .i64 (idn (idsOf o res sh) i).key], .pointer (some ⟨bx, 0, none⟩)] w2
      fun e w' => e = .returned (.bool (notCov (idsOf o res sh) pl i)) ∧ Below w2.heap.size w2 w' := by
  intro i w2 hi hb
  rw [idsOf_len] at hi
  obtain ⟨h0, h1⟩ := lane_lt o sh hs res i hi
  unfold notCov
  generalize idn (idsOf o res sh) i = d at h0 h1
  obtain ⟨l, wn, ky⟩ := d
  simp only at h0 h1
  obtain ⟨k, rfl⟩ : ∃ k : Nat, l = k := ⟨l.toNat, by omega⟩
  simp only [Int.toNat_natCast] at h1 ⊢
  rw [← hlen] at h1
  have hp := hpl k h1
  exact covopen_any k wn ky bx pb po pl.length pc (pln pl k) w2 h1 hpn (old_cell hb hbox (cell_lt hbox)) (old_cell hb hp.1 (cell_lt hp.1)) (old_cell hb hp.2 (cell_lt hp.2))

set_option maxRecDepth 100000 in
theorem covered_any (o : OpV) (b off c : Nat) (res : List Int) (sh : Int) (pb po pc : Nat) (pl : List PlV) (w : World) (hn : res.length ≤ 100) (hn1 : 1 ≤ res.length)
    (hres : ∀ i, i < res.length → w.cell? ⟨b, off + i, none⟩ = some (.int .i64 (nth res i))) (hr : ∀ i, i < res.length → 1 ≤ nth res i ∧ nth res i ≤ 9223372036854775807)
    (ho : I64 o.time) (hs : 1 ≤ sh) (hs2 : sh ≤ 10) (hpl : PlAt w pb po pl) (hlen : pl.length = res.length * sh.toNat) :
    Calls Try.prog 58 #[.agg #[.int .i64 o.seq, .int .i64 o.kind, .int .i64 o.time, .int .i64 o.key, .int .i64 o.val], .slice (some ⟨b, off, none⟩) res.length c, .int .i64 sh, .slice (some ⟨pb, po, none⟩) pl.length pc] w
      fun e w' => e = .returned (.bool (covered (idsOf o res sh) pl)) ∧ Below w.heap.size w w' := by
  have HR := Lib.hid hres; clear hres
  have HR2 := Lib.hid hr; clear hr
  have HO := Lib.hid ho; clear ho
  have HPL := Lib.hid hpl; clear hpl
  have HLEN := Lib.hid hlen; clear hlen
  have hpn : pl.length ≤ 1000 := by
    rw [HLEN.out]
    have : res.length * sh.toNat ≤ 100 * 10 := Nat.mul_le_mul hn (by omega)
    omega
  have g1 : decide (0 < res.length) = true := by simp; omega
  go_enter Try.func58, Try.ntmps58
  go_wp2_with (first | (go_at_call 65; refine (ids_any o b off c res sh _ hn (ints_below HR.out (below_alloc2 _ _ _)) HR2.out HO.out hs (by omega)).mono ?_; rintro e w1 ⟨v, rfl, hown, hb1⟩; obtain ⟨g, cap, hv, hg, hgl⟩ := own_some hown hn1; subst hv; have HOWN := Lib.hid hown; have HB1 := Lib.hid hb1; clear hown hb1) | (go_at_call 67; refine (containsid_n res.length (idsOf o res sh) (idsOf_len o res sh).symm g 0 cap (w.heap.size + 1) (notCov (idsOf o res sh) pl) _ (by rw [idsOf_len]; omega) (idVals_at HOWN.out (idsOf_len o res sh).symm) (cov_ask o res sh hs pb po pc _ pl HLEN.out hpn _ (old_cell HB1.out (box_cell2 _ _ _ _ _) (by simp)) ((HPL.out.below (below_alloc2 w _ _)).below HB1.out))).mono ?_; rintro e w2 ⟨rfl, hb2⟩))
  go_ret
  refine ⟨ret_bool ?_, ?_⟩
  · have := covered_first (idsOf o res sh) pl
    rw [idsOf_len] at this
    rw [← this]
  · exact (below_alloc2 w _ _).trans ((HB1.out.mono (by simp; omega)).trans (hb2.mono (by have := HB1.out.size; simp at this; omega)))
end Go.Proofs.Ytomekiidgdkmiaa
