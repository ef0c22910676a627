/-
  The document's stream: Cut.
-/
import Derived.Test.YtomekiidgdkmiaaRfCov
import Derived.Test.YtomekiidgdkmiaaRfPut
namespace Go.Proofs.Ytomekiidgdkmiaa
open Go.RowKit
set_option linter.unusedVariables false
set_option linter.unusedSimpArgs false

theorem RfIs.setPl {w : World} {b : Nat} {r : RfV} {vr vo vg : Value} {gp cp n : Nat} (h : RfIs w b r vr vo vg (.slice (some ⟨gp, 0, none⟩) n cp)) (hn : n = r.places.length) (k : Nat) (q : PlV) (hk : k < r.places.length) :
    RfIs ((w.setCell ⟨gp, k * 2, none⟩ (.int .i64 q.win)).setCell ⟨gp, k * 2 + 1, none⟩ (.int .i64 q.key)) b { r with places := r.places.set k q } vr vo vg (.slice (some ⟨gp, 0, none⟩) n cp) := by
  subst hn
  have kk : Keeps (fun i => i = gp) w ((w.setCell ⟨gp, k * 2, none⟩ (.int .i64 q.win)).setCell ⟨gp, k * 2 + 1, none⟩ (.int .i64 q.key)) := ((Keeps.refl _ w).set _ _).set _ _
  have n1 : gp ≠ b := fun e => own_ne h.pla h.blk (by decide) (by rw [← e]; rfl)
  refine ⟨(kk.block b h.lt (fun e => n1 e.symm)).trans h.blk, own_keep h.res (fun g hg => kk.block g (h.res.lt g hg).2 (fun e => own_ne2 h.res h.pla (by decide) g hg (by rw [e]; rfl))),
    own_keep h.ops (fun g hg => kk.block g (h.ops.lt g hg).2 (fun e => own_ne2 h.ops h.pla (by decide) g hg (by rw [e]; rfl))),
    own_keep h.gone (fun g hg => kk.block g (h.gone.lt g hg).2 (fun e => own_ne2 h.gone h.pla (by decide) g hg (by rw [e]; rfl))), ?_⟩
  obtain ⟨h1, h2⟩ := h.pla.stored (k * 2) (.int .i64 q.win)
  obtain ⟨h3, h4⟩ := h1.stored (k * 2 + 1) (.int .i64 q.key)
  have e : ((plVals r.places).set (k * 2) (.int .i64 q.win)).set (k * 2 + 1) (.int .i64 q.key) = plVals (r.places.set k q) := by
    clear h h1 h2 h3 h4 kk n1
    generalize r.places = l at hk
    induction l generalizing k with
    | nil => simp at hk
    | cons p l ih =>
      cases k with
      | zero => rfl
      | succ k =>
        have := ih k (by simpa using hk)
        show (((.int .i64 p.win) :: (.int .i64 p.key) :: plVals l).set ((k + 1) * 2) _).set ((k + 1) * 2 + 1) _ = (.int .i64 p.win) :: (.int .i64 p.key) :: plVals (l.set k q)
        rw [← this, show (k + 1) * 2 = k * 2 + 1 + 1 from by omega]
        rfl
  rw [e] at h3
  simpa using h3
theorem RfIs.setGone {w : World} {b : Nat} {r : RfV} {vr vo vp : Value} {gg cg n : Nat} (h : RfIs w b r vr vo (.slice (some ⟨gg, 0, none⟩) n cg) vp) (hn : n = r.gone.length) (k : Nat) (q : Bool) :
    RfIs (w.setCell ⟨gg, k, none⟩ (.bool q)) b { r with gone := r.gone.set k q } vr vo (.slice (some ⟨gg, 0, none⟩) n cg) vp := by
  subst hn
  have kk : Keeps (fun i => i = gg) w (w.setCell ⟨gg, k, none⟩ (.bool q)) := (Keeps.refl _ w).set _ _
  have n1 : gg ≠ b := fun e => own_ne h.gone h.blk (by decide) (by rw [← e]; rfl)
  refine ⟨(kk.block b h.lt (fun e => n1 e.symm)).trans h.blk, own_keep h.res (fun g hg => kk.block g (h.res.lt g hg).2 (fun e => own_ne2 h.res h.gone (by decide) g hg (by rw [e]; rfl))),
    own_keep h.ops (fun g hg => kk.block g (h.ops.lt g hg).2 (fun e => own_ne2 h.ops h.gone (by decide) g hg (by rw [e]; rfl))), ?_,
    own_keep h.pla (fun g hg => kk.block g (h.pla.lt g hg).2 (fun e => own_ne2 h.pla h.gone (by decide) g hg (by rw [e]; rfl)))⟩
  obtain ⟨h1, h2⟩ := h.gone.stored k (.bool q)
  have e : (boolVals r.gone).set k (.bool q) = boolVals (r.gone.set k q) := by simp [boolVals, List.map_set]
  rw [e] at h1
  simpa using h1

/-- what is gone behind a cut -/
def goneC (cov : OpV → Bool) : List OpV → List Bool → List Bool
  | o :: ops, g :: gone => (g || (decide (o.kind = 1) && cov o)) :: goneC cov ops gone
  | _, gone => gone
theorem goneC_len (cov : OpV → Bool) (ops : List OpV) (gone : List Bool) : (goneC cov ops gone).length = gone.length := by
  induction ops generalizing gone with
  | nil => cases gone <;> rfl
  | cons o ops ih => cases gone with
    | nil => rfl
    | cons g gone => simp [goneC, ih]
theorem heldR_zip (ops : List OpV) (gone : List Bool) (h : gone.length = ops.length) : heldR ops gone = ((ops.zip gone).filter (fun p => decide (p.1.kind = 1) && !p.2)).map (·.1) := by
  unfold heldR heldK
  rw [List.take_of_length_le (by simp; omega)]
theorem goneC_held (cov : OpV → Bool) (ops : List OpV) (gone : List Bool) (h : gone.length = ops.length) : heldR ops (goneC cov ops gone) = (heldR ops gone).filter (fun o => !cov o) := by
  rw [heldR_zip _ _ (by rw [goneC_len, h]), heldR_zip _ _ h]
  induction ops generalizing gone with
  | nil => simp
  | cons o ops ih =>
    cases gone with
    | nil => simp at h
    | cons g gone =>
      have := ih gone (by simpa using h)
      simp only [goneC, List.zip_cons_cons, List.filter_cons]
      by_cases h1 : o.kind = 1
      · cases g <;> cases hc : cov o <;> simp [h1, hc, this]
      · simp [h1, this]
/-- behind k rounds -/
def goneK (cov : OpV → Bool) (ops : List OpV) (gone : List Bool) (k : Nat) : List Bool := (goneC cov ops gone).take k ++ gone.drop k
theorem goneC_at (cov : OpV → Bool) (ops : List OpV) (gone : List Bool) (k : Nat) (h : k < ops.length) (hg : gone.length = ops.length) : bon (goneC cov ops gone) k = (bon gone k || (decide ((opn ops k).kind = 1) && cov (opn ops k))) := by
  induction ops generalizing gone k with
  | nil => simp at h
  | cons o ops ih =>
    cases gone with
    | nil => simp at hg
    | cons g gone =>
      cases k with
      | zero => rfl
      | succ k => exact ih gone k (by simpa using h) (by simpa using hg)
theorem goneK_len (cov : OpV → Bool) (ops : List OpV) (gone : List Bool) (k : Nat) (h : k ≤ gone.length) : (goneK cov ops gone k).length = gone.length := by
  unfold goneK; rw [List.length_append, List.length_take, List.length_drop, goneC_len]; omega
theorem goneK_at (cov : OpV → Bool) (ops : List OpV) (gone : List Bool) (k : Nat) (h : k < gone.length) : bon (goneK cov ops gone k) k = bon gone k := by
  unfold goneK bon
  rw [List.getD_eq_getElem?_getD, List.getElem?_append_right (by rw [List.length_take, goneC_len]; omega), List.length_take, goneC_len, Nat.min_eq_left (by omega), Nat.sub_self, List.getElem?_drop, Nat.add_zero, List.getD_eq_getElem?_getD]
theorem goneK_same (cov : OpV → Bool) (ops : List OpV) (gone : List Bool) (k : Nat) (h : k < ops.length) (hg : gone.length = ops.length) (hs : bon (goneC cov ops gone) k = bon gone k) : goneK cov ops gone (k + 1) = goneK cov ops gone k := by
  unfold goneK
  rw [List.take_succ_eq_append_getElem (by rw [goneC_len]; omega), bon_get, hs, List.append_assoc]
  congr 1
  rw [List.drop_eq_getElem_cons (show k < gone.length by omega), bon_get]
  rfl
theorem goneK_set (cov : OpV → Bool) (ops : List OpV) (gone : List Bool) (k : Nat) (h : k < ops.length) (hg : gone.length = ops.length) (hs : bon (goneC cov ops gone) k = true) : goneK cov ops gone (k + 1) = (goneK cov ops gone k).set k true := by
  unfold goneK
  have hl : ((goneC cov ops gone).take k).length = k := by rw [List.length_take, goneC_len]; omega
  rw [List.take_succ_eq_append_getElem (by rw [goneC_len]; omega), bon_get, hs, List.append_assoc, List.set_append_right _ _ (by omega), hl, Nat.sub_self]
  congr 1
  rw [List.drop_eq_getElem_cons (show k < gone.length by omega)]
  rfl
theorem goneK_zero (cov : OpV → Bool) (ops : List OpV) (gone : List Bool) : goneK cov ops gone 0 = gone := by simp [goneK]
theorem goneK_end (cov : OpV → Bool) (ops : List OpV) (gone : List Bool) (h : gone.length = ops.length) : goneK cov ops gone ops.length = goneC cov ops gone := by
  unfold goneK
  rw [List.take_of_length_le (by rw [goneC_len]; omega), List.drop_eq_nil_of_le (by omega), List.append_nil]
/-- how many of the first k are dropped -/
def cntG (cov : OpV → Bool) (ops : List OpV) (gone : List Bool) (k : Nat) : Nat := ((heldK ops gone k).filter cov).length
theorem cntG_snoc (cov : OpV → Bool) (ops : List OpV) (gone : List Bool) (k : Nat) (h : k < ops.length) (hg : gone.length = ops.length) :
    cntG cov ops gone (k + 1) = cntG cov ops gone k + (if ((opn ops k).kind = 1 ∧ bon gone k = false) ∧ cov (opn ops k) = true then 1 else 0) := by
  unfold cntG
  rw [heldK_snoc ops gone k h hg, List.filter_append, List.length_append]
  by_cases h1 : (opn ops k).kind = 1 ∧ bon gone k = false
  · cases h2 : cov (opn ops k) <;> simp [h1, h2]
  · simp [h1]
theorem cntG_le (cov : OpV → Bool) (ops : List OpV) (gone : List Bool) (k : Nat) : cntG cov ops gone k ≤ k := Nat.le_trans (List.length_filter_le _ _) (heldK_le ops gone k)
theorem cntG_end (cov : OpV → Bool) (ops : List OpV) (gone : List Bool) (h : gone.length = ops.length) : (cntG cov ops gone ops.length : Int) = ((heldR ops gone).length : Int) - (heldR ops (goneC cov ops gone)).length := by
  rw [goneC_held cov ops gone h]
  unfold cntG
  have e : heldK ops gone ops.length = heldR ops gone := rfl
  rw [e]
  have : ∀ l : List OpV, (l.filter cov).length + (l.filter (fun o => !cov o)).length = l.length := by
    intro l
    induction l with
    | nil => rfl
    | cons o l ih => cases hc : cov o <;> simp [List.filter_cons, hc] at ih ⊢ <;> omega
  have := this (heldR ops gone)
  omega
end Go.Proofs.Ytomekiidgdkmiaa
