/-
  The document's Covered.
-/
import Derived.Test.YtomekiidgdkmiaaRf
namespace Go.Proofs.Ytomekiidgdkmiaa
open Go.RowKit
set_option linter.unusedVariables false
set_option linter.unusedSimpArgs false

def aheadOf (pl : List PlV) (d : IdV) : Bool := lessP d.win d.key (pln pl d.lane.toNat).win (pln pl d.lane.toNat).key
def cntA (pl : List PlV) (ids : List IdV) (k : Nat) : Nat := ((ids.take k).filter (aheadOf pl)).length
theorem cntA_le (pl : List PlV) (ids : List IdV) (k : Nat) : cntA pl ids k ≤ k := Nat.le_trans (List.length_filter_le _ _) (List.length_take_le _ _)
theorem cntA_snoc (pl : List PlV) (ids : List IdV) (k : Nat) (h : k < ids.length) : cntA pl ids (k + 1) = cntA pl ids k + (if aheadOf pl (idn ids k) = true then 1 else 0) := by
  unfold cntA
  rw [List.take_succ_eq_append_getElem h, idn_get h, List.filter_append, List.length_append]
  cases h2 : aheadOf pl (idn ids k) <;> simp [h2]
theorem cntA_all (pl : List PlV) (ids : List IdV) : (cntA pl ids ids.length = ids.length) ↔ covered ids pl = true := by
  unfold cntA
  rw [List.take_length]
  have e : covered ids pl = ids.all (aheadOf pl) := rfl
  rw [e, List.all_eq_true]
  constructor
  · intro h
    exact List.filter_eq_self.1 (List.filter_sublist.eq_of_length h)
  · intro h
    rw [List.filter_eq_self.2 h]

set_option maxHeartbeats 1000000 in
set_option maxRecDepth 100000 in
theorem rcov_any (o : OpV) (b off c : Nat) (res : List Int) (sh : Int) (pb po pc : Nat) (pl : List PlV) (w : World) (hn : res.length ≤ 100) (hn1 : 1 ≤ res.length)
    (hres : ∀ i, i < res.length → w.cell? ⟨b, off + i, none⟩ = some (.int .i64 (nth res i))) (hr : ∀ i, i < res.length → 1 ≤ nth res i ∧ nth res i ≤ 9223372036854775807)
    (ho : I64 o.time) (hk : I64 o.key) (hs : 1 ≤ sh) (hs2 : sh ≤ 10) (hpl : RowAt w pb po (plVals pl)) (hlen : pl.length = res.length * sh.toNat) :
    Calls Try.prog 63 #[.agg #[.int .i64 o.seq, .int .i64 o.kind, .int .i64 o.time, .int .i64 o.key, .int .i64 o.val], .slice (some ⟨b, off, none⟩) res.length c, .int .i64 sh, .slice (some ⟨pb, po, none⟩) pl.length pc] w
      fun e w' => e = .returned (.bool (covered (idsOf o res sh) pl)) ∧ Below w.heap.size w w' := by
  have HR := Lib.hid hres; clear hres
  have HR2 := Lib.hid hr; clear hr
  have HO := Lib.hid ho; clear ho
  have HKY := Lib.hid hk; clear hk
  have HPL := Lib.hid hpl
  have HPB : Hid (0 < pl.length → pb < w.heap.size) := fun h => by have := (hpl.pl 0 h).1; exact cell_lt this
  have HLEN := Lib.hid hlen; clear hlen hpl
  have hpn : pl.length ≤ 1000 := by
    rw [HLEN.out]
    have : res.length * sh.toNat ≤ 100 * 10 := Nat.mul_le_mul hn (by omega)
    omega
  have HLT : Hid (∀ m, m < res.length → 0 ≤ (idn (idsOf o res sh) m).lane ∧ (idn (idsOf o res sh) m).lane.toNat < pl.length) := by
    intro m hm
    rw [HLEN.out]
    exact lane_lt o sh hs res m hm
  have HIL := Lib.hid (idsOf_len o res sh)
  have HALL := Lib.hid (cntA_all pl (idsOf o res sh))
  have HSN : Hid (∀ k, k < res.length → cntA pl (idsOf o res sh) (k + 1) = cntA pl (idsOf o res sh) k + (if aheadOf pl (idn (idsOf o res sh) k) = true then 1 else 0)) := fun k hk => cntA_snoc pl _ k (by rw [idsOf_len]; exact hk)
  go_enter Try.func63, Try.ntmps63
  go_wp2_with (go_at_call 17; refine (rids_any o b off c res sh _ hn (ints_below HR.out (below_alloc _ _)) HR2.out HO.out HKY.out hs (by omega)).mono ?_; rintro e w1 ⟨v, rfl, hown, hb1⟩; obtain ⟨g, cap, hv, hg, hgl⟩ := own_some hown hn1; subst hv; have HI := Lib.hid (idVals_at hown HIL.out.symm); have HB1 := Lib.hid ((below_alloc w _).trans (hb1.mono (by simp))); clear hown hb1)
  generalize hids : idsOf o res sh = ids at *
  have HIDS := Lib.hid hids
  clear hids
  go_loopw [10, 11] (fun n i wz => ∃ m : Nat, m ≤ res.length ∧ i = .int .i64 m ∧ n = .int .i64 (cntA pl ids m) ∧ Below w1.heap.size w1 wz) (fun _ i _ => res.length - (intOf i).toNat)
  case atStart => exact ⟨0, Nat.zero_le _, rfl, rfl, Below.refl _ _⟩
  case round =>
    rename World => wz
    obtain ⟨m, hm, rfl, rfl, hbz⟩ := hrel
    have hzz := hbz.size
    have hz1 := HB1.out.size
    have HBZ := Lib.hid hbz
    have hcl := cntA_le pl ids m
    by_cases hml : m < res.length
    · obtain ⟨n0, n1, n2⟩ := HI.out m (by rw [HIL.out]; exact hml)
      replace n0 := old_cell hbz n0 (cell_lt n0)
      replace n1 := old_cell hbz n1 (cell_lt n1)
      replace n2 := old_cell hbz n2 (cell_lt n2)
      obtain ⟨l1, l2⟩ := HLT.out m hml
      have HSA := Lib.hid (HSN.out m hml)
      generalize idn ids m = d at *
      obtain ⟨dl, dw, dk⟩ := d
      simp only [Nat.zero_add] at l1 l2 n0 n1 n2
      obtain ⟨lk, rfl⟩ : ∃ lk : Nat, dl = lk := ⟨dl.toNat, by omega⟩
      rw [Int.toNat_natCast] at l2
      have hpb := HPB.out (by omega)
      obtain ⟨q0, q1⟩ := (RowAt.pl (l := pl) HPL.out) lk l2
      have hpc : Below w.heap.size w wz := HB1.out.trans (hbz.mono hz1)
      replace q0 := old_cell hpc q0 hpb
      replace q1 := old_cell hpc q1 hpb
      clear hpc hbz
      have g1 : decide (0 ≤ (lk : Int)) = true := decide_eq_true (by omega)
      have g2 : decide (lk < pl.length) = true := decide_eq_true l2
      cases hl : lessP dw dk (pln pl lk).win (pln pl lk).key
      all_goals
        have HL := Lib.hid hl
        have HAH : Hid (aheadOf pl ⟨(lk : Int), dw, dk⟩ = lessP dw dk (pln pl lk).win (pln pl lk).key) := rfl
        rw [HL.out] at HAH
        rw [HAH.out] at HSA
        clear hl
        go_wp2
        go_region_held3 (fun w' => w'.cell? ⟨g, m * 3, none⟩ = some (.int .i64 lk) ∧ w'.cell? ⟨g, m * 3 + 1, none⟩ = some (.int .i64 dw) ∧ w'.cell? ⟨g, m * 3 + 2, none⟩ = some (.int .i64 dk) ∧ w'.cell? ⟨pb, po + lk * 2, none⟩ = some (.int .i64 (pln pl lk).win) ∧ w'.cell? ⟨pb, po + lk * 2 + 1, none⟩ = some (.int .i64 (pln pl lk).key)) (first | exact ⟨s0, s1, s2, s3, s4⟩ | go_simp) ((go_at_call 18; refine (rless_any _ _ _ _ _).mono ?_; rw [HL.out]; rintro e w' ⟨rfl, hb'⟩; have HBL := Lib.hid (undrew2 hb'); have s0 := old_cell (undrew2 hb') n0 (cell_lt n0); have s1 := old_cell (undrew2 hb') n1 (cell_lt n1); have s2 := old_cell (undrew2 hb') n2 (cell_lt n2); have s3 := old_cell (undrew2 hb') q0 (cell_lt q0); have s4 := old_cell (undrew2 hb') q1 (cell_lt q1); clear hb'))
        go_wp2
        go_roundw
        case rel => exact ⟨m + 1, (by omega), (by go_num), (by rw [HSA.out]; simp), HBZ.out.trans (HBL.out.mono hzz)⟩
        case measure => simp [intOf]; omega
    · have e : m = res.length := by omega
      subst e
      rw [HIL.out] at HALL
      cases hc : covered ids pl
      · have hne : cntA pl ids res.length ≠ res.length := fun e => by have := HALL.out.1 e; rw [hc] at this; cases this
        have g3 : ((cntA pl ids res.length : Int) == (res.length : Int)) = false := by simp; omega
        have HC := Lib.hid hc
        clear hbz hc hne
        go_wp2
        go_ret
        exact ⟨ret_bool (by rw [HIDS.out]; exact HC.out.symm), HB1.out.trans (HBZ.out.mono hz1)⟩
      · have hne : cntA pl ids res.length = res.length := HALL.out.2 hc
        have g3 : ((cntA pl ids res.length : Int) == (res.length : Int)) = true := by simp [hne]
        have g4 : decide (0 < cntA pl ids res.length) = true := decide_eq_true (by omega)
        have g5 : decide ((0 : Int) < (cntA pl ids res.length : Int)) = true := decide_eq_true (by omega)
        have HC := Lib.hid hc
        clear hbz hc hne
        go_wp2
        go_ret
        exact ⟨ret_bool (by rw [HIDS.out]; exact HC.out.symm), HB1.out.trans (HBZ.out.mono hz1)⟩
end Go.Proofs.Ytomekiidgdkmiaa
