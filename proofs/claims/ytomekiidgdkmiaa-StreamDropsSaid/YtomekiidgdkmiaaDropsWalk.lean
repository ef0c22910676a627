/-
  StreamDrops' walk.
-/
import Derived.Test.YtomekiidgdkmiaaCase14
import Derived.Test.YtomekiidgdkmiaaRef03
namespace Go.Proofs.Ytomekiidgdkmiaa
open Go.RowKit
set_option linter.unusedVariables false
set_option linter.unusedSimpArgs false

structure DropSt (s : StV) (x : CaseV) : Prop where
  hold : s.hold = x.hold
  res : s.res = x.res
  sh : s.shards = x.shards
  len : (s.samples.length : Int) ≤ x.hold
  mark : s.mark = OpV.zero
  pl : s.places = List.replicate (x.res.length * x.shards.toNat) leastP
  key : ∀ o ∈ s.samples, I64 o.key
theorem DropSt.early {s : StV} {x : CaseV} (h : DropSt s x) (t : Int) : s.early t = false := by
  unfold StV.early; rw [h.mark]; rfl
theorem DropSt.sampled {s : StV} {x : CaseV} (h : DropSt s x) (o : OpV) (hl : ¬ s.hold ≤ s.samples.length) (hk : I64 o.key) : DropSt (sampled s o) x :=
  ⟨h.hold, h.res, h.sh, by show ((s.samples ++ [o]).length : Int) ≤ _; rw [List.length_append]; have := h.hold; simp; omega, h.mark, h.pl, by
    intro y hy
    rcases List.mem_append.1 hy with hy | hy
    · exact h.key y hy
    · rw [List.mem_singleton.1 hy]; exact hk⟩

theorem raise_least (qs : List PlV) (hq : ∀ q ∈ qs, PlV.ok q) : raiseP (List.replicate qs.length leastP) qs = qs := by
  induction qs with
  | nil => rfl
  | cons q qs ih =>
    have h1 := hq q (by simp)
    have h2 := ih (fun y hy => hq y (by simp [hy]))
    simp only [List.length_cons, List.replicate_succ, raiseP, h2]
    congr 1
    unfold maxP
    split
    · rfl
    · rename_i h
      obtain ⟨⟨a1, a2⟩, b1, b2⟩ := h1
      have h3 : ¬ (lessP leastP.win leastP.key q.win q.key = true) := by simpa [PlV.less] using h
      rw [lessP_iff] at h3
      have e1 : leastP.win = -9223372036854775808 := rfl
      have e2 : leastP.key = -9223372036854775808 := rfl
      obtain ⟨qw, qk⟩ := q
      simp only at a1 a2 b1 b2 h3
      have : qw = -9223372036854775808 := by omega
      have : qk = -9223372036854775808 := by omega
      subst_vars; rfl
/-- is a name's place ahead of the cut? -/
def aheadB (cut : List PlV) (d : IdV) : Bool := lessP d.win d.key (pln cut d.lane.toNat).win (pln cut d.lane.toNat).key
theorem covered_all (ids : List IdV) (cut : List PlV) : covered ids cut = ids.all (aheadB cut) := rfl
theorem take_succ_id (l : List IdV) (k : Nat) (h : k < l.length) : l.take (k + 1) = l.take k ++ [idn l k] := by
  rw [List.take_succ_eq_append_getElem h, idn_get h]
theorem all_snoc (ids : List IdV) (cut : List PlV) (k : Nat) (h : k < ids.length) : (ids.take (k + 1)).all (aheadB cut) = ((ids.take k).all (aheadB cut) && aheadB cut (idn ids k)) := by
  rw [take_succ_id ids k h, List.all_append]; simp
/-- what a cut leaves of the first k -/
def leftOf (x : CaseV) (cut : List PlV) (l : List OpV) : List OpV := l.filter (fun o => !covered (idsOf o x.res x.shards) cut)
theorem left_snoc (x : CaseV) (cut : List PlV) (l : List OpV) (k : Nat) (h : k < l.length) :
    leftOf x cut (l.take (k + 1)) = leftOf x cut (l.take k) ++ (if covered (idsOf (opn l k) x.res x.shards) cut = true then [] else [opn l k]) := by
  unfold leftOf
  rw [List.take_succ_eq_append_getElem h, opn_get h, List.filter_append]
  congr 1
  cases hc : covered (idsOf (opn l k) x.res x.shards) cut <;> simp [hc]
theorem DropSt.cut {s : StV} {x : CaseV} (h : DropSt s x) (cut : List PlV) (hn : cut.length = x.res.length * x.shards.toNat) (hq : ∀ q ∈ cut, PlV.ok q) : (cutSt s cut).samples = leftOf x cut s.samples := by
  unfold cutSt leftOf
  rw [h.pl, ← hn, raise_least cut hq, h.res, h.sh]

theorem ids_case {w w' : World} {x : CaseV} (y : OpV) (h : x.okIn w) (hok : newOk x.res x.shards x.hold) (hb : Below w.heap.size w w') (ht : I64 y.time) (hk : I64 y.key) :
    Calls Try.prog 17 #[.agg #[.int .i64 y.seq, .int .i64 y.kind, .int .i64 y.time, .int .i64 y.key, .int .i64 y.val], .slice x.rA x.rn x.rc, .int .i64 x.shards] w'
      (SomeV fun v w2 => (∃ g c, v = .slice (some ⟨g, 0, none⟩) x.rn c ∧ g < w2.heap.size ∧ IdsAt w2 g 0 (idsOf y x.res x.shards)) ∧ Below w'.heap.size w' w2) := by
  obtain ⟨h1, h2, h3, h4, h5, _⟩ := hok
  have hr := h.res.row h1
  rw [flat_int] at hr
  obtain ⟨b, off, hA, hbl, hrow⟩ := sl_row hr h1
  have hle := minL_le x.res
  rw [← h.res.len, hA]
  refine (rids_any y b off x.rc x.res x.shards w' (by omega) (fun i hi => old_cell hb (hrow.int i hi) hbl) (fun i hi => ⟨by have := hle _ (nth_mem hi); omega, (h.res.ok _ (nth_mem hi)).2⟩) ht hk h4 (by omega)).mono ?_
  rintro e w2 ⟨v, rfl, hv, hb2⟩
  obtain ⟨g, c, rfl, _, hg⟩ := own_some hv h1
  exact ⟨_, rfl, ⟨g, c, rfl, hg, idVals_at hv (idsOf_len _ _ _).symm⟩, hb2⟩
theorem hbq9 {w7 wq w9 : World} {o : Obj} (h : Below w7.heap.size w7 wq) (hz : w7.heap.size ≤ wq.heap.size) (hb : Below (wq.alloc o).heap.size (wq.alloc o) w9) : Below w7.heap.size w7 w9 ∧ Below wq.heap.size wq w9 ∧ w9.heap[wq.heap.size]? = some o ∧ wq.heap.size < w9.heap.size :=
  ⟨(h.alloc hz o).trans (hb.mono (by simp; omega)), (below_alloc wq o).trans (hb.mono (by simp)), (hb.block _ (by simp)).trans (heap_alloc_new wq o), by have := hb.size; simp at this; omega⟩

set_option maxHeartbeats 40000000 in
set_option maxRecDepth 100000 in
theorem drops_any (x : CaseV) (cut : List PlV) (cA : Option Addr) (cn cc : Nat) (w : World) (h : x.okIn w) (hn : x.sn ≤ 1000000000000000000) (hc : Opened w PlV.vals PlV.ok cut cA cn cc) :
    Calls Try.prog 3 #[.agg #[.slice x.rA x.rn x.rc, .int .i64 x.shards, .int .i64 x.hold, .slice x.sA x.sn x.sc], .slice cA cn cc] w fun e w' => e = .returned (.bool true) ∧ Below w.heap.size w w' := by
  have HX := Lib.hid h
  have HC := Lib.hid hc
  have HBOX := Lib.hid (case_box w x 25)
  have hcm := hc.max
  unfold maxLen at hcm
  clear h hc
  by_cases hok : newOk x.res x.shards x.hold
  · have HOK := Lib.hid hok
    clear hok
    go_enter Try.func3, Try.ntmps3
    go_wp2_with (first
      | (go_at_call 9; refine (alive_any _).mono ?_; rintro e w1 ⟨rfl, hb1⟩; have HB1 := Lib.hid ((below_alloc w _).trans (hb1.mono (by simp))); replace HBOX := Lib.hid (HBOX.out.below hb1); have b0 : w1.cell? ⟨w.heap.size, 0, none⟩ = some (.slice x.rA x.rn x.rc) := HBOX.out 0 _ rfl; have b1 : w1.cell? ⟨w.heap.size, 1, none⟩ = some (.int .i64 x.shards) := HBOX.out 1 _ rfl; have b2 : w1.cell? ⟨w.heap.size, 2, none⟩ = some (.int .i64 x.hold) := HBOX.out 2 _ rfl; have b3 : w1.cell? ⟨w.heap.size, 3, none⟩ = some (.slice x.sA x.sn x.sc) := HBOX.out 3 _ rfl; clear hb1)
      | (go_at_call 10; refine (long_any' HX.out HB1.out).mono ?_; rintro e w2 ⟨q, rfl, hb2⟩; have hz := HB1.out.size; have HB2 := Lib.hid (HB1.out.trans (hb2.mono hz)); have HBOX2 := Lib.hid (HBOX.out.below hb2); clear b0 b1 b2 b3 HBOX hb2 HB1 hz; have b0 : w2.cell? ⟨w.heap.size, 0, none⟩ = some (.slice x.rA x.rn x.rc) := HBOX2.out 0 _ rfl; have b1 : w2.cell? ⟨w.heap.size, 1, none⟩ = some (.int .i64 x.shards) := HBOX2.out 1 _ rfl; have b2 : w2.cell? ⟨w.heap.size, 2, none⟩ = some (.int .i64 x.hold) := HBOX2.out 2 _ rfl; have b3 : w2.cell? ⟨w.heap.size, 3, none⟩ = some (.slice x.sA x.sn x.sc) := HBOX2.out 3 _ rfl)
      | (go_at_call 11; refine (new_case HX.out.res HB2.out HOK.out).mono ?_; rintro e w3 ⟨a, rfl, hs3, hb3⟩; have hz := HB2.out.size; have hz1 := cell_lt b0; have HB3 := Lib.hid (HB2.out.trans (hb3.mono hz)); have HBOX3 := Lib.hid (HBOX2.out.below hb3); clear b0 b1 b2 b3 HBOX2 hb3 HB2; have b3 : w3.cell? ⟨w.heap.size, 3, none⟩ = some (.slice x.sA x.sn x.sc) := HBOX3.out 3 _ rfl))
    · go_ret
      exact ⟨rfl, HB2.out⟩
    · go_ret
      exact ⟨rfl, HB2.out⟩
    go_loopw [44] (fun i wr => ∃ (k : Nat) (s : StV), k ≤ x.sn ∧ i = .int .i64 k ∧ SB w2.heap.size wr a s ∧ DropSt s x ∧ s.next ≤ 1 + k ∧ Below w2.heap.size w3 wr) (fun i _ => x.sn - (intOf i).toNat)
    case atStart => exact ⟨0, newSt x.res x.shards x.hold (x.res.length * x.shards.toNat), Nat.zero_le _, rfl, hs3, ⟨rfl, rfl, rfl, (by show (0 : Int) ≤ x.hold; have := HOK.out.2.2.2.2.2.1; omega), rfl, rfl, fun o ho => (by cases ho)⟩, (by show (1 : Int) ≤ _; omega), Below.refl _ _⟩
    case round =>
      obtain ⟨k, s, hk, rfl, hs, hf, hnx, hbel⟩ := hrel
      have hzw : w2.heap.size < wr.heap.size := by have := hs.lt; omega
      have HS := Lib.hid hs
      have HF := Lib.hid hf
      have HNX := Lib.hid hnx
      have HBEL := Lib.hid hbel
      have bn1 : 1 ≤ s.next := hs.ok.n1
      have hsl : (s.samples.length : Int) ≤ 64 := by have := hf.len; have := HOK.out.2.2.2.2.2.2; omega
      clear hs hf hnx
      by_cases hlt : k < x.sn
      · obtain ⟨b, off, hA, c0, c1, c2, c3, c4, c5, c6, c7, c8, c9⟩ := sc_cells HX.out.script (HB3.out.trans (hbel.mono (by omega))) k hlt
        have HSC := Lib.hid (HX.out.script.ok _ (scn_mem (show k < x.script.length by have := HX.out.script.len; omega)))
        generalize scn x.script k = o at *
        have HA := Lib.hid hA
        clear hbel hA
        rw [HA.out]
        by_cases k0 : o.kind = 0
        · have g0 : (o.kind == 0) = true := by simp [k0]
          clear k0
          by_cases hfull : s.hold ≤ (s.samples.length : Int)
          · have HFULL := Lib.hid hfull
            clear hfull
            go_wp2_with (first
              | (go_at_call 12; refine (sample_full_b o.time o.key o.val (HS.out.below (below_alloc _ _)) (HF.out.early _) HFULL.out).mono ?_; rintro e w5 ⟨rfl, hb5⟩; have HB5 := Lib.hid hb5; clear hb5))
            go_roundw
            case rel => exact ⟨k + 1, s, (by omega), (by go_num), ((HS.out.below (below_alloc _ _)).below HB5.out).below (below_alloc _ _), HF.out, (by have := HNX.out; omega), ((HBEL.out.alloc (by omega) _).trans (HB5.out.mono (by simp; omega))).alloc (by have := HB5.out.size; simp at this; omega) _⟩
            case measure => simp [intOf]; omega
          · have HFULL := Lib.hid hfull
            clear hfull
            go_wp2_with (first
              | (go_at_call 12; refine (sample_ok_b o.time o.key o.val (HS.out.below (below_alloc _ _)) (HF.out.early _) (by have := HFULL.out; omega)).mono ?_; rintro e w5 ⟨rfl, hb5⟩; have HB5 := Lib.hid hb5; clear hb5)
              | (go_at_call 13; refine (put_sample_b s.next o.time o.key o.val (((HS.out.below (below_alloc _ _)).below HB5.out).below (below_alloc _ _)) rfl (HF.out.early _) HSC.out.time (by have := HNX.out; omega) (by omega)).mono ?_; rintro e w6 ⟨rfl, hs6, hb6⟩; have HS6 := Lib.hid hs6; have HB6 := Lib.hid hb6; clear hs6 hb6))
            go_roundw
            case rel => exact ⟨k + 1, _, (by omega), (by go_num), HS6.out, HF.out.sampled _ (by have := HFULL.out; omega) HSC.out.key, (by show s.next + 1 ≤ _; have := HNX.out; omega), (((HBEL.out.alloc (by omega) _).trans (HB5.out.mono (by simp; omega))).alloc (by have := HB5.out.size; simp at this; omega) _).trans HB6.out⟩
            case measure => simp [intOf]; omega
        · have g0 : (o.kind == 0) = false := by simp [k0]
          clear k0
          go_wp2
          go_roundw
          case rel => exact ⟨k + 1, s, (by omega), (by go_num), HS.out.below (below_alloc _ _), HF.out, (by have := HNX.out; omega), HBEL.out.alloc (by omega) _⟩
          case measure => simp [intOf]; omega
      · have hx0 : x.rn ≤ 3 := by have := HOK.out.2.1; have := HX.out.res.len; omega
        have hx1 : 1 ≤ x.shards := HOK.out.2.2.2.1
        have hx2 : x.shards ≤ 4 := HOK.out.2.2.2.2.1
        have hx3 : (0 : Int) ≤ (x.rn : Int) * x.shards := Int.mul_nonneg (by omega) (by omega)
        have hx4 : (x.rn : Int) * x.shards ≤ 12 := Int.le_trans (Int.mul_le_mul (show (x.rn : Int) ≤ 3 by omega) hx2 (by omega) (by omega)) (by omega)
        obtain ⟨sn, hsn⟩ : ∃ sn : Nat, x.shards = sn := ⟨x.shards.toNat, by omega⟩
        have hx5 : ((x.rn * x.shards.toNat : Nat) : Int) = (x.rn : Int) * x.shards := by rw [hsn]; simp
        have hx6 : s.res.length * s.shards.toNat = x.rn * x.shards.toNat := by rw [HF.out.res, HF.out.sh, HX.out.res.len]
        clear hbel hsn
        by_cases hcn : cn = x.rn * x.shards.toNat
        · have g3 : ((cut.length : Int) != (x.rn : Int) * x.shards) = false := by rw [HC.out.len]; simp; omega
          have hcl : cut.length = x.res.length * x.shards.toNat := by rw [HC.out.len, hcn, HX.out.res.len]
          have HCS := Lib.hid (HF.out.cut cut hcl HC.out.ok)
          have HCL := Lib.hid hcl
          have hx7 : 1 * 1 ≤ x.rn * x.shards.toNat := Nat.mul_le_mul (by have := HOK.out.1; have := HX.out.res.len; omega) (by omega)
          obtain ⟨pb, po, hpA, hpb, hprow⟩ := sl_row (HC.out.row (by have := HC.out.len; omega)) (by have := HC.out.len; omega)
          have HPR := Lib.hid hprow
          have HCN : Hid (cut.length = s.res.length * s.shards.toNat) := by rw [hx6, ← hcn]; exact HC.out.len
          have HLN := Lib.hid HC.out.len
          subst hpA
          clear hx5 hx6 hcn hcl hprow
          have TOK1 := True.intro
          go_wp2_with (first
            | (go_at_call 14; clear TOK1; refine (held_b HS.out).mono ?_; rintro e w5 ⟨v, rfl, hv, hb5⟩; obtain ⟨A5, c5, rfl⟩ := own_slice hv; have HB5 := Lib.hid hb5; have HV5 := Lib.hid hv; clear hv hb5)
            | (go_at_call 15; rw [← HLN.out]; refine (cut_ok_f (F := fun i => w2.heap.size ≤ i ∧ i < wr.heap.size) cut pb po cc (HS.out.to HB5.out (fun i h1 h2 => ⟨h2, h1⟩)) (Below.refl _ _) HCN.out (fun j u hj => old_cell (HB3.out.trans ((HBEL.out.trans (HB5.out.mono (by omega))).mono (by omega))) (HPR.out j u hj) hpb) (.inr (fun h => by have := h.1; omega))).mono ?_; rintro e w6 ⟨rfl, hs6, hk6⟩; have HS6 := Lib.hid hs6; have HV6 := Lib.hid (own_keep HV5.out (fun g hg => hk6.block g (HV5.out.lt g hg).2 (fun h => by have := (HV5.out.lt g hg).1; omega))); have HK6 := Lib.hid (hk6.below (B := w2.heap.size) (by have := HB5.out.size; omega) (fun i h => h.1)); clear HV5 hs6 hk6)
            | (go_at_call 14; refine (held_b (HS6.out.up (fun i h => h.1) : SB w2.heap.size w6 a (cutSt s cut))).mono ?_; rintro e w7 ⟨v, rfl, hv, hb7⟩; have hq7 := Lib.hid (((HBEL.out.trans (HB5.out.mono (by omega))).trans HK6.out).trans (hb7.mono (by have := HK6.out.size; have := HB5.out.size; omega))); rw [HCS.out] at hv; obtain ⟨A7, c7, rfl⟩ := own_slice hv; have HB7 := Lib.hid hb7; have HV7 := Lib.hid (own_sl hv); have HVV := Lib.hid (own_sl HV6.out |>.below hb7); have d0 : w7.cell? ⟨w.heap.size, 0, none⟩ = some (.slice x.rA x.rn x.rc) := old_cell hq7.out (HBOX3.out 0 _ rfl) (by show w.heap.size < _; omega); have d1 : w7.cell? ⟨w.heap.size, 1, none⟩ = some (.int .i64 x.shards) := old_cell hq7.out (HBOX3.out 1 _ rfl) (by show w.heap.size < _; omega); clear hv hb7))
          have hl7 : (leftOf x cut s.samples).length ≤ s.samples.length := List.length_filter_le _ _
          have HO7 : Hid ((w7.alloc (.cells #[] 34)).ownsRow w7.heap.size 34 5 (.slice (some ⟨w7.heap.size, 0, none⟩) 0 0) 0 []) := World.ownsRow_made w7 #[] 0 (Nat.le_refl _) (by decide) rfl
          have hz7 : w.heap.size < w7.heap.size := by have := HB7.out.size; have := HK6.out.size; have := HB5.out.size; omega
          obtain ⟨i0, hi0, hz0, hz9o, hz8⟩ := info_parts infoOp
          go_loopw [14, 102] (fun v i wq => ∃ j : Nat, j ≤ s.samples.length ∧ i = .int .i64 j ∧ wq.ownsRow w7.heap.size 34 5 v (leftOf x cut (s.samples.take j)).length (opVals (leftOf x cut (s.samples.take j))) ∧ Below w7.heap.size w7 wq) (fun _ i _ => s.samples.length - (intOf i).toNat)
          case atStart => exact ⟨0, Nat.zero_le _, rfl, HO7.out, below_alloc _ _⟩
          case round =>
            rename World => wq
            obtain ⟨j, hj, rfl, hown, hbq⟩ := hrel
            have hll : (leftOf x cut (s.samples.take j)).length ≤ j := Nat.le_trans (List.length_filter_le _ _) (List.length_take_le _ _)
            have hzq := hbq.size
            have HOWN := Lib.hid hown
            have HBQ := Lib.hid hbq
            by_cases hjl : j < s.samples.length
            · obtain ⟨g5, o5, rfl, hg5, hr5⟩ := sl_row HVV.out (by omega)
              obtain ⟨p0, p1, p2, p3, p4⟩ := (hr5.below hbq).op j hjl
              have e0 : ∀ ob, (wq.alloc ob).cell? ⟨w.heap.size, 0, none⟩ = some (.slice x.rA x.rn x.rc) := fun ob => alloc_old (o := ob) (old_cell hbq d0 hz7)
              have e1 : ∀ ob, (wq.alloc ob).cell? ⟨w.heap.size, 1, none⟩ = some (.int .i64 x.shards) := fun ob => alloc_old (o := ob) (old_cell hbq d1 hz7)
              have HSN := Lib.hid (left_snoc x cut s.samples j hjl)
              have hm := HS.out.ok.st (opn s.samples j) (by rw [← opn_get hjl]; exact List.getElem_mem hjl)
              have hm2 := HF.out.key (opn s.samples j) (by rw [← opn_get hjl]; exact List.getElem_mem hjl)
              have HT := Lib.hid hm
              have HK := Lib.hid hm2
              generalize opn s.samples j = y at *
              clear hown hbq hr5 hm hm2
              go_wp2_with (go_at_call 17; refine (ids_case y HX.out HOK.out (((HB3.out.trans (hq7.out.mono (by omega))).trans (HBQ.out.mono (by omega))).alloc (by omega) _) HT.out HK.out).mono ?_; rintro e w9 ⟨v, rfl, hv, hb9⟩; obtain ⟨g9, c9, rfl, hg9⟩ := hv; have HI := Lib.hid hg9; have HB9 := Lib.hid (hbq9 HBQ.out hzq hb9); clear hg9 hb9)
              have hz9 := HB9.out.2.1.size
              have HIL := Lib.hid (idsOf_len y x.res x.shards)
              have HLN2 := Lib.hid HX.out.res.len
              have HLT : Hid (∀ m, m < x.rn → 0 ≤ (idn (idsOf y x.res x.shards) m).lane ∧ (idn (idsOf y x.res x.shards) m).lane.toNat < cut.length) := by
                intro m hm
                rw [HCL.out]
                exact lane_lt y x.shards hx1 x.res m (by rw [HX.out.res.len]; exact hm)
              have HCR : Hid (covered (idsOf y x.res x.shards) cut = (idsOf y x.res x.shards).all (aheadB cut)) := rfl
              generalize idsOf y x.res x.shards = ids at *
              go_loopw [17, 113] (fun ah i wz => ∃ m : Nat, m ≤ x.rn ∧ i = .int .i64 m ∧ ah = .bool ((ids.take m).all (aheadB cut)) ∧ Below w9.heap.size w9 wz) (fun _ i _ => x.rn - (intOf i).toNat)
              case atStart => exact ⟨0, Nat.zero_le _, rfl, rfl, Below.refl _ _⟩
              case round =>
                rename World => wz
                obtain ⟨m, hm, rfl, rfl, hbz⟩ := hrel
                have hzz := hbz.size
                have HBZ := Lib.hid hbz
                by_cases hml : m < x.rn
                · obtain ⟨n0, n1, n2⟩ := HI.out.2 m (by rw [HIL.out, HLN2.out]; exact hml)
                  replace n0 := old_cell hbz n0 (cell_lt n0)
                  replace n1 := old_cell hbz n1 (cell_lt n1)
                  replace n2 := old_cell hbz n2 (cell_lt n2)
                  obtain ⟨l1, l2⟩ := HLT.out m hml
                  have HSA := Lib.hid (all_snoc ids cut m (by rw [HIL.out, HLN2.out]; exact hml))
                  generalize idn ids m = d at *
                  obtain ⟨dl, dw, dk⟩ := d
                  simp only [Nat.zero_add] at l1 l2 n0 n1 n2
                  obtain ⟨lk, rfl⟩ : ∃ lk : Nat, dl = lk := ⟨dl.toNat, by omega⟩
                  rw [Int.toNat_natCast] at l2
                  clear hbz
                  cases hall : (ids.take m).all (aheadB cut)
                  · rw [hall] at HSA
                    clear hall
                    go_wp2
                    go_quiet (fail)
                    go_wp2
                    go_roundw
                    case rel => exact ⟨m + 1, (by omega), (by go_num), by rw [HSA.out]; rfl, below_drewN (HBZ.out.alloc hzz _) _⟩
                    case measure => simp [intOf]; omega
                  · rw [hall] at HSA
                    clear hall
                    obtain ⟨q0, q1⟩ := (RowAt.pl (l := cut) HPR.out) lk l2
                    have hpc : Below w.heap.size w wz := ((HB3.out.trans (hq7.out.mono (by omega))).trans (HB9.out.1.mono (by omega))).trans (HBZ.out.mono (by have := HB9.out.2.1.size; omega))
                    replace q0 := old_cell hpc q0 hpb
                    replace q1 := old_cell hpc q1 hpb
                    clear hpc
                    have r0 : ∀ ob, (wz.alloc ob).cell? ⟨pb, po + lk * 2, none⟩ = some (.int .i64 (pln cut lk).win) := fun ob => alloc_old (o := ob) q0
                    have r1 : ∀ ob, (wz.alloc ob).cell? ⟨pb, po + lk * 2 + 1, none⟩ = some (.int .i64 (pln cut lk).key) := fun ob => alloc_old (o := ob) q1
                    go_wp2
                    go_region_held3 (fun w' => w'.cell? ⟨wz.heap.size, 0, none⟩ = some (.int .i64 lk) ∧ w'.cell? ⟨wz.heap.size, 1, none⟩ = some (.int .i64 dw) ∧ w'.cell? ⟨wz.heap.size, 2, none⟩ = some (.int .i64 dk) ∧ w'.cell? ⟨pb, po + lk * 2, none⟩ = some (.int .i64 (pln cut lk).win) ∧ w'.cell? ⟨pb, po + lk * 2 + 1, none⟩ = some (.int .i64 (pln cut lk).key)) (first | exact ⟨s0, s1, s2, s3, s4⟩ | go_simp) ((go_at_call 18; refine (rless_any _ _ _ _ _).mono ?_; rintro e w' ⟨rfl, hb'⟩; have HBL := Lib.hid (undrew2 hb'); have s0 : w'.cell? ⟨wz.heap.size, 0, none⟩ = some (.int .i64 lk) := old_cell (undrew2 hb') (box_cell wz _ _ _ 0 _ rfl) (by simp); have s1 : w'.cell? ⟨wz.heap.size, 1, none⟩ = some (.int .i64 dw) := old_cell (undrew2 hb') (box_cell wz _ _ _ 1 _ rfl) (by simp); have s2 : w'.cell? ⟨wz.heap.size, 2, none⟩ = some (.int .i64 dk) := old_cell (undrew2 hb') (box_cell wz _ _ _ 2 _ rfl) (by simp); have s3 := old_cell (undrew2 hb') (r0 _) (by simp; omega); have s4 := old_cell (undrew2 hb') (r1 _) (by simp; omega); clear hb'))
                    go_wp2
                    go_roundw
                    case rel => exact ⟨m + 1, (by omega), (by go_num), by rw [HSA.out]; rfl, (HBZ.out.alloc hzz _).trans (HBL.out.mono (by simp; omega))⟩
                    case measure => simp [intOf]; omega
                · have hcv : (ids.take m).all (aheadB cut) = covered ids cut := by rw [List.take_of_length_le (by rw [HIL.out, HLN2.out]; omega)]; exact HCR.out.symm
                  rw [hcv]
                  clear hcv hbz
                  have h7 : Hid (Below w7.heap.size w7 wz) := HB9.out.1.trans (HBZ.out.mono (by omega))
                  have B0 : Hid (wz.heap[wq.heap.size]? = some (.cells #[.int .i64 y.seq, .int .i64 y.kind, .int .i64 y.time, .int .i64 y.key, .int .i64 y.val] 34 (0, 0))) := (HBZ.out.block _ HB9.out.2.2.2).trans HB9.out.2.2.1
                  have hqz : Below wq.heap.size wq wz := HB9.out.2.1.trans (HBZ.out.mono hz9)
                  have HOW2 := Lib.hid (own_keep HOWN.out (fun g hg => hqz.block g (HOWN.out.lt g hg).2))
                  clear hqz
                  cases hcov : covered ids cut
                  · rw [hcov] at HSN
                    clear hcov
                    have y0 := blk_cell B0.out 0 _ rfl
                    have y1 := blk_cell B0.out 1 _ rfl
                    have y2 := blk_cell B0.out 2 _ rfl
                    have y3 := blk_cell B0.out 3 _ rfl
                    have y4 := blk_cell B0.out 4 _ rfl
                    go_wp2_with (at_builtin; refine wpList_append_lies _ rfl (.tmp 131) (.tmp 133) 40 rfl w7.heap.size 34 i0 (.agg #[.int .i64 0, .int .i64 0, .int .i64 0, .int .i64 0, .int .i64 0]) 5 40 Try.underlying40 hi0 hz0 hz9o hz8 rfl (by decide) _ (leftOf x cut (s.samples.take j)).length (opVals (leftOf x cut (s.samples.take j))) rfl (HOW2.out.alloc _) ⟨wz.heap.size, 0, none⟩ 1 1 y.vals rfl rfl (new_row' _ _ _) (by simp [OpV.vals, Value.oneCell']) (by omega) (by unfold maxLen; omega) (by omega) (by simp; omega) _ rfl ?_; intro g cap w11 hrow hg hat hgl; have HROW := Lib.hid hrow; have hb11 := Lib.hid ((h7.out.alloc (by omega) _).grown hg (by simp; omega) (fun k hk => (HOW2.out.lt k hk).1)); clear hrow hg hat)
                    go_roundw
                    case rel => exact ⟨j + 1, (by omega), (by go_num), (by rw [HSN.out]; simp only [Bool.false_eq_true, if_false]; rw [opVals_snoc, List.length_append]; exact HROW.out), hb11.out⟩
                    case measure => simp [intOf]; omega
                  · rw [hcov] at HSN
                    clear hcov
                    go_wp2
                    go_roundw
                    case rel => exact ⟨j + 1, (by omega), (by go_num), (by rw [HSN.out]; simp only [if_true, List.append_nil]; exact HOW2.out), h7.out⟩
                    case measure => simp [intOf]; omega
            · have hjj : s.samples.take j = s.samples := List.take_of_length_le (by omega)
              rw [hjj] at HOWN hown
              clear hjj hbq
              obtain ⟨Aw, cw, rfl⟩ := own_slice hown
              have g7 : ((s.samples.length : Int) - ((cutSt s cut).samples.length : Int) == (s.samples.length : Int) - ((leftOf x cut s.samples).length : Int)) = true := by rw [HCS.out]; simp
              have hl8 : (cutSt s cut).samples.length ≤ s.samples.length := List.length_filter_le _ _
              have hl9 : (leftOf x cut s.samples).length ≤ s.samples.length := List.length_filter_le _ _
              clear hown
              go_wp2_with (go_at_call 16; refine (ops_same (leftOf x cut s.samples) _ _ _ _ _ (HV7.out.below (HBQ.out)) (own_sl HOWN.out) (by omega)).mono ?_; rintro e w12 ⟨rfl, hb12⟩; have HB12 := Lib.hid hb12; clear hb12)
              go_ret
              exact ⟨rfl, ((HB3.out.trans (hq7.out.mono (by omega))).trans (HBQ.out.mono (by omega))).trans (HB12.out.mono (by omega))⟩
        · have g3 : ((cn : Int) != (x.rn : Int) * x.shards) = true := by rw [bne_iff_ne]; omega
          have HCN : Hid (cn ≠ s.res.length * s.shards.toNat) := by rw [hx6]; exact hcn
          clear hx5 hx6 hcn
          have TOK1 := True.intro
          go_wp2_with (first
            | (go_at_call 14; clear TOK1; refine (held_b HS.out).mono ?_; rintro e w5 ⟨v, rfl, hv, hb5⟩; obtain ⟨A5, c5, rfl⟩ := own_slice hv; have HB5 := Lib.hid hb5; have HV5 := Lib.hid (own_sl hv); clear hv hb5)
            | (go_at_call 15; refine (cut_bad_b cA cn cc (HS.out.below HB5.out) HCN.out (by omega)).mono ?_; rintro e w6 ⟨rfl, hb6⟩; have HB6 := Lib.hid hb6; have HV6 := Lib.hid (HV5.out.below hb6); clear HV5 hb6)
            | (go_at_call 14; refine (held_b ((HS.out.below HB5.out).below HB6.out)).mono ?_; rintro e w7 ⟨v, rfl, hv, hb7⟩; obtain ⟨A7, c7, rfl⟩ := own_slice hv; have HB7 := Lib.hid (((HB5.out.trans (HB6.out.mono HB5.out.size))).trans (hb7.mono (by have := HB5.out.size; have := HB6.out.size; omega))); have HV7 := Lib.hid (own_sl hv); have HVV := Lib.hid (HV6.out.below hb7); have d0 : w7.cell? ⟨w.heap.size, 0, none⟩ = some (.slice x.rA x.rn x.rc) := old_cell HB7.out (old_cell HBEL.out (HBOX3.out 0 _ rfl) hz1) (by show w.heap.size < _; omega); have d1 : w7.cell? ⟨w.heap.size, 1, none⟩ = some (.int .i64 x.shards) := old_cell HB7.out (old_cell HBEL.out (HBOX3.out 1 _ rfl) hz1) (by show w.heap.size < _; omega); clear hv hb7)
            | (go_at_call 16; refine (ops_same s.samples _ _ _ _ _ HVV.out HV7.out (by omega)).mono ?_; rintro e w8 ⟨rfl, hb8⟩; have HB8 := Lib.hid hb8; clear hb8))
          go_ret
          exact ⟨rfl, ((HB3.out.trans (HBEL.out.mono (by omega))).trans (HB7.out.mono (by omega))).trans (HB8.out.mono (by have := HB7.out.size; omega))⟩
  · have HOK := Lib.hid hok
    clear hok
    go_enter Try.func3, Try.ntmps3
    go_wp2_with (first
      | (go_at_call 9; refine (alive_any _).mono ?_; rintro e w1 ⟨rfl, hb1⟩; have HB1 := Lib.hid ((below_alloc w _).trans (hb1.mono (by simp))); replace HBOX := Lib.hid (HBOX.out.below hb1); have b0 : w1.cell? ⟨w.heap.size, 0, none⟩ = some (.slice x.rA x.rn x.rc) := HBOX.out 0 _ rfl; have b1 : w1.cell? ⟨w.heap.size, 1, none⟩ = some (.int .i64 x.shards) := HBOX.out 1 _ rfl; have b2 : w1.cell? ⟨w.heap.size, 2, none⟩ = some (.int .i64 x.hold) := HBOX.out 2 _ rfl; have b3 : w1.cell? ⟨w.heap.size, 3, none⟩ = some (.slice x.sA x.sn x.sc) := HBOX.out 3 _ rfl; clear hb1)
      | (go_at_call 10; refine (long_any' HX.out HB1.out).mono ?_; rintro e w2 ⟨q, rfl, hb2⟩; have hz := HB1.out.size; have HB2 := Lib.hid (HB1.out.trans (hb2.mono hz)); have HBOX2 := Lib.hid (HBOX.out.below hb2); clear b0 b1 b2 b3 HBOX hb2 HB1 hz; have b0 : w2.cell? ⟨w.heap.size, 0, none⟩ = some (.slice x.rA x.rn x.rc) := HBOX2.out 0 _ rfl; have b1 : w2.cell? ⟨w.heap.size, 1, none⟩ = some (.int .i64 x.shards) := HBOX2.out 1 _ rfl; have b2 : w2.cell? ⟨w.heap.size, 2, none⟩ = some (.int .i64 x.hold) := HBOX2.out 2 _ rfl; have b3 : w2.cell? ⟨w.heap.size, 3, none⟩ = some (.slice x.sA x.sn x.sc) := HBOX2.out 3 _ rfl)
      | (go_at_call 11; refine (new_case_bad HX.out.res HB2.out HOK.out).mono ?_; rintro e w3 ⟨rfl, rfl⟩))
    all_goals
      go_ret
      exact ⟨rfl, HB2.out⟩
end Go.Proofs.Ytomekiidgdkmiaa
