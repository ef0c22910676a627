/-
  StreamReplays' walk.
-/
import Derived.Test.YtomekiidgdkmiaaGood14
import Derived.Test.YtomekiidgdkmiaaAppSl
namespace Go.Proofs.Ytomekiidgdkmiaa
open Go.RowKit
set_option linter.unusedVariables false
set_option linter.unusedSimpArgs false

structure RepSt (s : StV) (x : CaseV) : Prop where
  hold : s.hold = x.hold
  res : s.res = x.res
  sh : s.shards = x.shards
  len : (s.samples.length : Int) ≤ x.hold
  fine : Fine s
theorem RepSt.sampled {s : StV} {x : CaseV} (h : RepSt s x) (o : OpV) (hl : ¬ s.hold ≤ s.samples.length) (hq : o.seq = s.next) (hk : o.kind = 1) (hn : 1 ≤ s.next) : RepSt (sampled s o) x :=
  ⟨h.hold, h.res, h.sh, by show ((s.samples ++ [o]).length : Int) ≤ _; rw [List.length_append]; have := h.hold; simp; omega, h.fine.sampled o hq hk hn⟩
theorem RepSt.marked {s : StV} {x : CaseV} (h : RepSt s x) (o : OpV) (hq : o.seq = s.next) (hk : o.kind = 2) (h3 : o.key = 0) (h4 : o.val = 0) (hn : 1 ≤ s.next) : RepSt (marked s o) x :=
  ⟨h.hold, h.res, h.sh, h.len, h.fine.marked o hq hk h3 h4 hn⟩
theorem RepSt.cut {s : StV} {x : CaseV} (h : RepSt s x) (pl : List PlV) : RepSt (cutSt s pl) x :=
  ⟨h.hold, h.res, h.sh, by have := h.len; have h2 : (cutSt s pl).samples.length ≤ s.samples.length := List.length_filter_le _ _; omega, h.fine.cut pl⟩
theorem most_bd (hold : Int) : 1 ≤ wrap64 (1 + wrap64 ((IntKind.u64.wrap hold).tmod 16)) ∧ wrap64 (1 + wrap64 ((IntKind.u64.wrap hold).tmod 16)) ≤ 16 := by
  have h0 : 0 ≤ IntKind.u64.wrap hold := by simp only [IntKind.wrap_u64]; omega
  have h1 := Int.tmod_nonneg 16 h0
  have h2 := Int.tmod_lt_of_pos (IntKind.u64.wrap hold) (show (0 : Int) < 16 by decide)
  unfold wrap64
  omega

theorem append_op (w : World) (B : Nat) (v : Value) (n : Nat) (xs : List OpV) (hown : w.ownsRow B 34 5 v n (opVals xs)) (v2 : Value) (ys : List OpV) (hsl : SlAt w v2 ys.length (opVals ys)) (h : n + ys.length ≤ 100000) (hB : B ≤ w.heap.size) (ty : TypeId) :
    ∃ v' w', (Builtin.append_ #[40, 40] ty #[v, v2]).run Try.prog w = .ok v' w' ∧ w'.ownsRow B 34 5 v' (n + ys.length) (opVals (xs ++ ys)) ∧ w.grownBy w' v.ownBlock := by
  obtain ⟨i0, hi, hz0, hz1, hz2⟩ := info_parts infoOp
  exact append_sl OpV.vals 5 (fun _ => rfl) (fun x u hu => by simp [OpV.vals] at hu; rcases hu with rfl | rfl | rfl | rfl | rfl <;> rfl) 40 34 i0 _ 40 Try.underlying40 hi hz0 hz1 hz2 rfl (by decide) w B v n xs hown v2 ys hsl (by unfold maxLen; omega) (by omega) hB ty
/-- is the mark still to come; what is held of the first n -/
def okB (s : StV) (n : Nat) : Bool := decide (s.mark.seq ≠ 0) && unmarkedB ((allOf s).take n)
def heldL (s : StV) (n : Nat) : List OpV := noMark ((allOf s).take n)
theorem held_le (s : StV) (n : Nat) : (heldL s n).length ≤ n := Nat.le_trans (List.length_filter_le _ _) (List.length_take_le _ _)
theorem held_snoc (s : StV) (n : Nat) (h : n < (allOf s).length) : heldL s (n + 1) = heldL s n ++ (if (opn (allOf s) n).kind = 2 then [] else [opn (allOf s) n]) := noMark_snoc _ n h
theorem ok_snoc (s : StV) (n : Nat) (h : n < (allOf s).length) : okB s (n + 1) = (okB s n && decide ((opn (allOf s) n).kind ≠ 2)) := by
  unfold okB; rw [unmarked_snoc _ n h, Bool.and_assoc]
theorem Fine.ok_first {s : StV} (h : Fine s) {k : Nat} (hk : k < (allOf s).length) (h2 : (opn (allOf s) k).kind = 2) : okB s k = true ∧ opn (allOf s) k = s.mark := by
  obtain ⟨a, b, c⟩ := h.first_mark hk h2
  exact ⟨by unfold okB; rw [a]; simp [c], b⟩
theorem Fine.ok_end {s : StV} (h : Fine s) : okB s (allOf s).length = false := by
  unfold okB; rw [List.take_length]; exact h.marked_end
theorem Fine.held_end {s : StV} (h : Fine s) : heldL s (allOf s).length = s.samples := by
  unfold heldL; rw [List.take_length]; exact h.noMark
theorem new_rowN (w : World) (o : Obj) (n : Nat) (cs : List Value) (T : TypeId) : ∀ j u, cs[j]? = some u → (((w.alloc o).drewN n).alloc (.cells cs.toArray T)).cell? ((⟨w.heap.size + 1, 0, none⟩ : Addr).add j) = some u := by
  have := new_row' ((w.alloc o).drewN n) cs T
  simpa using this
theorem all_take (L : List OpV) (j j' : Nat) (h : j ≤ j') : L.take j ++ (L.drop j).take (j' - j) = L.take j' := by
  rw [← List.take_add]; congr 1; omega

set_option maxHeartbeats 40000000 in
set_option maxRecDepth 100000 in
theorem replays_any (x : CaseV) (most : Int) (w : World) (h : x.okIn w) (hn : x.sn ≤ 1000000000000000000) :
    Calls Try.prog 6 #[.agg #[.slice x.rA x.rn x.rc, .int .i64 x.shards, .int .i64 x.hold, .slice x.sA x.sn x.sc], .int .i64 most] w fun e w' => e = .returned (.bool true) ∧ Below w.heap.size w w' := by
  have HX := Lib.hid h
  have HBOX := Lib.hid (case_box w x 25)
  clear h
  by_cases hok : newOk x.res x.shards x.hold
  · have HOK := Lib.hid hok
    clear hok
    go_enter Try.func6, Try.ntmps6
    obtain ⟨ms1, ms2⟩ := most_bd most
    go_wp2_with (first
      | (go_at_call 9; refine (alive_any _).mono ?_; rintro e w1 ⟨rfl, hb1⟩; have HB1 := Lib.hid ((below_alloc w _).trans (hb1.mono (by simp))); replace HBOX := Lib.hid (HBOX.out.below hb1); have b0 : w1.cell? ⟨w.heap.size, 0, none⟩ = some (.slice x.rA x.rn x.rc) := HBOX.out 0 _ rfl; have b1 : w1.cell? ⟨w.heap.size, 1, none⟩ = some (.int .i64 x.shards) := HBOX.out 1 _ rfl; have b2 : w1.cell? ⟨w.heap.size, 2, none⟩ = some (.int .i64 x.hold) := HBOX.out 2 _ rfl; have b3 : w1.cell? ⟨w.heap.size, 3, none⟩ = some (.slice x.sA x.sn x.sc) := HBOX.out 3 _ rfl; clear hb1)
      | (go_at_call 10; refine (long_any' HX.out HB1.out).mono ?_; rintro e w2 ⟨q, rfl, hb2⟩; have hz := HB1.out.size; have HB2 := Lib.hid (HB1.out.trans (hb2.mono hz)); have HBOX2 := Lib.hid (HBOX.out.below hb2); clear b0 b1 b2 b3 HBOX hb2 HB1 hz; have b0 : w2.cell? ⟨w.heap.size, 0, none⟩ = some (.slice x.rA x.rn x.rc) := HBOX2.out 0 _ rfl; have b1 : w2.cell? ⟨w.heap.size, 1, none⟩ = some (.int .i64 x.shards) := HBOX2.out 1 _ rfl; have b2 : w2.cell? ⟨w.heap.size, 2, none⟩ = some (.int .i64 x.hold) := HBOX2.out 2 _ rfl; have b3 : w2.cell? ⟨w.heap.size, 3, none⟩ = some (.slice x.sA x.sn x.sc) := HBOX2.out 3 _ rfl)
      | (go_at_call 11; refine (new_case HX.out.res HB2.out HOK.out).mono ?_; rintro e w3 ⟨a, rfl, hs3, hb3⟩; have hz := HB2.out.size; have hz1 := cell_lt b0; have HB3 := Lib.hid (HB2.out.trans (hb3.mono hz)); have HBOX3 := Lib.hid (HBOX2.out.below hb3); clear b0 b1 b2 b3 HBOX2 hb3 HB2; have b3 : w3.cell? ⟨w.heap.size, 3, none⟩ = some (.slice x.sA x.sn x.sc) := HBOX3.out 3 _ rfl))
    · go_ret
      exact ⟨rfl, HB2.out⟩
    generalize wrap64 (1 + wrap64 ((IntKind.u64.wrap most).tmod 16)) = ms at *
    go_loopw [48] (fun i wr => ∃ (k : Nat) (s : StV), k ≤ x.sn ∧ i = .int .i64 k ∧ SB w2.heap.size wr a s ∧ RepSt s x ∧ s.next ≤ 1 + k ∧ Below w2.heap.size w3 wr) (fun i _ => x.sn - (intOf i).toNat)
    case atStart => exact ⟨0, newSt x.res x.shards x.hold (x.res.length * x.shards.toNat), Nat.zero_le _, rfl, hs3, ⟨rfl, rfl, rfl, (by show (0 : Int) ≤ x.hold; have := HOK.out.2.2.2.2.2.1; omega), Fine.new _ _ _ _⟩, (by show (1 : Int) ≤ _; omega), Below.refl _ _⟩
    case round =>
      obtain ⟨k, s, hk, rfl, hs, hf, hnx, hbel⟩ := hrel
      have hzw : w2.heap.size < wr.heap.size := by have := hs.lt; omega
      have HS := Lib.hid hs
      have HF := Lib.hid hf
      have HNX := Lib.hid hnx
      have HBEL := Lib.hid hbel
      have bn1 : 1 ≤ s.next := hs.ok.n1
      have hsl : (s.samples.length : Int) ≤ 64 := by have := hf.len; have := HOK.out.2.2.2.2.2.2; omega
      clear hs hf hnx
      by_cases hlt : k < x.sn
      · obtain ⟨b, off, hA, c0, c1, c2, c3, c4, c5, c6, c7, c8, c9⟩ := sc_cells HX.out.script (HB3.out.trans (hbel.mono (by omega))) k hlt
        have HSC := Lib.hid (HX.out.script.ok _ (scn_mem (show k < x.script.length by have := HX.out.script.len; omega)))
        generalize scn x.script k = o at *
        have HA := Lib.hid hA
        clear hbel hA
        rw [HA.out]
        by_cases k0 : o.kind = 0
        · have g0 : (o.kind == 0) = true := by simp [k0]
          have HK0 := Lib.hid k0
          clear k0
          cases he : s.early o.time
          · have HE := Lib.hid he
            clear he
            by_cases hfull : s.hold ≤ (s.samples.length : Int)
            · have HFULL := Lib.hid hfull
              clear hfull
              go_wp2_with (first
                | (go_at_call 12; refine (sample_full_b o.time o.key o.val (HS.out.below (below_alloc _ _)) HE.out HFULL.out).mono ?_; rintro e w5 ⟨rfl, hb5⟩; have HB5 := Lib.hid hb5; clear hb5))
              go_roundw
              case rel => exact ⟨k + 1, s, (by omega), (by go_num), ((HS.out.below (below_alloc _ _)).below HB5.out).below (below_alloc _ _), HF.out, (by have := HNX.out; omega), ((HBEL.out.alloc (by omega) _).trans (HB5.out.mono (by simp; omega))).alloc (by have := HB5.out.size; simp at this; omega) _⟩
              case measure => simp [intOf]; omega
            · have HFULL := Lib.hid hfull
              clear hfull
              go_wp2_with (first
                | (go_at_call 12; refine (sample_ok_b o.time o.key o.val (HS.out.below (below_alloc _ _)) HE.out (by have := HFULL.out; omega)).mono ?_; rintro e w5 ⟨rfl, hb5⟩; have HB5 := Lib.hid hb5; clear hb5)
                | (go_at_call 13; refine (put_sample_b s.next o.time o.key o.val (((HS.out.below (below_alloc _ _)).below HB5.out).below (below_alloc _ _)) rfl HE.out HSC.out.time (by have := HNX.out; omega) (by omega)).mono ?_; rintro e w6 ⟨rfl, hs6, hb6⟩; have HS6 := Lib.hid hs6; have HB6 := Lib.hid hb6; clear hs6 hb6))
              go_roundw
              case rel => exact ⟨k + 1, _, (by omega), (by go_num), HS6.out, HF.out.sampled _ (by have := HFULL.out; omega) rfl rfl bn1, (by show s.next + 1 ≤ _; have := HNX.out; omega), (((HBEL.out.alloc (by omega) _).trans (HB5.out.mono (by simp; omega))).alloc (by have := HB5.out.size; simp at this; omega) _).trans HB6.out⟩
              case measure => simp [intOf]; omega
          · have HE := Lib.hid he
            clear he
            go_wp2_with (first
              | (go_at_call 12; refine (sample_late_b o.time o.key o.val (HS.out.below (below_alloc _ _)) HE.out).mono ?_; rintro e w5 ⟨rfl, hb5⟩; have HB5 := Lib.hid hb5; clear hb5))
            go_roundw
            case rel => exact ⟨k + 1, s, (by omega), (by go_num), ((HS.out.below (below_alloc _ _)).below HB5.out).below (below_alloc _ _), HF.out, (by have := HNX.out; omega), ((HBEL.out.alloc (by omega) _).trans (HB5.out.mono (by simp; omega))).alloc (by have := HB5.out.size; simp at this; omega) _⟩
            case measure => simp [intOf]; omega
        · by_cases k1 : o.kind = 1
          · have g0 : (o.kind == 0) = false := by simp [k0]
            have g1 : (o.kind == 1) = true := by simp [k1]
            clear k0 k1
            cases he : s.early o.time
            · have HE := Lib.hid he
              clear he
              go_wp2_with (first
                | (go_at_call 20; refine (mark_ok_b o.time (HS.out.below (below_alloc _ _)) HE.out).mono ?_; rintro e w5 ⟨rfl, hb5⟩; have HB5 := Lib.hid hb5; clear hb5)
                | (go_at_call 13; refine (put_mark_b s.next o.time (((HS.out.below (below_alloc _ _)).below HB5.out).below (below_alloc _ _)) rfl HE.out HSC.out.time (by have := HNX.out; omega)).mono ?_; rintro e w6 ⟨rfl, hs6, hb6⟩; have HS6 := Lib.hid hs6; have HB6 := Lib.hid hb6; clear hs6 hb6))
              go_roundw
              case rel => exact ⟨k + 1, _, (by omega), (by go_num), HS6.out, HF.out.marked ⟨s.next, 2, o.time, 0, 0⟩ rfl rfl rfl rfl bn1, (by show s.next + 1 ≤ _; have := HNX.out; omega), (((HBEL.out.alloc (by omega) _).trans (HB5.out.mono (by simp; omega))).alloc (by have := HB5.out.size; simp at this; omega) _).trans HB6.out⟩
              case measure => simp [intOf]; omega
            · have HE := Lib.hid he
              clear he
              go_wp2_with (first
                | (go_at_call 20; refine (mark_back_b o.time (HS.out.below (below_alloc _ _)) HE.out).mono ?_; rintro e w5 ⟨rfl, hb5⟩; have HB5 := Lib.hid hb5; clear hb5))
              go_roundw
              case rel => exact ⟨k + 1, s, (by omega), (by go_num), ((HS.out.below (below_alloc _ _)).below HB5.out).below (below_alloc _ _), HF.out, (by have := HNX.out; omega), ((HBEL.out.alloc (by omega) _).trans (HB5.out.mono (by simp; omega))).alloc (by have := HB5.out.size; simp at this; omega) _⟩
              case measure => simp [intOf]; omega
          · have g0 : (o.kind == 0) = false := by simp [k0]
            have g1 : (o.kind == 1) = false := by simp [k1]
            clear k0 k1
            by_cases k3 : o.kind = 3
            · have g3 : (o.kind == 3) = true := by simp [k3]
              clear k3
              have hpl := HSC.out.pls
              by_cases hn3 : o.pn = s.res.length * s.shards.toNat
              · obtain ⟨pb, po, hpA, hprow⟩ : ∃ pb po, o.pA = some ⟨pb, po, none⟩ ∧ pb < w.heap.size ∧ RowAt w pb po (plVals o.pls) := by
                  have h1 := HS.out.ok.r1
                  have h2 := HS.out.ok.s1
                  have h3 : 1 * 1 ≤ s.res.length * s.shards.toNat := Nat.mul_le_mul h1 (by omega)
                  have h4 := hpl.len
                  exact sl_row (hpl.row (by omega)) (by omega)
                have HPR := Lib.hid hprow
                have HPA := Lib.hid hpA
                have HPL := Lib.hid hpl.len
                have HN3 := Lib.hid hn3
                have hz9 := HB3.out.size
                clear hprow hpA hpl hn3
                rw [HPA.out] at c9
                go_wp2_with (first
                  | (go_at_call 15; rw [← HPL.out]; refine (cut_ok_b (w0 := wr) o.pls pb po o.pc HS.out (below_alloc _ _) (by rw [HPL.out]; exact HN3.out) (fun j u hj => old_cell ((HB3.out.trans (HBEL.out.mono (by omega))).alloc (by omega) _) (HPR.out.2 j u hj) HPR.out.1) (.inr (by have := HPR.out.1; omega))).mono ?_; rintro e w5 ⟨rfl, hs5, hb5⟩; have HS5 := Lib.hid hs5; have HB5 := Lib.hid hb5; clear hs5 hb5))
                go_roundw
                case rel => exact ⟨k + 1, _, (by omega), (by go_num), HS5.out, HF.out.cut o.pls, (by show s.next ≤ _; have := HNX.out; omega), (HBEL.out.alloc (by omega) _).trans HB5.out⟩
                case measure => simp [intOf]; omega
              · have hm := hpl.max
                unfold maxLen at hm
                clear hpl
                go_wp2_with (first
                  | (go_at_call 15; refine (cut_bad_b o.pA o.pn o.pc (HS.out.below (below_alloc _ _)) hn3 (by omega)).mono ?_; rintro e w5 ⟨rfl, hb5⟩; have HB5 := Lib.hid hb5; clear hb5))
                go_roundw
                case rel => exact ⟨k + 1, s, (by omega), (by go_num), (HS.out.below (below_alloc _ _)).below HB5.out, HF.out, (by have := HNX.out; omega), (HBEL.out.alloc (by omega) _).trans (HB5.out.mono (by simp; omega))⟩
                case measure => simp [intOf]; omega
            · have g3 : (o.kind == 3) = false := by simp [k3]
              clear k3
              go_wp2
              go_roundw
              case rel => exact ⟨k + 1, s, (by omega), (by go_num), HS.out.below (below_alloc _ _), HF.out, (by have := HNX.out; omega), HBEL.out.alloc (by omega) _⟩
              case measure => simp [intOf]; omega
      · clear hbel
        have HL1 : Hid ((allOf s).length ≤ 65) := by have := all_len s; have : (allOf s).length ≤ 65 := by omega
                                                     exact this
        have bn2 : s.next ≤ 2000000000000000000 := by have := HNX.out; omega
        have HO4 : Hid ((wr.alloc (.cells #[] 34)).ownsRow wr.heap.size 34 5 (.slice (some ⟨wr.heap.size, 0, none⟩) 0 0) 0 []) := World.ownsRow_made wr #[] 0 (Nat.le_refl _) (by decide) rfl
        go_wp2
        go_loopw [13, 14, 15] (fun v f i wq => ∃ (it j : Nat) (fr : Int), it ≤ 500 ∧ i = .int .i64 it ∧ f = .int .i64 fr ∧ Hid (CutAt (allOf s) j fr) ∧ 1 ≤ fr ∧ fr ≤ s.next ∧ (it ≤ j ∨ fr = s.next) ∧ wq.ownsRow wr.heap.size 34 5 v j (opVals ((allOf s).take j)) ∧ Below wr.heap.size wr wq) (fun _ _ i _ => 500 - (intOf i).toNat)
        case atStart => exact ⟨0, 0, 1, (by omega), rfl, rfl, HF.out.fine.cut_start, (by omega), (by omega), .inl (Nat.le_refl _), HO4.out, below_alloc _ _⟩
        case round =>
          rename World => wq
          obtain ⟨it, j, fr, hit, rfl, rfl, hcut, hf1, hf2, hej, hown, hbq⟩ := hrel
          have HOWN := Lib.hid hown
          have HBQ := Lib.hid hbq
          have HEJ := Lib.hid hej
          have hzq := hbq.size
          have hjl : j ≤ 65 := by have := hcut.out.1; have := HL1.out; omega
          obtain ⟨Ag, cg, rfl⟩ := own_slice hown
          clear hown hbq hej
          by_cases hgg : it < 500 ∧ fr < s.next
          · obtain ⟨hi5, hfn⟩ := hgg
            have g5 : decide ((it : Int) < 500) = true := decide_eq_true (by omega)
            have g6 : decide (fr < s.next) = true := decide_eq_true hfn
            obtain ⟨j', hjj, hrl, hcut2, hn1, hn2, hlm, hgo, hll, hj2⟩ := HF.out.fine.step hcut.out hfn hf1 ms1
            have HRL := Lib.hid hrl
            have HCUT2 := Lib.hid hcut2
            have HGO := Lib.hid hgo
            have HLL := Lib.hid hll
            have g1 : decide (ms < ((repL s fr ms).length : Int)) = false := decide_eq_false (by omega)
            have g2 : decide (repN s fr ms < fr) = false := decide_eq_false (by omega)
            have g3 : decide (s.next ≤ repN s fr ms) = false := decide_eq_false (by omega)
            have hj3 : j' ≤ 65 := by have := HL1.out; omega
            have hrl2 : (repL s fr ms).length ≤ 65 := by omega
            clear hrl hcut2 hgo hll
            generalize hN : repN s fr ms = N at *
            generalize hRR : repL s fr ms = R at *
            have HN := Lib.hid hN
            have HRR := Lib.hid hRR
            clear hN hRR
            go_wp2_with (first
              | (go_at_call 19; refine (next_b (HS.out.below (HBQ.out))).mono ?_; rintro e w4 ⟨rfl, hb4⟩; subst hb4)
              | (go_at_call 22; refine (replay_b fr ms (HS.out.below HBQ.out) (by omega) HF.out.fine (by omega)).mono ?_; rw [HN.out, HRR.out]; rintro e w5 ⟨v, rfl, hv, hb5⟩; obtain ⟨A5, c5, rfl⟩ := sl_val hv; obtain ⟨v6, w6, hr6, ho6, hg6⟩ := append_op w5 wr.heap.size _ j ((allOf s).take j) (own_keep HOWN.out (fun g hg => hb5.block g (HOWN.out.lt g hg).2)) (.slice A5 R.length c5) R hv (by omega) (by have := hb5.size; omega) 40; have HB5 := Lib.hid hb5; have HR6 := Lib.hid hr6; have HO6 := Lib.hid ho6; have HG6 := Lib.hid hg6; clear hv hb5 hr6 ho6 hg6)
              | (go_at_call 19; refine (next_b ((HS.out.below (HBQ.out)).below HB5.out)).mono ?_; rintro e w4 ⟨rfl, hb4⟩; subst hb4)
              | (at_builtin; refine Lib.wpList_append_run _ rfl (.tmp 126) (.tmp 127) _ _ rfl _ _ rfl rfl _ _ HR6.out ?_))
            go_roundw
            case rel =>
              have e1 : (allOf s).take j ++ R = (allOf s).take j' := by rw [HRL.out]; exact all_take _ _ _ hjj
              have e2 : j + R.length = j' := by have := HLL.out; omega
              have ho := HO6.out
              rw [e1, e2] at ho
              have hz5 := HB5.out.size
              exact ⟨it + 1, j', N + 1, (by omega), (by go_num), rfl, HCUT2.out, (by omega), (by omega), (by rcases HEJ.out with h | h <;> rcases HGO.out with h2 | h2 <;> omega), ho, (HBQ.out.trans (HB5.out.mono hzq)).grown HG6.out (by omega) (fun k hk => (HOWN.out.lt k hk).1)⟩
            case measure => simp [intOf]; omega
          · have hfe : fr = s.next := by
              rcases HEJ.out with h | h
              · omega
              · exact h
            subst hfe
            have hje := HF.out.fine.cut_end hcut.out
            subst hje
            clear hgg
            have HO8 : Hid ((wq.alloc (.cells #[] 34)).ownsRow wq.heap.size 34 5 (.slice (some ⟨wq.heap.size, 0, none⟩) 0 0) 0 []) := World.ownsRow_made wq #[] 0 (Nat.le_refl _) (by decide) rfl
            have HGOT : Hid (SlAt wq (.slice Ag (allOf s).length cg) (allOf s).length (opVals (allOf s))) := by
              have := own_sl HOWN.out
              rw [List.take_length] at this
              exact this
            have g5 : (s.next != s.next) = false := by simp
            by_cases hi5 : it < 500
            · have g4 : decide ((it : Int) < 500) = true := decide_eq_true (by omega)
              have HOK0 : Hid (decide (s.mark.seq ≠ 0) = okB s 0) := by show _ = _; unfold okB; rw [List.take_zero]; simp [unmarkedB]
              go_wp2_with (first
                | (go_at_call 19; refine (next_b (HS.out.below (HBQ.out))).mono ?_; rintro e w4 ⟨rfl, hb4⟩; subst hb4)
                | (go_at_call 21; refine (last_fine ((HS.out.below (HBQ.out)).below (below_alloc _ _)) HF.out.fine).mono ?_; rw [HOK0.out]; rintro e w10 ⟨rfl, hb10⟩; have HB10 := Lib.hid ((below_alloc wq _).trans (hb10.mono (by simp))); have HO10 := Lib.hid (own_keep HO8.out (fun g hg => hb10.block g (HO8.out.lt g hg).2)); clear hb10))
              go_loopw [18, 21, 144] (fun hv ok i wz => ∃ k : Nat, k ≤ (allOf s).length ∧ i = .int .i64 k ∧ ok = .bool (okB s k) ∧ wz.ownsRow wq.heap.size 34 5 hv (heldL s k).length (opVals (heldL s k)) ∧ Below wq.heap.size wq wz) (fun _ _ i _ => (allOf s).length - (intOf i).toNat)
              case atStart => exact ⟨0, Nat.zero_le _, rfl, rfl, HO10.out, HB10.out⟩
              case round =>
                rename World => wz
                obtain ⟨n, hn, rfl, rfl, hown3, hbz⟩ := hrel
                have HOWN3 := Lib.hid hown3
                have HBZ := Lib.hid hbz
                have hzz := hbz.size
                have hnm := held_le s n
                by_cases hnl : n < (allOf s).length
                · obtain ⟨gg, og, rfl, hgl, hrg⟩ := sl_row HGOT.out (by omega)
                  have hrb := hrg.below hbz
                  obtain ⟨p0, p1, p2, p3, p4⟩ := hrb.op n hnl
                  have HNM := Lib.hid (held_snoc s n hnl)
                  have HUM := Lib.hid (ok_snoc s n hnl)
                  have HFM : Hid ((opn (allOf s) n).kind = 2 → okB s n = true ∧ opn (allOf s) n = s.mark) := HF.out.fine.ok_first hnl
                  have HUP : Hid (∀ m, m < n → (opn (allOf s) m).seq < (opn (allOf s) n).seq) := fun m hm => HF.out.fine.all_lt hm hnl
                  clear hown3 hbz
                  rcases n with _ | m
                  · simp only [Nat.zero_mul, Nat.add_zero] at p0 p1 p2 p3 p4
                    generalize opn (allOf s) (0) = y at *
                    by_cases hk2 : y.kind = 2
                    · obtain ⟨f1, f2⟩ := HFM.out hk2
                      rw [f1]
                      have k1 : (y.kind == 2) = true := by simp [hk2]
                      have k2 : (y.seq != s.mark.seq) = false := by simp [f2]
                      have k3 : (y.time != s.mark.time) = false := by simp [f2]
                      have HK2 := Lib.hid hk2
                      clear f1 f2 hk2
                      go_wp2
                      go_quiet (fail)
                      go_wp2
                      go_roundw
                      case rel => exact ⟨(0) + 1, (by omega), (by go_num), (by rw [HUM.out]; simp [HK2.out]), (by rw [HNM.out, if_pos HK2.out, List.append_nil]; exact own_keep HOWN3.out (fun g hg => (below_alloc wz _).block g (HOWN3.out.lt g hg).2)), below_drewN (HBZ.out.alloc hzz _) _⟩
                      case measure => simp [intOf]; omega
                    · have k1 : (y.kind == 2) = false := by simp [hk2]
                      have HK2 := Lib.hid hk2
                      obtain ⟨i0, hi0, hz0, hz9o, hz8⟩ := info_parts infoOp
                      clear hk2
                      go_wp2
                      go_quiet (fail)
                      go_wp2_with (at_builtin; refine wpList_append_lies _ rfl (.tmp 179) (.tmp 181) 40 rfl wq.heap.size 34 i0 (.agg #[.int .i64 0, .int .i64 0, .int .i64 0, .int .i64 0, .int .i64 0]) 5 40 Try.underlying40 hi0 hz0 hz9o hz8 rfl (by decide) _ (heldL s (0)).length (opVals (heldL s (0))) rfl (own_keep (HOWN3.out.alloc _) (fun g hg => (below_alloc _ _).block g ((HOWN3.out.alloc _).lt g hg).2)) ⟨wz.heap.size + 1, 0, none⟩ 1 1 y.vals rfl rfl (new_rowN _ _ _ _ _) (by simp [OpV.vals, Value.oneCell']) (by omega) (by unfold maxLen; omega) (by omega) (by simp; omega) _ rfl ?_; intro g cap w11 hrow hg hat hgl2; have HROW := Lib.hid hrow; have HB11 := Lib.hid (((below_drewN (HBZ.out.alloc hzz _) nq).alloc (by simp; omega) _).grown hg (by simp; omega) (fun k hk => (HOWN3.out.lt k hk).1)); clear hrow hg hat)
                      go_roundw
                      case rel => exact ⟨(0) + 1, (by omega), (by go_num), (by rw [HUM.out]; simp [HK2.out]), (by rw [HNM.out, if_neg HK2.out, opVals_snoc, List.length_append]; exact HROW.out), HB11.out⟩
                      case measure => simp [intOf]; omega
                  · obtain ⟨q0, _⟩ := hrb.op m (by omega)
                    have hup := HUP.out m (by omega)
                    have q1 : ∀ ob, (wz.alloc ob).cell? ⟨gg, og + m * 5, none⟩ = some (.int .i64 (opn (allOf s) m).seq) := fun ob => alloc_old (o := ob) q0
                    have hdg : decide ((0 : Int) < (m : Int) + 1) = true := decide_eq_true (by omega)
                    have hw0 : IntKind.i64.wrap (m : Int) = m := by rw [IntKind.wrap_i64]; omega
                    have hb0 : (m : Int) < ((allOf s).length : Int) := by omega
                    generalize opn (allOf s) m = y0 at *
                    have hge : decide ((opn (allOf s) (m + 1)).seq ≤ y0.seq) = false := decide_eq_false (by omega)
                    clear hup
                    generalize opn (allOf s) (m + 1) = y at *
                    by_cases hk2 : y.kind = 2
                    · obtain ⟨f1, f2⟩ := HFM.out hk2
                      rw [f1]
                      have k1 : (y.kind == 2) = true := by simp [hk2]
                      have k2 : (y.seq != s.mark.seq) = false := by simp [f2]
                      have k3 : (y.time != s.mark.time) = false := by simp [f2]
                      have HK2 := Lib.hid hk2
                      clear f1 f2 hk2
                      go_wp2
                      go_quiet (fail)
                      go_wp2
                      go_roundw
                      case rel => exact ⟨(m + 1) + 1, (by omega), (by go_num), (by rw [HUM.out]; simp [HK2.out]), (by rw [HNM.out, if_pos HK2.out, List.append_nil]; exact own_keep HOWN3.out (fun g hg => (below_alloc wz _).block g (HOWN3.out.lt g hg).2)), below_drewN (HBZ.out.alloc hzz _) _⟩
                      case measure => simp [intOf]; omega
                    · have k1 : (y.kind == 2) = false := by simp [hk2]
                      have HK2 := Lib.hid hk2
                      obtain ⟨i0, hi0, hz0, hz9o, hz8⟩ := info_parts infoOp
                      clear hk2
                      go_wp2
                      go_quiet (fail)
                      go_wp2_with (at_builtin; refine wpList_append_lies _ rfl (.tmp 179) (.tmp 181) 40 rfl wq.heap.size 34 i0 (.agg #[.int .i64 0, .int .i64 0, .int .i64 0, .int .i64 0, .int .i64 0]) 5 40 Try.underlying40 hi0 hz0 hz9o hz8 rfl (by decide) _ (heldL s (m + 1)).length (opVals (heldL s (m + 1))) rfl (own_keep (HOWN3.out.alloc _) (fun g hg => (below_alloc _ _).block g ((HOWN3.out.alloc _).lt g hg).2)) ⟨wz.heap.size + 1, 0, none⟩ 1 1 y.vals rfl rfl (new_rowN _ _ _ _ _) (by simp [OpV.vals, Value.oneCell']) (by omega) (by unfold maxLen; omega) (by omega) (by simp; omega) _ rfl ?_; intro g cap w11 hrow hg hat hgl2; have HROW := Lib.hid hrow; have HB11 := Lib.hid (((below_drewN (HBZ.out.alloc hzz _) nq).alloc (by simp; omega) _).grown hg (by simp; omega) (fun k hk => (HOWN3.out.lt k hk).1)); clear hrow hg hat)
                      go_roundw
                      case rel => exact ⟨(m + 1) + 1, (by omega), (by go_num), (by rw [HUM.out]; simp [HK2.out]), (by rw [HNM.out, if_neg HK2.out, opVals_snoc, List.length_append]; exact HROW.out), HB11.out⟩
                      case measure => simp [intOf]; omega
                · have hne : n = (allOf s).length := by omega
                  subst hne
                  have HNN := Lib.hid HF.out.fine.held_end
                  rw [HF.out.fine.ok_end]
                  rw [HNN.out] at HOWN3 hown3
                  clear hbz hnm
                  obtain ⟨A3, c3, rfl⟩ := own_slice hown3
                  clear hown3
                  go_wp2_with (first
                    | (go_at_call 14; refine (held_b ((HS.out.below HBQ.out).below (HBZ.out))).mono ?_; rintro e w11 ⟨v, rfl, hv, hb11⟩; obtain ⟨A11, c11, rfl⟩ := own_slice hv; have HB11 := Lib.hid hb11; have HV11 := Lib.hid (own_sl hv); clear hv hb11)
                    | (go_at_call 16; refine (ops_same s.samples _ _ _ _ _ ((own_sl HOWN3.out).below HB11.out) HV11.out (by omega)).mono ?_; rintro e w12 ⟨rfl, hb12⟩; have HB12 := Lib.hid hb12; clear hb12))
                  go_ret
                  exact ⟨rfl, (((HB3.out.trans (HBEL.out.mono (by omega))).trans (HBQ.out.mono (by omega))).trans (HBZ.out.mono (by omega))).trans ((HB11.out.trans (HB12.out.mono HB11.out.size)).mono (by omega))⟩
            · have g4 : decide ((it : Int) < 500) = false := decide_eq_false (by omega)
              have HOK0 : Hid (decide (s.mark.seq ≠ 0) = okB s 0) := by show _ = _; unfold okB; rw [List.take_zero]; simp [unmarkedB]
              go_wp2_with (first
                | (go_at_call 19; refine (next_b (HS.out.below (HBQ.out))).mono ?_; rintro e w4 ⟨rfl, hb4⟩; subst hb4)
                | (go_at_call 21; refine (last_fine ((HS.out.below (HBQ.out)).below (below_alloc _ _)) HF.out.fine).mono ?_; rw [HOK0.out]; rintro e w10 ⟨rfl, hb10⟩; have HB10 := Lib.hid ((below_alloc wq _).trans (hb10.mono (by simp))); have HO10 := Lib.hid (own_keep HO8.out (fun g hg => hb10.block g (HO8.out.lt g hg).2)); clear hb10))
              go_loopw [18, 21, 144] (fun hv ok i wz => ∃ k : Nat, k ≤ (allOf s).length ∧ i = .int .i64 k ∧ ok = .bool (okB s k) ∧ wz.ownsRow wq.heap.size 34 5 hv (heldL s k).length (opVals (heldL s k)) ∧ Below wq.heap.size wq wz) (fun _ _ i _ => (allOf s).length - (intOf i).toNat)
              case atStart => exact ⟨0, Nat.zero_le _, rfl, rfl, HO10.out, HB10.out⟩
              case round =>
                rename World => wz
                obtain ⟨n, hn, rfl, rfl, hown3, hbz⟩ := hrel
                have HOWN3 := Lib.hid hown3
                have HBZ := Lib.hid hbz
                have hzz := hbz.size
                have hnm := held_le s n
                by_cases hnl : n < (allOf s).length
                · obtain ⟨gg, og, rfl, hgl, hrg⟩ := sl_row HGOT.out (by omega)
                  have hrb := hrg.below hbz
                  obtain ⟨p0, p1, p2, p3, p4⟩ := hrb.op n hnl
                  have HNM := Lib.hid (held_snoc s n hnl)
                  have HUM := Lib.hid (ok_snoc s n hnl)
                  have HFM : Hid ((opn (allOf s) n).kind = 2 → okB s n = true ∧ opn (allOf s) n = s.mark) := HF.out.fine.ok_first hnl
                  have HUP : Hid (∀ m, m < n → (opn (allOf s) m).seq < (opn (allOf s) n).seq) := fun m hm => HF.out.fine.all_lt hm hnl
                  clear hown3 hbz
                  rcases n with _ | m
                  · simp only [Nat.zero_mul, Nat.add_zero] at p0 p1 p2 p3 p4
                    generalize opn (allOf s) (0) = y at *
                    by_cases hk2 : y.kind = 2
                    · obtain ⟨f1, f2⟩ := HFM.out hk2
                      rw [f1]
                      have k1 : (y.kind == 2) = true := by simp [hk2]
                      have k2 : (y.seq != s.mark.seq) = false := by simp [f2]
                      have k3 : (y.time != s.mark.time) = false := by simp [f2]
                      have HK2 := Lib.hid hk2
                      clear f1 f2 hk2
                      go_wp2
                      go_quiet (fail)
                      go_wp2
                      go_roundw
                      case rel => exact ⟨(0) + 1, (by omega), (by go_num), (by rw [HUM.out]; simp [HK2.out]), (by rw [HNM.out, if_pos HK2.out, List.append_nil]; exact own_keep HOWN3.out (fun g hg => (below_alloc wz _).block g (HOWN3.out.lt g hg).2)), below_drewN (HBZ.out.alloc hzz _) _⟩
                      case measure => simp [intOf]; omega
                    · have k1 : (y.kind == 2) = false := by simp [hk2]
                      have HK2 := Lib.hid hk2
                      obtain ⟨i0, hi0, hz0, hz9o, hz8⟩ := info_parts infoOp
                      clear hk2
                      go_wp2
                      go_quiet (fail)
                      go_wp2_with (at_builtin; refine wpList_append_lies _ rfl (.tmp 179) (.tmp 181) 40 rfl wq.heap.size 34 i0 (.agg #[.int .i64 0, .int .i64 0, .int .i64 0, .int .i64 0, .int .i64 0]) 5 40 Try.underlying40 hi0 hz0 hz9o hz8 rfl (by decide) _ (heldL s (0)).length (opVals (heldL s (0))) rfl (own_keep (HOWN3.out.alloc _) (fun g hg => (below_alloc _ _).block g ((HOWN3.out.alloc _).lt g hg).2)) ⟨wz.heap.size + 1, 0, none⟩ 1 1 y.vals rfl rfl (new_rowN _ _ _ _ _) (by simp [OpV.vals, Value.oneCell']) (by omega) (by unfold maxLen; omega) (by omega) (by simp; omega) _ rfl ?_; intro g cap w11 hrow hg hat hgl2; have HROW := Lib.hid hrow; have HB11 := Lib.hid (((below_drewN (HBZ.out.alloc hzz _) nq).alloc (by simp; omega) _).grown hg (by simp; omega) (fun k hk => (HOWN3.out.lt k hk).1)); clear hrow hg hat)
                      go_roundw
                      case rel => exact ⟨(0) + 1, (by omega), (by go_num), (by rw [HUM.out]; simp [HK2.out]), (by rw [HNM.out, if_neg HK2.out, opVals_snoc, List.length_append]; exact HROW.out), HB11.out⟩
                      case measure => simp [intOf]; omega
                  · obtain ⟨q0, _⟩ := hrb.op m (by omega)
                    have hup := HUP.out m (by omega)
                    have q1 : ∀ ob, (wz.alloc ob).cell? ⟨gg, og + m * 5, none⟩ = some (.int .i64 (opn (allOf s) m).seq) := fun ob => alloc_old (o := ob) q0
                    have hdg : decide ((0 : Int) < (m : Int) + 1) = true := decide_eq_true (by omega)
                    have hw0 : IntKind.i64.wrap (m : Int) = m := by rw [IntKind.wrap_i64]; omega
                    have hb0 : (m : Int) < ((allOf s).length : Int) := by omega
                    generalize opn (allOf s) m = y0 at *
                    have hge : decide ((opn (allOf s) (m + 1)).seq ≤ y0.seq) = false := decide_eq_false (by omega)
                    clear hup
                    generalize opn (allOf s) (m + 1) = y at *
                    by_cases hk2 : y.kind = 2
                    · obtain ⟨f1, f2⟩ := HFM.out hk2
                      rw [f1]
                      have k1 : (y.kind == 2) = true := by simp [hk2]
                      have k2 : (y.seq != s.mark.seq) = false := by simp [f2]
                      have k3 : (y.time != s.mark.time) = false := by simp [f2]
                      have HK2 := Lib.hid hk2
                      clear f1 f2 hk2
                      go_wp2
                      go_quiet (fail)
                      go_wp2
                      go_roundw
                      case rel => exact ⟨(m + 1) + 1, (by omega), (by go_num), (by rw [HUM.out]; simp [HK2.out]), (by rw [HNM.out, if_pos HK2.out, List.append_nil]; exact own_keep HOWN3.out (fun g hg => (below_alloc wz _).block g (HOWN3.out.lt g hg).2)), below_drewN (HBZ.out.alloc hzz _) _⟩
                      case measure => simp [intOf]; omega
                    · have k1 : (y.kind == 2) = false := by simp [hk2]
                      have HK2 := Lib.hid hk2
                      obtain ⟨i0, hi0, hz0, hz9o, hz8⟩ := info_parts infoOp
                      clear hk2
                      go_wp2
                      go_quiet (fail)
                      go_wp2_with (at_builtin; refine wpList_append_lies _ rfl (.tmp 179) (.tmp 181) 40 rfl wq.heap.size 34 i0 (.agg #[.int .i64 0, .int .i64 0, .int .i64 0, .int .i64 0, .int .i64 0]) 5 40 Try.underlying40 hi0 hz0 hz9o hz8 rfl (by decide) _ (heldL s (m + 1)).length (opVals (heldL s (m + 1))) rfl (own_keep (HOWN3.out.alloc _) (fun g hg => (below_alloc _ _).block g ((HOWN3.out.alloc _).lt g hg).2)) ⟨wz.heap.size + 1, 0, none⟩ 1 1 y.vals rfl rfl (new_rowN _ _ _ _ _) (by simp [OpV.vals, Value.oneCell']) (by omega) (by unfold maxLen; omega) (by omega) (by simp; omega) _ rfl ?_; intro g cap w11 hrow hg hat hgl2; have HROW := Lib.hid hrow; have HB11 := Lib.hid (((below_drewN (HBZ.out.alloc hzz _) nq).alloc (by simp; omega) _).grown hg (by simp; omega) (fun k hk => (HOWN3.out.lt k hk).1)); clear hrow hg hat)
                      go_roundw
                      case rel => exact ⟨(m + 1) + 1, (by omega), (by go_num), (by rw [HUM.out]; simp [HK2.out]), (by rw [HNM.out, if_neg HK2.out, opVals_snoc, List.length_append]; exact HROW.out), HB11.out⟩
                      case measure => simp [intOf]; omega
                · have hne : n = (allOf s).length := by omega
                  subst hne
                  have HNN := Lib.hid HF.out.fine.held_end
                  rw [HF.out.fine.ok_end]
                  rw [HNN.out] at HOWN3 hown3
                  clear hbz hnm
                  obtain ⟨A3, c3, rfl⟩ := own_slice hown3
                  clear hown3
                  go_wp2_with (first
                    | (go_at_call 14; refine (held_b ((HS.out.below HBQ.out).below (HBZ.out))).mono ?_; rintro e w11 ⟨v, rfl, hv, hb11⟩; obtain ⟨A11, c11, rfl⟩ := own_slice hv; have HB11 := Lib.hid hb11; have HV11 := Lib.hid (own_sl hv); clear hv hb11)
                    | (go_at_call 16; refine (ops_same s.samples _ _ _ _ _ ((own_sl HOWN3.out).below HB11.out) HV11.out (by omega)).mono ?_; rintro e w12 ⟨rfl, hb12⟩; have HB12 := Lib.hid hb12; clear hb12))
                  go_ret
                  exact ⟨rfl, (((HB3.out.trans (HBEL.out.mono (by omega))).trans (HBQ.out.mono (by omega))).trans (HBZ.out.mono (by omega))).trans ((HB11.out.trans (HB12.out.mono HB11.out.size)).mono (by omega))⟩
  · have HOK := Lib.hid hok
    clear hok
    go_enter Try.func6, Try.ntmps6
    go_wp2_with (first
      | (go_at_call 9; refine (alive_any _).mono ?_; rintro e w1 ⟨rfl, hb1⟩; have HB1 := Lib.hid ((below_alloc w _).trans (hb1.mono (by simp))); replace HBOX := Lib.hid (HBOX.out.below hb1); have b0 : w1.cell? ⟨w.heap.size, 0, none⟩ = some (.slice x.rA x.rn x.rc) := HBOX.out 0 _ rfl; have b1 : w1.cell? ⟨w.heap.size, 1, none⟩ = some (.int .i64 x.shards) := HBOX.out 1 _ rfl; have b2 : w1.cell? ⟨w.heap.size, 2, none⟩ = some (.int .i64 x.hold) := HBOX.out 2 _ rfl; have b3 : w1.cell? ⟨w.heap.size, 3, none⟩ = some (.slice x.sA x.sn x.sc) := HBOX.out 3 _ rfl; clear hb1)
      | (go_at_call 10; refine (long_any' HX.out HB1.out).mono ?_; rintro e w2 ⟨q, rfl, hb2⟩; have hz := HB1.out.size; have HB2 := Lib.hid (HB1.out.trans (hb2.mono hz)); have HBOX2 := Lib.hid (HBOX.out.below hb2); clear b0 b1 b2 b3 HBOX hb2 HB1 hz; have b0 : w2.cell? ⟨w.heap.size, 0, none⟩ = some (.slice x.rA x.rn x.rc) := HBOX2.out 0 _ rfl; have b1 : w2.cell? ⟨w.heap.size, 1, none⟩ = some (.int .i64 x.shards) := HBOX2.out 1 _ rfl; have b2 : w2.cell? ⟨w.heap.size, 2, none⟩ = some (.int .i64 x.hold) := HBOX2.out 2 _ rfl; have b3 : w2.cell? ⟨w.heap.size, 3, none⟩ = some (.slice x.sA x.sn x.sc) := HBOX2.out 3 _ rfl)
      | (go_at_call 11; refine (new_case_bad HX.out.res HB2.out HOK.out).mono ?_; rintro e w3 ⟨rfl, rfl⟩))
    all_goals
      go_ret
      exact ⟨rfl, HB2.out⟩
end Go.Proofs.Ytomekiidgdkmiaa
