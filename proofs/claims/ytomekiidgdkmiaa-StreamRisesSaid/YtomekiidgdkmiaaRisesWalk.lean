/-
  StreamRises' walk.
-/
import Derived.Test.YtomekiidgdkmiaaCase14
namespace Go.Proofs.Ytomekiidgdkmiaa
open Go.RowKit
set_option linter.unusedVariables false
set_option linter.unusedSimpArgs false

structure RiseSt (s : StV) (x : CaseV) (m : Bool) (mt : Int) : Prop where
  hold : s.hold = x.hold
  res : s.res = x.res
  sh : s.shards = x.shards
  len : (s.samples.length : Int) ≤ x.hold
  seq : m = true → 1 ≤ s.mark.seq
  time : m = true → s.mark.time = mt
  none : m = false → s.mark = OpV.zero
theorem RiseSt.early {s : StV} {x : CaseV} {m : Bool} {mt : Int} (h : RiseSt s x m mt) (t : Int) : s.early t = (m && decide (t < mt)) := by
  unfold StV.early
  cases m
  · rw [h.none rfl]; rfl
  · rw [h.time rfl]
    have := h.seq rfl
    simp [show 0 < s.mark.seq by omega]

theorem RiseSt.sampled {s : StV} {x : CaseV} {m : Bool} {mt : Int} (h : RiseSt s x m mt) (o : OpV) (hl : ¬ s.hold ≤ s.samples.length) : RiseSt (sampled s o) x m mt :=
  ⟨h.hold, h.res, h.sh, by show ((s.samples ++ [o]).length : Int) ≤ _; rw [List.length_append]; have := h.hold; simp; omega, h.seq, h.time, h.none⟩
theorem RiseSt.marked {s : StV} {x : CaseV} {m : Bool} {mt : Int} (h : RiseSt s x m mt) (o : OpV) (ho : 1 ≤ o.seq) : RiseSt (marked s o) x true o.time :=
  ⟨h.hold, h.res, h.sh, h.len, fun _ => ho, fun _ => rfl, fun h => by cases h⟩
theorem RiseSt.cut {s : StV} {x : CaseV} {m : Bool} {mt : Int} (h : RiseSt s x m mt) (pl : List PlV) : RiseSt (cutSt s pl) x m mt :=
  ⟨h.hold, h.res, h.sh, by have := h.len; have h2 : (cutSt s pl).samples.length ≤ s.samples.length := List.length_filter_le _ _; omega, h.seq, h.time, h.none⟩
theorem next_cut {B a : Nat} {s : StV} {pl : List PlV} {w : World} (h : SB B w a (cutSt s pl)) :
    Calls Try.prog 19 #[.pointer (some ⟨a, 0, none⟩)] w fun e w' => e = .returned (.int .i64 s.next) ∧ w = w' := by
  obtain ⟨_, vr, vs, vp, h1, _⟩ := h
  exact next_any a (cutSt s pl) vr vs vp w h1
set_option maxHeartbeats 40000000 in
set_option maxRecDepth 100000 in
theorem rises_any (x : CaseV) (w : World) (h : x.okIn w) (hn : x.sn ≤ 1000000000000000000) :
    Calls Try.prog 5 #[.agg #[.slice x.rA x.rn x.rc, .int .i64 x.shards, .int .i64 x.hold, .slice x.sA x.sn x.sc]] w fun e w' => e = .returned (.bool true) ∧ Below w.heap.size w w' := by
  have HX := Lib.hid h
  have HBOX := Lib.hid (case_box w x 25)
  clear h
  by_cases hok : newOk x.res x.shards x.hold
  · have HOK := Lib.hid hok
    clear hok
    go_enter Try.func5, Try.ntmps5
    go_wp2_with (first
      | (go_at_call 9; refine (alive_any _).mono ?_; rintro e w1 ⟨rfl, hb1⟩; have HB1 := Lib.hid ((below_alloc w _).trans (hb1.mono (by simp))); replace HBOX := Lib.hid (HBOX.out.below hb1); have b0 : w1.cell? ⟨w.heap.size, 0, none⟩ = some (.slice x.rA x.rn x.rc) := HBOX.out 0 _ rfl; have b1 : w1.cell? ⟨w.heap.size, 1, none⟩ = some (.int .i64 x.shards) := HBOX.out 1 _ rfl; have b2 : w1.cell? ⟨w.heap.size, 2, none⟩ = some (.int .i64 x.hold) := HBOX.out 2 _ rfl; have b3 : w1.cell? ⟨w.heap.size, 3, none⟩ = some (.slice x.sA x.sn x.sc) := HBOX.out 3 _ rfl; clear hb1)
      | (go_at_call 10; refine (long_any' HX.out HB1.out).mono ?_; rintro e w2 ⟨q, rfl, hb2⟩; have hz := HB1.out.size; have HB2 := Lib.hid (HB1.out.trans (hb2.mono hz)); have HBOX2 := Lib.hid (HBOX.out.below hb2); clear b0 b1 b2 b3 HBOX hb2 HB1 hz; have b0 : w2.cell? ⟨w.heap.size, 0, none⟩ = some (.slice x.rA x.rn x.rc) := HBOX2.out 0 _ rfl; have b1 : w2.cell? ⟨w.heap.size, 1, none⟩ = some (.int .i64 x.shards) := HBOX2.out 1 _ rfl; have b2 : w2.cell? ⟨w.heap.size, 2, none⟩ = some (.int .i64 x.hold) := HBOX2.out 2 _ rfl; have b3 : w2.cell? ⟨w.heap.size, 3, none⟩ = some (.slice x.sA x.sn x.sc) := HBOX2.out 3 _ rfl)
      | (go_at_call 11; refine (new_case HX.out.res HB2.out HOK.out).mono ?_; rintro e w3 ⟨a, rfl, hs3, hb3⟩; have hz := HB2.out.size; have hz1 := cell_lt b0; have HB3 := Lib.hid (HB2.out.trans (hb3.mono hz)); have HBOX3 := Lib.hid (HBOX2.out.below hb3); clear b0 b1 b2 b3 HBOX2 hb3 HB2; have b3 : w3.cell? ⟨w.heap.size, 3, none⟩ = some (.slice x.sA x.sn x.sc) := HBOX3.out 3 _ rfl))
    · go_ret
      exact ⟨rfl, HB2.out⟩
    go_loopw [5, 6, 37] (fun mk md i wr => ∃ (k : Nat) (s : StV) (m : Bool) (mt : Int), k ≤ x.sn ∧ i = .int .i64 k ∧ mk = .int .i64 mt ∧ md = .bool m ∧ SB w2.heap.size wr a s ∧ RiseSt s x m mt ∧ s.next ≤ 1 + k ∧ Below w2.heap.size w3 wr) (fun _ _ i _ => x.sn - (intOf i).toNat)
    case atStart => exact ⟨0, newSt x.res x.shards x.hold (x.res.length * x.shards.toNat), false, 0, Nat.zero_le _, rfl, rfl, rfl, hs3, ⟨rfl, rfl, rfl, (by show (0 : Int) ≤ x.hold; have := HOK.out.2.2.2.2.2.1; omega), fun h => (by cases h), fun h => (by cases h), fun _ => rfl⟩, (by show (1 : Int) ≤ _; omega), Below.refl _ _⟩
    case round =>
      obtain ⟨k, s, m, mt, hk, rfl, rfl, rfl, hs, hf, hnx, hbel⟩ := hrel
      have hzw : w2.heap.size < wr.heap.size := by have := hs.lt; omega
      by_cases hlt : k < x.sn
      · obtain ⟨b, off, hA, c0, c1, c2, c3, c4, c5, c6, c7, c8, c9⟩ := sc_cells HX.out.script (HB3.out.trans (hbel.mono (by omega))) k hlt
        have HSC := Lib.hid (HX.out.script.ok _ (scn_mem (show k < x.script.length by have := HX.out.script.len; omega)))
        generalize scn x.script k = o at *
        have HA := Lib.hid hA
        have HS := Lib.hid hs
        have HF := Lib.hid hf
        have HNX := Lib.hid hnx
        have HBEL := Lib.hid hbel
        have hz := hbel.size
        have TOK1 := True.intro
        have TOK2 := True.intro
        have TOK3 := True.intro
        have TOK4 := True.intro
        have TOK5 := True.intro
        have bn1 : 1 ≤ s.next := HS.out.ok.n1
        have bn2 : s.next ≤ 2000000000000000000 := by have := HNX.out; omega
        clear hs hf hnx hbel hA
        rw [HA.out]
        by_cases k0 : o.kind = 0
        · have g0 : (o.kind == 0) = true := by simp [k0]
          have g01 : (o.kind == 1) = false := by simp [k0]
          have HK0 := Lib.hid k0
          clear k0
          cases he : s.early o.time
          · have HE := Lib.hid he
            have hme := HF.out.early o.time
            rw [he] at hme
            by_cases hfull : s.hold ≤ (s.samples.length : Int)
            · have HFULL := Lib.hid hfull
              clear he hfull
              cases m
              · clear hme
                go_wp2_with (first
                  | (go_at_call 19; clear TOK1; refine (next_b (HS.out.below (below_alloc _ _))).mono ?_; rintro e w4 ⟨rfl, hb4⟩; subst hb4)
                  | (go_at_call 12; clear TOK2; refine (sample_full_b o.time o.key o.val ((HS.out.below (below_alloc _ _)).below (below_alloc _ _)) HE.out HFULL.out).mono ?_; rintro e w5 ⟨rfl, hb5⟩; have HB5 := Lib.hid hb5; obtain ⟨x1, x2⟩ := two_boxes hb5; have y0 := blk_cell x1 0 _ rfl; have y1 := blk_cell x1 1 _ rfl; have z0 := blk_cell x2 0 _ rfl; have z1 := blk_cell x2 1 _ rfl; have z2 := blk_cell x2 2 _ rfl; have z3 := blk_cell x2 3 _ rfl; have z4 := blk_cell x2 4 _ rfl; have f0 := blk_frozen x2 0; have f1 := blk_frozen x2 1; have f2 := blk_frozen x2 2; have f3 := blk_frozen x2 3; have f4 := blk_frozen x2 4; have HB6 := Lib.hid ((((below_alloc wr _).alloc (by simp) _)).trans (hb5.mono (by simp; omega))); have X1 := Lib.hid x1; have X2 := Lib.hid x2; clear hb5 x1 x2)
                  | (go_at_call 19; refine (next_b (HS.out.below (box5 HB6.out (Nat.le_succ _)))).mono ?_; rintro e w4 ⟨rfl, hb4⟩; subst hb4))
                have hB := HS.out.lt
                have hq := box5 HB6.out (Nat.le_succ wr.heap.size) (v0 := .int .i64 0) (v1 := .int .i64 0) (v2 := .int .i64 0) (v3 := .int .i64 0) (v4 := .int .i64 0)
                go_roundw
                case rel => exact ⟨k + 1, s, false, mt, (by omega), (by go_num), rfl, rfl, HS.out.below hq, HF.out, (by have := HNX.out; omega), HBEL.out.trans (hq.mono (by omega))⟩
                case measure => simp [intOf]; omega
              · have g1 : decide (o.time < mt) = false := by simpa using hme.symm
                clear hme
                go_wp2_with (first
                  | (go_at_call 19; clear TOK1; refine (next_b (HS.out.below (below_alloc _ _))).mono ?_; rintro e w4 ⟨rfl, hb4⟩; subst hb4)
                  | (go_at_call 12; clear TOK2; refine (sample_full_b o.time o.key o.val ((HS.out.below (below_alloc _ _)).below (below_alloc _ _)) HE.out HFULL.out).mono ?_; rintro e w5 ⟨rfl, hb5⟩; have HB5 := Lib.hid hb5; obtain ⟨x1, x2⟩ := two_boxes hb5; have y0 := blk_cell x1 0 _ rfl; have y1 := blk_cell x1 1 _ rfl; have z0 := blk_cell x2 0 _ rfl; have z1 := blk_cell x2 1 _ rfl; have z2 := blk_cell x2 2 _ rfl; have z3 := blk_cell x2 3 _ rfl; have z4 := blk_cell x2 4 _ rfl; have f0 := blk_frozen x2 0; have f1 := blk_frozen x2 1; have f2 := blk_frozen x2 2; have f3 := blk_frozen x2 3; have f4 := blk_frozen x2 4; have HB6 := Lib.hid ((((below_alloc wr _).alloc (by simp) _)).trans (hb5.mono (by simp; omega))); have X1 := Lib.hid x1; have X2 := Lib.hid x2; clear hb5 x1 x2)
                  | (go_at_call 19; refine (next_b (HS.out.below (box5 HB6.out (Nat.le_succ _)))).mono ?_; rintro e w4 ⟨rfl, hb4⟩; subst hb4))
                have hB := HS.out.lt
                have hq := box5 HB6.out (Nat.le_succ wr.heap.size) (v0 := .int .i64 0) (v1 := .int .i64 0) (v2 := .int .i64 0) (v3 := .int .i64 0) (v4 := .int .i64 0)
                go_roundw
                case rel => exact ⟨k + 1, s, true, mt, (by omega), (by go_num), rfl, rfl, HS.out.below hq, HF.out, (by have := HNX.out; omega), HBEL.out.trans (hq.mono (by omega))⟩
                case measure => simp [intOf]; omega
            · have HFULL := Lib.hid hfull
              clear he hfull
              cases m
              · clear hme
                go_wp2_with (first
                  | (go_at_call 19; clear TOK1; refine (next_b (HS.out.below (below_alloc _ _))).mono ?_; rintro e w4 ⟨rfl, hb4⟩; subst hb4)
                  | (go_at_call 12; clear TOK2; refine (sample_ok_b o.time o.key o.val ((HS.out.below (below_alloc _ _)).below (below_alloc _ _)) HE.out (by have := HFULL.out; omega)).mono ?_; rintro e w5 ⟨rfl, hb5⟩; have HB5 := Lib.hid hb5; obtain ⟨x1, x2⟩ := two_boxes hb5; have y0 := blk_cell x1 0 _ rfl; have y1 := blk_cell x1 1 _ rfl; have z0 := blk_cell x2 0 _ rfl; have z1 := blk_cell x2 1 _ rfl; have z2 := blk_cell x2 2 _ rfl; have z3 := blk_cell x2 3 _ rfl; have z4 := blk_cell x2 4 _ rfl; have f0 := blk_frozen x2 0; have f1 := blk_frozen x2 1; have f2 := blk_frozen x2 2; have f3 := blk_frozen x2 3; have f4 := blk_frozen x2 4; have HB6 := Lib.hid ((((below_alloc wr _).alloc (by simp) _)).trans (hb5.mono (by simp; omega))); have X1 := Lib.hid x1; have X2 := Lib.hid x2; clear hb5 x1 x2)
                  | (go_at_call 13; clear TOK3; refine (put_sample_f (F := fun i => w2.heap.size ≤ i ∧ i ≠ wr.heap.size ∧ i ≠ wr.heap.size + 1) s.next o.time o.key o.val (HS.out.to (box5 HB6.out (Nat.le_succ _)) (fun i h1 h2 => ⟨h2, by omega, by omega⟩)) (fun i hi => by rw [box5_size] at hi; have h5 := HB5.out.size; simp at h5; have h6 := HS.out.lt; exact ⟨by omega, by omega, by omega⟩) rfl HE.out HSC.out.time (by have := HNX.out; omega) (by have := HF.out.len; have := HOK.out.2.2.2.2.2.2; omega)).mono ?_; rintro e w6 ⟨rfl, hs6, hk6⟩; have HS6 := Lib.hid hs6; have hq := box5 HB6.out (Nat.le_succ wr.heap.size) (v0 := .int .i64 s.next) (v1 := .int .i64 1) (v2 := .int .i64 o.time) (v3 := .int .i64 o.key) (v4 := .int .i64 o.val); have hlt9 := HS.out.lt; have h5 := HB5.out.size; simp at h5; have X3 := (hk6.block (wr.heap.size + 1) (by rw [box5_size]; omega) (fun h => h.2.2 rfl)).trans (box5_blk X2.out); have X4 := (hk6.block wr.heap.size (by rw [box5_size]; omega) (fun h => h.2.1 rfl)).trans ((box5_other (by omega)).trans X1.out); have HK6 := Lib.hid hk6; have HQ := Lib.hid hq; clear z0 z1 z2 z3 z4 f0 f1 f2 f3 f4 y0 y1 hs6 hk6 hq; have y0 := blk_cell X4 0 _ rfl; have y1 := blk_cell X4 1 _ rfl; have z0 := blk_cell X3 0 _ rfl; have z1 := blk_cell X3 1 _ rfl; have z2 := blk_cell X3 2 _ rfl; have z3 := blk_cell X3 3 _ rfl; have z4 := blk_cell X3 4 _ rfl; clear X3 X4)
                  | (go_at_call 19; clear TOK4; refine (next_sampled HS6.out).mono ?_; rintro e w4 ⟨rfl, hb4⟩; subst hb4)
                  | (go_at_call 13; clear TOK5; refine (put_seq_f s.next 1 o.time o.key o.val HS6.out (by show s.next ≠ s.next + 1; omega)).mono ?_; rintro e w7 ⟨rfl, hb7⟩; have HB7 := Lib.hid hb7; have p0 := old_cell hb7 y0 (cell_lt y0); have p1 := old_cell hb7 y1 (cell_lt y1); clear hb7 y0 y1)
                  | (go_at_call 21; refine (last_none_f (HS6.out.below HB7.out) (by show s.mark.seq = 0; rw [HF.out.none rfl]; rfl)).mono ?_; rintro e w8 ⟨rfl, hb8⟩; have HB8 := Lib.hid hb8; clear hb8))
                go_roundw
                case rel =>
                  have hz8 := (HS6.out.up (fun i h => h.1) : SB w2.heap.size w6 a (sampled s ⟨s.next, 1, o.time, o.key, o.val⟩)).below (HB7.out.trans (HB8.out.mono HB7.out.size))
                  have hB9 := HS.out.lt
                  have hb9 : Below w2.heap.size w3 w8 := ((HBEL.out.trans (HQ.out.mono (by omega))).trans (HK6.out.below (by rw [box5_size]; omega) (fun i h => h.1))).trans ((HB7.out.trans (HB8.out.mono HB7.out.size)).mono (by have := HK6.out.size; rw [box5_size] at this; omega))
                  exact ⟨k + 1, _, false, mt, (by omega), (by go_num), rfl, rfl, hz8, HF.out.sampled _ (by have := HFULL.out; omega), (by show s.next + 1 ≤ _; have := HNX.out; omega), hb9⟩
                case measure => simp [intOf]; omega
              · have g1 : decide (o.time < mt) = false := by simpa using hme.symm
                clear hme
                go_wp2_with (first
                  | (go_at_call 19; clear TOK1; refine (next_b (HS.out.below (below_alloc _ _))).mono ?_; rintro e w4 ⟨rfl, hb4⟩; subst hb4)
                  | (go_at_call 12; clear TOK2; refine (sample_ok_b o.time o.key o.val ((HS.out.below (below_alloc _ _)).below (below_alloc _ _)) HE.out (by have := HFULL.out; omega)).mono ?_; rintro e w5 ⟨rfl, hb5⟩; have HB5 := Lib.hid hb5; obtain ⟨x1, x2⟩ := two_boxes hb5; have y0 := blk_cell x1 0 _ rfl; have y1 := blk_cell x1 1 _ rfl; have z0 := blk_cell x2 0 _ rfl; have z1 := blk_cell x2 1 _ rfl; have z2 := blk_cell x2 2 _ rfl; have z3 := blk_cell x2 3 _ rfl; have z4 := blk_cell x2 4 _ rfl; have f0 := blk_frozen x2 0; have f1 := blk_frozen x2 1; have f2 := blk_frozen x2 2; have f3 := blk_frozen x2 3; have f4 := blk_frozen x2 4; have HB6 := Lib.hid ((((below_alloc wr _).alloc (by simp) _)).trans (hb5.mono (by simp; omega))); have X1 := Lib.hid x1; have X2 := Lib.hid x2; clear hb5 x1 x2)
                  | (go_at_call 13; clear TOK3; refine (put_sample_f (F := fun i => w2.heap.size ≤ i ∧ i ≠ wr.heap.size ∧ i ≠ wr.heap.size + 1) s.next o.time o.key o.val (HS.out.to (box5 HB6.out (Nat.le_succ _)) (fun i h1 h2 => ⟨h2, by omega, by omega⟩)) (fun i hi => by rw [box5_size] at hi; have h5 := HB5.out.size; simp at h5; have h6 := HS.out.lt; exact ⟨by omega, by omega, by omega⟩) rfl HE.out HSC.out.time (by have := HNX.out; omega) (by have := HF.out.len; have := HOK.out.2.2.2.2.2.2; omega)).mono ?_; rintro e w6 ⟨rfl, hs6, hk6⟩; have HS6 := Lib.hid hs6; have hq := box5 HB6.out (Nat.le_succ wr.heap.size) (v0 := .int .i64 s.next) (v1 := .int .i64 1) (v2 := .int .i64 o.time) (v3 := .int .i64 o.key) (v4 := .int .i64 o.val); have hlt9 := HS.out.lt; have h5 := HB5.out.size; simp at h5; have X3 := (hk6.block (wr.heap.size + 1) (by rw [box5_size]; omega) (fun h => h.2.2 rfl)).trans (box5_blk X2.out); have X4 := (hk6.block wr.heap.size (by rw [box5_size]; omega) (fun h => h.2.1 rfl)).trans ((box5_other (by omega)).trans X1.out); have HK6 := Lib.hid hk6; have HQ := Lib.hid hq; clear z0 z1 z2 z3 z4 f0 f1 f2 f3 f4 y0 y1 hs6 hk6 hq; have y0 := blk_cell X4 0 _ rfl; have y1 := blk_cell X4 1 _ rfl; have z0 := blk_cell X3 0 _ rfl; have z1 := blk_cell X3 1 _ rfl; have z2 := blk_cell X3 2 _ rfl; have z3 := blk_cell X3 3 _ rfl; have z4 := blk_cell X3 4 _ rfl; clear X3 X4)
                  | (go_at_call 19; clear TOK4; refine (next_sampled HS6.out).mono ?_; rintro e w4 ⟨rfl, hb4⟩; subst hb4)
                  | (go_at_call 13; clear TOK5; refine (put_seq_f s.next 1 o.time o.key o.val HS6.out (by show s.next ≠ s.next + 1; omega)).mono ?_; rintro e w7 ⟨rfl, hb7⟩; have HB7 := Lib.hid hb7; have p0 := old_cell hb7 y0 (cell_lt y0); have p1 := old_cell hb7 y1 (cell_lt y1); clear hb7 y0 y1)
                  | (go_at_call 21; refine (last_some_f s.mark.seq mt (HS6.out.below HB7.out) (by show s.mark.seq ≠ 0; have := HF.out.seq rfl; omega) rfl (HF.out.time rfl)).mono ?_; rintro e w8 ⟨rfl, hb8⟩; have HB8 := Lib.hid hb8; clear hb8))
                go_roundw
                case rel =>
                  have hz8 := (HS6.out.up (fun i h => h.1) : SB w2.heap.size w6 a (sampled s ⟨s.next, 1, o.time, o.key, o.val⟩)).below (HB7.out.trans (HB8.out.mono HB7.out.size))
                  have hB9 := HS.out.lt
                  have hb9 : Below w2.heap.size w3 w8 := ((HBEL.out.trans (HQ.out.mono (by omega))).trans (HK6.out.below (by rw [box5_size]; omega) (fun i h => h.1))).trans ((HB7.out.trans (HB8.out.mono HB7.out.size)).mono (by have := HK6.out.size; rw [box5_size] at this; omega))
                  exact ⟨k + 1, _, true, mt, (by omega), (by go_num), rfl, rfl, hz8, HF.out.sampled _ (by have := HFULL.out; omega), (by show s.next + 1 ≤ _; have := HNX.out; omega), hb9⟩
                case measure => simp [intOf]; omega
          · have HE := Lib.hid he
            have hme := HF.out.early o.time
            rw [he] at hme
            have hm : m = true := by cases m <;> simp at hme ⊢
            subst hm
            have g1 : decide (o.time < mt) = true := by simpa using hme.symm
            clear he hme
            go_wp2_with (first
              | (go_at_call 19; clear TOK1; refine (next_b (HS.out.below (below_alloc _ _))).mono ?_; rintro e w4 ⟨rfl, hb4⟩; subst hb4)
              | (go_at_call 12; clear TOK2; refine (sample_late_b o.time o.key o.val ((HS.out.below (below_alloc _ _)).below (below_alloc _ _)) HE.out).mono ?_; rintro e w5 ⟨rfl, hb5⟩; have HB5 := Lib.hid hb5; obtain ⟨x1, x2⟩ := two_boxes hb5; have y0 := blk_cell x1 0 _ rfl; have y1 := blk_cell x1 1 _ rfl; have z0 := blk_cell x2 0 _ rfl; have z1 := blk_cell x2 1 _ rfl; have z2 := blk_cell x2 2 _ rfl; have z3 := blk_cell x2 3 _ rfl; have z4 := blk_cell x2 4 _ rfl; have f0 := blk_frozen x2 0; have f1 := blk_frozen x2 1; have f2 := blk_frozen x2 2; have f3 := blk_frozen x2 3; have f4 := blk_frozen x2 4; have HB6 := Lib.hid ((((below_alloc wr _).alloc (by simp) _)).trans (hb5.mono (by simp; omega))); have X1 := Lib.hid x1; have X2 := Lib.hid x2; clear hb5 x1 x2)
              | (go_at_call 19; refine (next_b (HS.out.below (box5 HB6.out (Nat.le_succ _)))).mono ?_; rintro e w4 ⟨rfl, hb4⟩; subst hb4))
            have hB := HS.out.lt
            have hq := box5 HB6.out (Nat.le_succ wr.heap.size) (v0 := .int .i64 0) (v1 := .int .i64 0) (v2 := .int .i64 0) (v3 := .int .i64 0) (v4 := .int .i64 0)
            go_roundw
            case rel => exact ⟨k + 1, s, true, mt, (by omega), (by go_num), rfl, rfl, HS.out.below hq, HF.out, (by have := HNX.out; omega), HBEL.out.trans (hq.mono (by omega))⟩
            case measure => simp [intOf]; omega
        · by_cases k1 : o.kind = 1
          · have g0 : (o.kind == 0) = false := by simp [k0]
            have g01 : (o.kind == 1) = true := by simp [k1]
            have HK0 := Lib.hid k1
            clear k0 k1
            cases he : s.early o.time
            · have HE := Lib.hid he
              have hme := HF.out.early o.time
              rw [he] at hme
              clear he
              cases m
              · clear hme
                go_wp2_with (first
                  | (go_at_call 19; clear TOK1; refine (next_b (HS.out.below (below_alloc _ _))).mono ?_; rintro e w4 ⟨rfl, hb4⟩; subst hb4)
                  | (go_at_call 20; clear TOK2; refine (mark_ok_b o.time ((HS.out.below (below_alloc _ _)).below (below_alloc _ _)) HE.out).mono ?_; rintro e w5 ⟨rfl, hb5⟩; have HB5 := Lib.hid hb5; obtain ⟨x1, x2⟩ := two_boxes hb5; have y0 := blk_cell x1 0 _ rfl; have y1 := blk_cell x1 1 _ rfl; have z0 := blk_cell x2 0 _ rfl; have z1 := blk_cell x2 1 _ rfl; have z2 := blk_cell x2 2 _ rfl; have z3 := blk_cell x2 3 _ rfl; have z4 := blk_cell x2 4 _ rfl; have f0 := blk_frozen x2 0; have f1 := blk_frozen x2 1; have f2 := blk_frozen x2 2; have f3 := blk_frozen x2 3; have f4 := blk_frozen x2 4; have HB6 := Lib.hid ((((below_alloc wr _).alloc (by simp) _)).trans (hb5.mono (by simp; omega))); have X1 := Lib.hid x1; have X2 := Lib.hid x2; clear hb5 x1 x2))
                go_quiet (fail)
                generalize hW : World.drewN _ nq = W at *
                have E1 : Hid (Below wr.heap.size wr W) := by rw [← hW]; exact below_drewN (box5 HB6.out (Nat.le_succ _)) _
                have E2 : Hid (W.heap.size = w5.heap.size) := by rw [← hW]; exact box5_size
                have E3 : Hid (W.heap[wr.heap.size + 1]? = some (.cells #[.int .i64 s.next, .int .i64 2, .int .i64 o.time, .int .i64 0, .int .i64 0] 34 (0, 0))) := by rw [← hW]; exact box5_blk X2.out
                have E4 : Hid (W.heap[wr.heap.size]? = some (.cells #[.int .i64 o.kind, .int .i64 o.time, .int .i64 o.key, .int .i64 o.val, .int .i64 o.op.seq, .int .i64 o.op.kind, .int .i64 o.op.time, .int .i64 o.op.key, .int .i64 o.op.val, .slice o.pA o.pn o.pc] 36 (0, 0))) := by rw [← hW]; exact (box5_other (by omega)).trans X1.out
                clear hW z0 z1 z2 z3 z4 f0 f1 f2 f3 f4 y0 y1 X1 X2
                have y0 := blk_cell E4.out 0 _ rfl
                have y1 := blk_cell E4.out 1 _ rfl
                have z0 := blk_cell E3.out 0 _ rfl
                have z1 := blk_cell E3.out 1 _ rfl
                have z2 := blk_cell E3.out 2 _ rfl
                have z3 := blk_cell E3.out 3 _ rfl
                have z4 := blk_cell E3.out 4 _ rfl
                go_wp2_with (first
                  | (go_at_call 13; clear TOK3; refine (put_mark_f (F := fun i => w2.heap.size ≤ i ∧ i ≠ wr.heap.size ∧ i ≠ wr.heap.size + 1) s.next o.time (HS.out.to E1.out (fun i h1 h2 => ⟨h2, by omega, by omega⟩)) rfl HE.out HSC.out.time (by have := HNX.out; omega)).mono ?_; rintro e w6 ⟨rfl, hs6, hk6⟩; have HS6 := Lib.hid hs6; have hlt9 := HS.out.lt; have h4 := E2.out; have h5 := HB5.out.size; simp at h5; have X3 := (hk6.block (wr.heap.size + 1) (by omega) (fun h => h.2.2 rfl)).trans E3.out; have X4 := (hk6.block wr.heap.size (by omega) (fun h => h.2.1 rfl)).trans E4.out; have HK6 := Lib.hid hk6; clear h4 z0 z1 z2 z3 z4 y0 y1 hs6 hk6; have y0 := blk_cell X4 0 _ rfl; have y1 := blk_cell X4 1 _ rfl; have z0 := blk_cell X3 0 _ rfl; have z1 := blk_cell X3 1 _ rfl; have z2 := blk_cell X3 2 _ rfl; have z3 := blk_cell X3 3 _ rfl; have z4 := blk_cell X3 4 _ rfl; clear X3 X4)
                  | (go_at_call 19; clear TOK4; refine (next_marked HS6.out).mono ?_; rintro e w4 ⟨rfl, hb4⟩; subst hb4)
                  | (go_at_call 13; clear TOK5; refine (put_seq_f s.next 2 o.time 0 0 HS6.out (by show s.next ≠ s.next + 1; omega)).mono ?_; rintro e w7 ⟨rfl, hb7⟩; have HB7 := Lib.hid hb7; have p0 := old_cell hb7 y0 (cell_lt y0); have p1 := old_cell hb7 y1 (cell_lt y1); clear hb7 y0 y1)
                  | (go_at_call 21; refine (last_some_f s.next o.time (HS6.out.below HB7.out) (by show s.next ≠ 0; omega) rfl rfl).mono ?_; rintro e w8 ⟨rfl, hb8⟩; have HB8 := Lib.hid hb8; clear hb8))
                go_roundw
                case rel =>
                  have hz8 := (HS6.out.up (fun i h => h.1) : SB w2.heap.size w6 a (marked s ⟨s.next, 2, o.time, 0, 0⟩)).below (HB7.out.trans (HB8.out.mono HB7.out.size))
                  have hB9 := HS.out.lt
                  have hb9 : Below w2.heap.size w3 w8 := ((HBEL.out.trans (E1.out.mono (by omega))).trans (HK6.out.below (by rw [E2.out]; omega) (fun i h => h.1))).trans ((HB7.out.trans (HB8.out.mono HB7.out.size)).mono (by have := HK6.out.size; rw [E2.out] at this; omega))
                  exact ⟨k + 1, _, true, o.time, (by omega), (by go_num), rfl, rfl, hz8, HF.out.marked ⟨s.next, 2, o.time, 0, 0⟩ bn1, (by show s.next + 1 ≤ _; have := HNX.out; omega), hb9⟩
                case measure => simp [intOf]; omega
              · have g1 : decide (o.time < mt) = false := by simpa using hme.symm
                clear hme
                go_wp2_with (first
                  | (go_at_call 19; clear TOK1; refine (next_b (HS.out.below (below_alloc _ _))).mono ?_; rintro e w4 ⟨rfl, hb4⟩; subst hb4)
                  | (go_at_call 20; clear TOK2; refine (mark_ok_b o.time ((HS.out.below (below_alloc _ _)).below (below_alloc _ _)) HE.out).mono ?_; rintro e w5 ⟨rfl, hb5⟩; have HB5 := Lib.hid hb5; obtain ⟨x1, x2⟩ := two_boxes hb5; have y0 := blk_cell x1 0 _ rfl; have y1 := blk_cell x1 1 _ rfl; have z0 := blk_cell x2 0 _ rfl; have z1 := blk_cell x2 1 _ rfl; have z2 := blk_cell x2 2 _ rfl; have z3 := blk_cell x2 3 _ rfl; have z4 := blk_cell x2 4 _ rfl; have f0 := blk_frozen x2 0; have f1 := blk_frozen x2 1; have f2 := blk_frozen x2 2; have f3 := blk_frozen x2 3; have f4 := blk_frozen x2 4; have HB6 := Lib.hid ((((below_alloc wr _).alloc (by simp) _)).trans (hb5.mono (by simp; omega))); have X1 := Lib.hid x1; have X2 := Lib.hid x2; clear hb5 x1 x2))
                go_quiet (fail)
                generalize hW : World.drewN _ nq = W at *
                have E1 : Hid (Below wr.heap.size wr W) := by rw [← hW]; exact below_drewN (box5 HB6.out (Nat.le_succ _)) _
                have E2 : Hid (W.heap.size = w5.heap.size) := by rw [← hW]; exact box5_size
                have E3 : Hid (W.heap[wr.heap.size + 1]? = some (.cells #[.int .i64 s.next, .int .i64 2, .int .i64 o.time, .int .i64 0, .int .i64 0] 34 (0, 0))) := by rw [← hW]; exact box5_blk X2.out
                have E4 : Hid (W.heap[wr.heap.size]? = some (.cells #[.int .i64 o.kind, .int .i64 o.time, .int .i64 o.key, .int .i64 o.val, .int .i64 o.op.seq, .int .i64 o.op.kind, .int .i64 o.op.time, .int .i64 o.op.key, .int .i64 o.op.val, .slice o.pA o.pn o.pc] 36 (0, 0))) := by rw [← hW]; exact (box5_other (by omega)).trans X1.out
                clear hW z0 z1 z2 z3 z4 f0 f1 f2 f3 f4 y0 y1 X1 X2
                have y0 := blk_cell E4.out 0 _ rfl
                have y1 := blk_cell E4.out 1 _ rfl
                have z0 := blk_cell E3.out 0 _ rfl
                have z1 := blk_cell E3.out 1 _ rfl
                have z2 := blk_cell E3.out 2 _ rfl
                have z3 := blk_cell E3.out 3 _ rfl
                have z4 := blk_cell E3.out 4 _ rfl
                go_wp2_with (first
                  | (go_at_call 13; clear TOK3; refine (put_mark_f (F := fun i => w2.heap.size ≤ i ∧ i ≠ wr.heap.size ∧ i ≠ wr.heap.size + 1) s.next o.time (HS.out.to E1.out (fun i h1 h2 => ⟨h2, by omega, by omega⟩)) rfl HE.out HSC.out.time (by have := HNX.out; omega)).mono ?_; rintro e w6 ⟨rfl, hs6, hk6⟩; have HS6 := Lib.hid hs6; have hlt9 := HS.out.lt; have h4 := E2.out; have h5 := HB5.out.size; simp at h5; have X3 := (hk6.block (wr.heap.size + 1) (by omega) (fun h => h.2.2 rfl)).trans E3.out; have X4 := (hk6.block wr.heap.size (by omega) (fun h => h.2.1 rfl)).trans E4.out; have HK6 := Lib.hid hk6; clear h4 z0 z1 z2 z3 z4 y0 y1 hs6 hk6; have y0 := blk_cell X4 0 _ rfl; have y1 := blk_cell X4 1 _ rfl; have z0 := blk_cell X3 0 _ rfl; have z1 := blk_cell X3 1 _ rfl; have z2 := blk_cell X3 2 _ rfl; have z3 := blk_cell X3 3 _ rfl; have z4 := blk_cell X3 4 _ rfl; clear X3 X4)
                  | (go_at_call 19; clear TOK4; refine (next_marked HS6.out).mono ?_; rintro e w4 ⟨rfl, hb4⟩; subst hb4)
                  | (go_at_call 13; clear TOK5; refine (put_seq_f s.next 2 o.time 0 0 HS6.out (by show s.next ≠ s.next + 1; omega)).mono ?_; rintro e w7 ⟨rfl, hb7⟩; have HB7 := Lib.hid hb7; have p0 := old_cell hb7 y0 (cell_lt y0); have p1 := old_cell hb7 y1 (cell_lt y1); clear hb7 y0 y1)
                  | (go_at_call 21; refine (last_some_f s.next o.time (HS6.out.below HB7.out) (by show s.next ≠ 0; omega) rfl rfl).mono ?_; rintro e w8 ⟨rfl, hb8⟩; have HB8 := Lib.hid hb8; clear hb8))
                go_roundw
                case rel =>
                  have hz8 := (HS6.out.up (fun i h => h.1) : SB w2.heap.size w6 a (marked s ⟨s.next, 2, o.time, 0, 0⟩)).below (HB7.out.trans (HB8.out.mono HB7.out.size))
                  have hB9 := HS.out.lt
                  have hb9 : Below w2.heap.size w3 w8 := ((HBEL.out.trans (E1.out.mono (by omega))).trans (HK6.out.below (by rw [E2.out]; omega) (fun i h => h.1))).trans ((HB7.out.trans (HB8.out.mono HB7.out.size)).mono (by have := HK6.out.size; rw [E2.out] at this; omega))
                  exact ⟨k + 1, _, true, o.time, (by omega), (by go_num), rfl, rfl, hz8, HF.out.marked ⟨s.next, 2, o.time, 0, 0⟩ bn1, (by show s.next + 1 ≤ _; have := HNX.out; omega), hb9⟩
                case measure => simp [intOf]; omega
            · have HE := Lib.hid he
              have hme := HF.out.early o.time
              rw [he] at hme
              have hm : m = true := by cases m <;> simp at hme ⊢
              subst hm
              have g1 : decide (o.time < mt) = true := by simpa using hme.symm
              clear he hme
              go_wp2_with (first
                | (go_at_call 19; clear TOK1; refine (next_b (HS.out.below (below_alloc _ _))).mono ?_; rintro e w4 ⟨rfl, hb4⟩; subst hb4)
                | (go_at_call 20; clear TOK2; refine (mark_back_b o.time ((HS.out.below (below_alloc _ _)).below (below_alloc _ _)) HE.out).mono ?_; rintro e w5 ⟨rfl, hb5⟩; have HB5 := Lib.hid hb5; obtain ⟨x1, x2⟩ := two_boxes hb5; have y0 := blk_cell x1 0 _ rfl; have y1 := blk_cell x1 1 _ rfl; have z0 := blk_cell x2 0 _ rfl; have z1 := blk_cell x2 1 _ rfl; have z2 := blk_cell x2 2 _ rfl; have z3 := blk_cell x2 3 _ rfl; have z4 := blk_cell x2 4 _ rfl; have f0 := blk_frozen x2 0; have f1 := blk_frozen x2 1; have f2 := blk_frozen x2 2; have f3 := blk_frozen x2 3; have f4 := blk_frozen x2 4; have HB6 := Lib.hid ((((below_alloc wr _).alloc (by simp) _)).trans (hb5.mono (by simp; omega))); have X1 := Lib.hid x1; have X2 := Lib.hid x2; clear hb5 x1 x2))
              go_quiet (fail)
              go_wp2_with (go_at_call 19; refine (next_b (HS.out.below (below_drewN (box5 HB6.out (Nat.le_succ _)) _))).mono ?_; rintro e w4 ⟨rfl, hb4⟩; subst hb4)
              have hB := HS.out.lt
              have hq := below_drewN (box5 HB6.out (Nat.le_succ wr.heap.size) (v0 := .int .i64 0) (v1 := .int .i64 0) (v2 := .int .i64 0) (v3 := .int .i64 0) (v4 := .int .i64 0)) nq
              go_roundw
              case rel => exact ⟨k + 1, s, true, mt, (by omega), (by go_num), rfl, rfl, HS.out.below hq, HF.out, (by have := HNX.out; omega), HBEL.out.trans (hq.mono (by omega))⟩
              case measure => simp [intOf]; omega
          · have g0 : (o.kind == 0) = false := by simp [k0]
            have g01 : (o.kind == 1) = false := by simp [k1]
            clear k0 k1
            by_cases k3 : o.kind = 3
            · have g3 : (o.kind == 3) = true := by simp [k3]
              clear k3
              have hpl := HSC.out.pls
              by_cases hn3 : o.pn = s.res.length * s.shards.toNat
              · obtain ⟨pb, po, hpA, hprow⟩ : ∃ pb po, o.pA = some ⟨pb, po, none⟩ ∧ pb < w.heap.size ∧ RowAt w pb po (plVals o.pls) := by
                  have h1 := HS.out.ok.r1
                  have h2 := HS.out.ok.s1
                  have h3 : 1 * 1 ≤ s.res.length * s.shards.toNat := Nat.mul_le_mul h1 (by omega)
                  have h4 := hpl.len
                  exact sl_row (hpl.row (by omega)) (by omega)
                have HPR := Lib.hid hprow
                have HPA := Lib.hid hpA
                have HPL := Lib.hid hpl.len
                have HN3 := Lib.hid hn3
                have hz9 := HB3.out.size
                clear hprow hpA hpl hn3
                rw [HPA.out] at c9
                have hzz : w.heap.size ≤ w2.heap.size := by omega
                go_wp2_with (first
                  | (go_at_call 19; clear TOK1; refine (next_b (HS.out.below (below_alloc _ _))).mono ?_; rintro e w4 ⟨rfl, hb4⟩; subst hb4)
                  | (go_at_call 15; rw [← HPL.out]; refine (cut_ok_b (w0 := wr) o.pls pb po o.pc HS.out ((below_alloc _ _).alloc (by simp) _) (by rw [HPL.out]; exact HN3.out) (fun j u hj => old_cell (((HB3.out.trans (HBEL.out.mono (by omega))).alloc (by omega) _).alloc (by simp; omega) _) (HPR.out.2 j u hj) HPR.out.1) (.inr (by have := HPR.out.1; omega))).mono ?_; rintro e w5 ⟨rfl, hs5, hb5⟩; have HS5 := Lib.hid hs5; have HB5 := Lib.hid hb5; clear hs5 hb5)
                  | (go_at_call 19; refine (next_cut HS5.out).mono ?_; rintro e w4 ⟨rfl, hb4⟩; subst hb4))
                go_roundw
                case rel => exact ⟨k + 1, _, m, mt, (by omega), (by go_num), rfl, rfl, HS5.out, HF.out.cut o.pls, (by show s.next ≤ _; have := HNX.out; omega), ((HBEL.out.alloc (by omega) _).alloc (by simp; omega) _).trans HB5.out⟩
                case measure => simp [intOf]; omega
              · have hm := hpl.max
                unfold maxLen at hm
                clear hpl
                go_wp2_with (first
                  | (go_at_call 19; clear TOK1; refine (next_b (HS.out.below (below_alloc _ _))).mono ?_; rintro e w4 ⟨rfl, hb4⟩; subst hb4)
                  | (go_at_call 15; refine (cut_bad_b o.pA o.pn o.pc ((HS.out.below (below_alloc _ _)).below (below_alloc _ _)) hn3 (by omega)).mono ?_; rintro e w5 ⟨rfl, hb5⟩; have HB5 := Lib.hid hb5; clear hb5)
                  | (go_at_call 19; refine (next_b (((HS.out.below (below_alloc _ _)).below (below_alloc _ _)).below HB5.out)).mono ?_; rintro e w4 ⟨rfl, hb4⟩; subst hb4))
                go_roundw
                case rel => exact ⟨k + 1, s, m, mt, (by omega), (by go_num), rfl, rfl, ((HS.out.below (below_alloc _ _)).below (below_alloc _ _)).below HB5.out, HF.out, (by have := HNX.out; omega), ((HBEL.out.alloc (by omega) _).alloc (by simp; omega) _).trans (HB5.out.mono (by simp; omega))⟩
                case measure => simp [intOf]; omega
            · have g3 : (o.kind == 3) = false := by simp [k3]
              clear k3
              go_wp2_with (first
                | (go_at_call 19; clear TOK1; refine (next_b (HS.out.below (below_alloc _ _))).mono ?_; rintro e w4 ⟨rfl, hb4⟩; subst hb4)
                | (go_at_call 19; refine (next_b ((HS.out.below (below_alloc _ _)).below (below_alloc _ _))).mono ?_; rintro e w4 ⟨rfl, hb4⟩; subst hb4))
              go_roundw
              case rel => exact ⟨k + 1, s, m, mt, (by omega), (by go_num), rfl, rfl, (HS.out.below (below_alloc _ _)).below (below_alloc _ _), HF.out, (by have := HNX.out; omega), (HBEL.out.alloc (by omega) _).alloc (by simp; omega) _⟩
              case measure => simp [intOf]; omega
      · have HS := Lib.hid hs
        have HF := Lib.hid hf
        have HBEL := Lib.hid hbel
        have b2 : wr.cell? ⟨w.heap.size, 2, none⟩ = some (.int .i64 x.hold) := old_cell hbel (HBOX3.out 2 _ rfl) (by omega)
        have hfl := hf.len
        have hsl := hs.ok.sl
        clear hs hf hbel hnx
        have g5 : decide ((s.samples.length : Int) ≤ x.hold) = true := by simpa using hfl
        go_wp2
        go_region_held3 (fun w' => w'.cell? ⟨w.heap.size, 2, none⟩ = some (.int .i64 x.hold)) (first | exact ‹_› | go_keep) ((go_at_call 14; refine (held_b (HS.out.below (Below.drew (Below.refl _ wr)))).mono ?_; rintro e w5 ⟨v, rfl, hv, hb5⟩; obtain ⟨A5, c5, rfl⟩ := own_slice hv; have HB5 := Lib.hid (undrew2 hb5); have b2' := old_cell (undrew2 hb5) b2 (cell_lt b2); clear hv hb5))
        go_wp2
        go_ret
        exact ⟨rfl, (HB3.out.trans (HBEL.out.mono (by omega))).trans (HB5.out.mono (by omega))⟩
  · have HOK := Lib.hid hok
    clear hok
    go_enter Try.func5, Try.ntmps5
    go_wp2_with (first
      | (go_at_call 9; refine (alive_any _).mono ?_; rintro e w1 ⟨rfl, hb1⟩; have HB1 := Lib.hid ((below_alloc w _).trans (hb1.mono (by simp))); replace HBOX := Lib.hid (HBOX.out.below hb1); have b0 : w1.cell? ⟨w.heap.size, 0, none⟩ = some (.slice x.rA x.rn x.rc) := HBOX.out 0 _ rfl; have b1 : w1.cell? ⟨w.heap.size, 1, none⟩ = some (.int .i64 x.shards) := HBOX.out 1 _ rfl; have b2 : w1.cell? ⟨w.heap.size, 2, none⟩ = some (.int .i64 x.hold) := HBOX.out 2 _ rfl; have b3 : w1.cell? ⟨w.heap.size, 3, none⟩ = some (.slice x.sA x.sn x.sc) := HBOX.out 3 _ rfl; clear hb1)
      | (go_at_call 10; refine (long_any' HX.out HB1.out).mono ?_; rintro e w2 ⟨q, rfl, hb2⟩; have hz := HB1.out.size; have HB2 := Lib.hid (HB1.out.trans (hb2.mono hz)); have HBOX2 := Lib.hid (HBOX.out.below hb2); clear b0 b1 b2 b3 HBOX hb2 HB1 hz; have b0 : w2.cell? ⟨w.heap.size, 0, none⟩ = some (.slice x.rA x.rn x.rc) := HBOX2.out 0 _ rfl; have b1 : w2.cell? ⟨w.heap.size, 1, none⟩ = some (.int .i64 x.shards) := HBOX2.out 1 _ rfl; have b2 : w2.cell? ⟨w.heap.size, 2, none⟩ = some (.int .i64 x.hold) := HBOX2.out 2 _ rfl; have b3 : w2.cell? ⟨w.heap.size, 3, none⟩ = some (.slice x.sA x.sn x.sc) := HBOX2.out 3 _ rfl)
      | (go_at_call 11; refine (new_case_bad HX.out.res HB2.out HOK.out).mono ?_; rintro e w3 ⟨rfl, rfl⟩))
    · go_ret
      exact ⟨rfl, HB2.out⟩
    · go_ret
      exact ⟨rfl, HB2.out⟩
end Go.Proofs.Ytomekiidgdkmiaa
