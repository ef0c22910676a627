/-
  StreamPlays: the walk.
-/
import Derived.Test.YtomekiidgdkmiaaPlayAll
namespace Go.Proofs.Ytomekiidgdkmiaa
open Go.RowKit
set_option linter.unusedVariables false
set_option linter.unusedSimpArgs false
theorem plz : ∀ n, plVals (List.replicate n PlV.zero) = List.replicate (n * 2) (.int .i64 0)
  | 0 => rfl
  | n + 1 => by
    rw [List.replicate_succ, show (n + 1) * 2 = n * 2 + 1 + 1 from by omega, List.replicate_succ, List.replicate_succ, ← plz n]; rfl
theorem made_pl (n : Nat) : (madeCells (Value.agg #[.int .i64 0, .int .i64 0]).cells (n * 2)) = (plVals (List.replicate n PlV.zero)).toArray := by
  rw [plz]
  apply Array.ext
  · simp [madeCells]
  · intro i h1 h2
    have h3 : i % 2 = 0 ∨ i % 2 = 1 := by omega
    rcases h3 with h3 | h3 <;> simp [madeCells, Value.cells, h3]
theorem make_pl (n : Nat) (h : n ≤ 12) (w : World) : (Instr.makeSlice 26 (.int .i64 (n : Int)) (.int .i64 (n : Int))).run Try.prog w = .ok (.slice (some ⟨w.heap.size, 0, none⟩) n n) (w.alloc (.cells (plVals (List.replicate n PlV.zero)).toArray 49)) := by
  obtain ⟨i0, hi, hz0, hz1, hz2⟩ := info_parts infoPl
  have := run_make (P := Try.prog) w 26 49 i0 _ Try.underlying26 hi hz0 .i64 .i64 n n (by omega) (Int.le_refl _) (by rw [hz2]; omega) (by omega)
  rw [hz1, Int.toNat_natCast, made_pl n] at this
  exact this
/-- New by the document at a case -/
theorem rnew_case {w w' : World} {x : CaseV} (h : Opened w intV I64 x.res x.rA x.rn x.rc) (hb : Below w.heap.size w w') (hok : newOk x.res x.shards x.hold) :
    Calls Try.prog 23 #[.slice x.rA x.rn x.rc, .int .i64 x.shards, .int .i64 x.hold] w'
      fun e w2 => ∃ q, e = .returned (.tuple #[.pointer (some ⟨q, 0, none⟩), .int .i64 0]) ∧ RfNewAt w'.heap.size w2 q (newRf x.res x.shards x.hold (x.res.length * x.shards.toNat)) ∧ Below w'.heap.size w' w2 := by
  have hr := h.row hok.1
  rw [flat_int] at hr
  have h1 := hok.1
  obtain ⟨b, off, hA, hbl, hrow⟩ := sl_row hr h1
  rw [← h.len, hA]
  refine (rnew_any x.res b off x.rc x.shards x.hold w' (fun j u hj => old_cell hb (hrow j u hj) hbl) (by unfold newBad; have := hok.2.1; have := hok.2.2.2.1; have := hok.2.2.2.2.1; have := hok.2.2.2.2.2.1; have := hok.2.2.2.2.2.2; omega)).mono ?_
  rintro e w2 ⟨h2, h3⟩
  rcases h2 with ⟨_, q, h4, h5⟩ | ⟨⟨j, hj, h4⟩, _⟩
  · exact ⟨q, h4, h5, h3⟩
  · have := minL_le x.res (nth x.res j) (nth_mem hj)
    have := hok.2.2.1
    omega
theorem rnew_case_bad {w w' : World} {x : CaseV} (h : Opened w intV I64 x.res x.rA x.rn x.rc) (hb : Below w.heap.size w w') (hok : ¬ newOk x.res x.shards x.hold) :
    Calls Try.prog 23 #[.slice x.rA x.rn x.rc, .int .i64 x.shards, .int .i64 x.hold] w'
      fun e w2 => e = .returned (.tuple #[.pointer none, .int .i64 2]) ∧ Below w'.heap.size w' w2 := by
  have hm := h.max
  unfold maxLen at hm
  have hl := h.len
  by_cases hn : newBad x.res x.shards x.hold
  · rw [← h.len]
    refine (rnew_form x.res x.rA x.rc x.shards x.hold w' hn (by omega)).mono ?_
    rintro e w2 ⟨rfl, rfl⟩
    exact ⟨rfl, Below.refl _ _⟩
  · have hn2 := hn
    unfold newBad at hn2
    have h1 : 1 ≤ x.res.length := by omega
    have hr := h.row h1
    rw [flat_int] at hr
    obtain ⟨b, off, hA, hbl, hrow⟩ := sl_row hr h1
    rw [← h.len, hA]
    refine (rnew_any x.res b off x.rc x.shards x.hold w' (fun j u hj => old_cell hb (hrow j u hj) hbl) hn).mono ?_
    rintro e w2 ⟨h2, h3⟩
    rcases h2 with ⟨h4, _⟩ | ⟨_, h4⟩
    · exfalso
      apply hok
      obtain ⟨j, hj, e⟩ := List.getElem_of_mem (minL_mem x.res h1)
      rw [nth_get hj] at e
      have := h4 j hj
      exact ⟨h1, by omega, by omega, by omega, by omega, by omega, by omega⟩
    · exact ⟨h4, h3⟩
theorem duo_new {B : Nat} {w3 w4 : World} {a q : Nat} {x : CaseV} {n : Nat} (hn : n = x.res.length * x.shards.toNat) (hok : newOk x.res x.shards x.hold) (hrr : ∀ i, i < x.res.length → I64 (nth x.res i)) (h : SB B w3 a (newSt x.res x.shards x.hold n)) (h2 : RfNewAt w3.heap.size w4 q (newRf x.res x.shards x.hold n)) (hb : Below w3.heap.size w3 w4) :
    Duo (fun k => B ≤ k) w4 a (newSt x.res x.shards x.hold n) q (newRf x.res x.shards x.hold n) := by
  have hlt := h.lt
  obtain ⟨h0, vr, vs, vp, h3, h4⟩ := h
  obtain ⟨ur, up, h5, h6, h7, h8⟩ := h2
  obtain ⟨o1, o2, o3, o4, o5, o6, o7⟩ := hok
  refine ⟨h0, ⟨o1, o2, fun i hi => ⟨by have := minL_le x.res (nth x.res i) (nth_mem hi); show 1 ≤ nth x.res i; omega, (hrr i hi).2⟩, o4, o5, by show (1 : Int) ≤ 1; omega, by show (1 : Int) ≤ _; omega, by simp [newRf, hn], by simp [newRf], by simp [newRf], by simp [newRf]⟩, vr, vs, vp, ur, _, _, up, h3.below hb, h5, ?_, ?_, h4, ?_⟩
  · intro g _ e; cases e
  · intro g hg e
    have := (h3.pla.lt g hg).2
    have := h8 g e
    omega
  · intro k hk
    show B ≤ k
    rcases hk with rfl | hk | hk | hk
    · omega
    · cases hk
    · cases hk
    · have := h8 k hk; omega

set_option maxHeartbeats 4000000 in
set_option maxRecDepth 100000 in
theorem plays_any (x : CaseV) (w : World) (h : x.okIn w) (hn : x.sn ≤ 1760000000000) :
    Calls Try.prog 7 #[.agg #[.slice x.rA x.rn x.rc, .int .i64 x.shards, .int .i64 x.hold, .slice x.sA x.sn x.sc]] w fun e w' => e = .returned (.bool true) ∧ Below w.heap.size w w' := by
  have HX := Lib.hid h
  have HBOX := Lib.hid (case_box w x 25)
  clear h
  by_cases hok : newOk x.res x.shards x.hold
  · have HOK := Lib.hid hok
    clear hok
    go_enter Try.func7, Try.ntmps7
    go_wp2_with (first
      | (go_at_call 9; refine (alive_any _).mono ?_; rintro e w1 ⟨rfl, hb1⟩; have HB1 := Lib.hid ((below_alloc w _).trans (hb1.mono (by simp))); replace HBOX := Lib.hid (HBOX.out.below hb1); have b0 : w1.cell? ⟨w.heap.size, 0, none⟩ = some (.slice x.rA x.rn x.rc) := HBOX.out 0 _ rfl; have b1 : w1.cell? ⟨w.heap.size, 1, none⟩ = some (.int .i64 x.shards) := HBOX.out 1 _ rfl; have b2 : w1.cell? ⟨w.heap.size, 2, none⟩ = some (.int .i64 x.hold) := HBOX.out 2 _ rfl; have b3 : w1.cell? ⟨w.heap.size, 3, none⟩ = some (.slice x.sA x.sn x.sc) := HBOX.out 3 _ rfl; clear hb1)
      | (go_at_call 10; refine (long_any' HX.out HB1.out).mono ?_; rintro e w2 ⟨q, rfl, hb2⟩; have hz := HB1.out.size; have HB2 := Lib.hid (HB1.out.trans (hb2.mono hz)); have HBOX2 := Lib.hid (HBOX.out.below hb2); clear b0 b1 b2 b3 HBOX hb2 HB1 hz; have b0 : w2.cell? ⟨w.heap.size, 0, none⟩ = some (.slice x.rA x.rn x.rc) := HBOX2.out 0 _ rfl; have b1 : w2.cell? ⟨w.heap.size, 1, none⟩ = some (.int .i64 x.shards) := HBOX2.out 1 _ rfl; have b2 : w2.cell? ⟨w.heap.size, 2, none⟩ = some (.int .i64 x.hold) := HBOX2.out 2 _ rfl; have b3 : w2.cell? ⟨w.heap.size, 3, none⟩ = some (.slice x.sA x.sn x.sc) := HBOX2.out 3 _ rfl)
      | (go_at_call 11; refine (new_case HX.out.res HB2.out HOK.out).mono ?_; rintro e w3 ⟨a, rfl, hs3, hb3⟩; have hz := HB2.out.size; have hz1 := cell_lt b0; have HB3 := Lib.hid (HB2.out.trans (hb3.mono hz)); have HBOX3 := Lib.hid (HBOX2.out.below hb3); have HS3 := Lib.hid hs3; clear b0 b1 b2 b3 HBOX2 hb3 HB2 hs3; have b0 : w3.cell? ⟨w.heap.size, 0, none⟩ = some (.slice x.rA x.rn x.rc) := HBOX3.out 0 _ rfl; have b1 : w3.cell? ⟨w.heap.size, 1, none⟩ = some (.int .i64 x.shards) := HBOX3.out 1 _ rfl; have b2 : w3.cell? ⟨w.heap.size, 2, none⟩ = some (.int .i64 x.hold) := HBOX3.out 2 _ rfl; have b3 : w3.cell? ⟨w.heap.size, 3, none⟩ = some (.slice x.sA x.sn x.sc) := HBOX3.out 3 _ rfl)
      | (go_at_call 23; refine (rnew_case HX.out.res HB3.out HOK.out).mono ?_; rintro e w4 ⟨q, rfl, hr4, hb4⟩; have HDU := Lib.hid (duo_new rfl HOK.out (fun i hi => HX.out.res.ok _ (nth_mem hi)) HS3.out hr4 hb4); have hz3 := HB3.out.size; have hz34 := hb4.size; have HB4 := Lib.hid (HB3.out.trans (hb4.mono hz3)); have HBOX4 := Lib.hid (HBOX3.out.below hb4); clear b0 b1 b2 b3 hb4 hr4; have b3 : w4.cell? ⟨w.heap.size, 3, none⟩ = some (.slice x.sA x.sn x.sc) := HBOX4.out 3 _ rfl))
    · go_ret
      exact ⟨rfl, HB2.out⟩
    go_loopw [3, 53] (fun sp i wr => ∃ (k a' : Nat) (s : StV) (r : RfV), k ≤ x.sn ∧ i = .int .i64 k ∧ sp = .pointer (some ⟨a', 0, none⟩) ∧ Duo (fun j => w2.heap.size ≤ j) wr a' s q r ∧ Sim s r ∧ s.next ≤ 1 + k ∧ r.ops.length ≤ k ∧ Below w2.heap.size w4 wr) (fun _ i _ => x.sn - (intOf i).toNat)
    case atStart => exact ⟨0, a, _, _, Nat.zero_le _, rfl, rfl, HDU.out, Sim.new _ _ _ _, (by show (1 : Int) ≤ _; omega), Nat.le_refl _, Below.refl _ _⟩
    case round =>
      obtain ⟨k, a', s, r, hk, rfl, rfl, hd, hsim, hnx, hol, hbel⟩ := hrel
      have hbsz := hbel.size
      have hz4 := HB4.out.size
      have hlt2 : w2.heap.size ≤ w3.heap.size := Nat.le_trans HS3.out.lt.1 (Nat.le_of_lt HS3.out.lt.2)
      by_cases hlt : k < x.sn
      · obtain ⟨b, off, hA, c0, c1, c2, c3, c4, c5, c6, c7, c8, c9⟩ := sc_cells HX.out.script (HB4.out.trans (hbel.mono (by omega))) k hlt
        have hsc := HX.out.script.ok _ (scn_mem (show k < x.script.length by have := HX.out.script.len; omega))
        generalize scn x.script k = o at *
        have HOF : Hid (∀ g off, o.pA = some ⟨g, off, none⟩ → 0 < o.pn → ¬ w2.heap.size ≤ g) := by
          intro g off' e hp hle
          have hl := hsc.pls.len
          obtain ⟨g2, o2, e2, hg2, _⟩ := sl_row (hsc.pls.row (by omega)) (by omega)
          rw [e2] at e
          simp only [Option.some.injEq, Addr.mk.injEq] at e
          omega
        have HSC0 := Lib.hid hsc
        have HA := Lib.hid hA
        have HS := Lib.hid hd
        have HSIM := Lib.hid hsim
        have HNX := Lib.hid hnx
        have HOL := Lib.hid hol
        have HBEL := Lib.hid hbel
        have bn1 : 1 ≤ s.next := hd.sok.n1
        have bn2 : s.next ≤ 3000000000000000000 := by omega
        have bn3 : r.ops.length ≤ 2000000000000 := by omega
        have HF : Hid (∀ W : World, w2.heap.size ≤ W.heap.size → ∀ i, W.heap.size ≤ i → w2.heap.size ≤ i) := fun W h i hi => by omega
        have hsz2 : w2.heap.size ≤ wr.heap.size := by have := HS3.out.lt; omega
        obtain ⟨ur, uo, ug, up, hrf⟩ := hd.getR
        obtain ⟨Aq, cq, rfl⟩ := own_slice hrf.pla
        have m6 : wr.cell? ⟨q, 6, none⟩ = some (.slice Aq r.places.length cq) := hrf.cell 6 _ rfl
        have hpl : r.places.length = s.res.length * s.shards.toNat := by rw [hsim.pl]; exact hd.sok.pl
        have hp12 : r.places.length ≤ 12 := by
          have := Nat.mul_le_mul hd.sok.r3 (show s.shards.toNat ≤ 4 by have := hd.sok.s4; omega)
          omega
        have HPL := Lib.hid hpl
        clear hd hsim hnx hol hbel hA hsc hrf hpl
        rw [HA.out]
        by_cases hm : (k : Int) % 3 = 0
        · have g3 : ((k : Int) % 3 == 0) = true := by simp [hm]
          clear hm
          have hmk := make_pl r.places.length hp12
          have hrl : (List.replicate r.places.length PlV.zero).length = s.res.length * s.shards.toNat := by rw [List.length_replicate]; exact HPL.out
          have HRL := Lib.hid hrl
          have HPR := Lib.hid (fun (W : World) => new_row' W (plVals (List.replicate r.places.length PlV.zero)) 49)
          clear hrl
          have hq := cell_lt m6
          generalize hnn : r.places.length = nn at *
          clear hnn
          go_wp2_with (first
            | (go_at_call 25; refine (clone_d (HS.out.below (below_alloc wr _))).mono ?_; rintro e w5 ⟨c, rfl, hsb, _, hb5⟩; have HSB := Lib.hid hsb; have HC5 := Lib.hid hb5; clear hsb hb5)
            | (go_at_call 19; refine (next_b HSB.out).mono ?_; rintro e w' ⟨rfl, rfl⟩)
            | (go_at_call 13; refine (clone_put HSB.out bn2).mono ?_; rintro e w6a ⟨v6, s6, rfl, hs6a, he1, he2, hb6⟩; have HSB6 := Lib.hid hs6a; have HE12 := Lib.hid (And.intro he1 he2); have HC6 := Lib.hid (HC5.out.trans hb6); clear hs6a he1 he2 hb6; have m66 : w6a.cell? ⟨q, 6, none⟩ = some (.slice Aq nn cq) := old_cell HC6.out (alloc_old (o := (.cells #[.int .i64 o.kind, .int .i64 o.time, .int .i64 o.key, .int .i64 o.val, .int .i64 o.op.seq, .int .i64 o.op.kind, .int .i64 o.op.time, .int .i64 o.op.key, .int .i64 o.op.val, .slice o.pA o.pn o.pc] 36)) m6) (by simp; omega))
            | (go_at_call 15; have qc := cut_ok_b (w0 := w6a) (w := w6a.alloc (.cells (plVals (List.replicate nn PlV.zero)).toArray 49)) (List.replicate nn PlV.zero) w6a.heap.size 0 nn HSB6.out (below_alloc _ _) (by rw [HE12.out.1, HE12.out.2]; exact HRL.out) (fun j u hj => by have := HPR.out w6a j u hj; simpa [add_zero_addr] using this) (.inl (Nat.le_refl _)); rw [List.length_replicate] at qc; refine qc.mono ?_; rintro e w5 ⟨rfl, _, hb7⟩; have HC7 := Lib.hid ((HC6.out.alloc HC6.out.size (.cells (plVals (List.replicate nn PlV.zero)).toArray 49)).trans hb7); clear qc hb7; have HD5 := Lib.hid ((HS.out.below (below_alloc wr (.cells #[.int .i64 o.kind, .int .i64 o.time, .int .i64 o.key, .int .i64 o.val, .int .i64 o.op.seq, .int .i64 o.op.kind, .int .i64 o.op.time, .int .i64 o.op.key, .int .i64 o.op.val, .slice o.pA o.pn o.pc] 36))).below HC7.out); have X5 := Lib.hid ((HC7.out.block wr.heap.size (by simp)).trans (heap_alloc_new wr (.cells #[.int .i64 o.kind, .int .i64 o.time, .int .i64 o.key, .int .i64 o.val, .int .i64 o.op.seq, .int .i64 o.op.kind, .int .i64 o.op.time, .int .i64 o.op.key, .int .i64 o.op.val, .slice o.pA o.pn o.pc] 36))); have HB5 := Lib.hid ((HBEL.out.alloc hsz2 (.cells #[.int .i64 o.kind, .int .i64 o.time, .int .i64 o.key, .int .i64 o.val, .int .i64 o.op.seq, .int .i64 o.op.kind, .int .i64 o.op.time, .int .i64 o.op.key, .int .i64 o.op.val, .slice o.pA o.pn o.pc] 36)).trans (HC7.out.mono (by simp; omega))); have h5s : w2.heap.size ≤ w5.heap.size := (by have := HC7.out.size; simp at this; omega); have HSC := Lib.hid (HSC0.out.below ((HB4.out.trans (HB5.out.mono (by omega))))); have z0 : w5.cell? ⟨wr.heap.size, 0, none⟩ = some (.int .i64 o.kind) := blk_cell X5.out 0 _ rfl; have z1 : w5.cell? ⟨wr.heap.size, 1, none⟩ = some (.int .i64 o.time) := blk_cell X5.out 1 _ rfl; have z2 : w5.cell? ⟨wr.heap.size, 2, none⟩ = some (.int .i64 o.key) := blk_cell X5.out 2 _ rfl; have z3 : w5.cell? ⟨wr.heap.size, 3, none⟩ = some (.int .i64 o.val) := blk_cell X5.out 3 _ rfl; have z4 : w5.cell? ⟨wr.heap.size, 4, none⟩ = some (.int .i64 o.op.seq) := blk_cell X5.out 4 _ rfl; have z5 : w5.cell? ⟨wr.heap.size, 5, none⟩ = some (.int .i64 o.op.kind) := blk_cell X5.out 5 _ rfl; have z6 : w5.cell? ⟨wr.heap.size, 6, none⟩ = some (.int .i64 o.op.time) := blk_cell X5.out 6 _ rfl; have z7 : w5.cell? ⟨wr.heap.size, 7, none⟩ = some (.int .i64 o.op.key) := blk_cell X5.out 7 _ rfl; have z8 : w5.cell? ⟨wr.heap.size, 8, none⟩ = some (.int .i64 o.op.val) := blk_cell X5.out 8 _ rfl; have z9 : w5.cell? ⟨wr.heap.size, 9, none⟩ = some (.slice o.pA o.pn o.pc) := blk_cell X5.out 9 _ rfl)
            | (go_at_call 26; refine (play_any o HD5.out HSIM.out (HF.out _ h5s) (HSC.out) HOF.out bn2 bn3).mono ?_; rintro e w6 ⟨rfl, ⟨s', r', hd6, hs6, hl6, hn6⟩, hk6⟩; have HD6 := Lib.hid hd6; have HS6 := Lib.hid hs6; have HK6 := Lib.hid hk6; have HBD := Lib.hid (And.intro hl6 hn6); clear hd6 hs6 hl6 hn6 hk6) | (go_at_call 27; refine (same_d HD6.out HS6.out).mono ?_; rintro e w7 ⟨rfl, hb7⟩; have HB7 := Lib.hid hb7; clear hb7))
          go_roundw
          case rel => exact ⟨k + 1, a', s', r', (by omega), (by go_num), rfl, HD6.out.below HB7.out, HS6.out, (by have := HNX.out; have := HBD.out.2; omega), (by have := HOL.out; have := HBD.out.1; omega), (HB5.out.trans (HK6.out.below h5s (fun i hi => hi))).trans (HB7.out.mono (by have := HK6.out.size; omega))⟩
          case measure => simp [intOf]; omega
        · have g3 : ((k : Int) % 3 == 0) = false := by simp [hm]
          clear hm
          go_wp2_with (first
            | (go_at_call 25; refine (clone_d (HS.out.below (below_alloc wr _))).mono ?_; rintro e w5 ⟨c, rfl, hsb, hd5, hb5⟩; have HD5 := Lib.hid (hd5 (fun j => w2.heap.size ≤ j) (fun k hk => by simp at hk; omega) (fun k h => h)); have X5 := Lib.hid ((hb5.block wr.heap.size (by simp)).trans (heap_alloc_new wr (.cells #[.int .i64 o.kind, .int .i64 o.time, .int .i64 o.key, .int .i64 o.val, .int .i64 o.op.seq, .int .i64 o.op.kind, .int .i64 o.op.time, .int .i64 o.op.key, .int .i64 o.op.val, .slice o.pA o.pn o.pc] 36))); have HB5 := Lib.hid ((HBEL.out.alloc hsz2 (.cells #[.int .i64 o.kind, .int .i64 o.time, .int .i64 o.key, .int .i64 o.val, .int .i64 o.op.seq, .int .i64 o.op.kind, .int .i64 o.op.time, .int .i64 o.op.key, .int .i64 o.op.val, .slice o.pA o.pn o.pc] 36)).trans (hb5.mono (by simp; omega))); have h5s : w2.heap.size ≤ w5.heap.size := (by have := hb5.size; simp at this; omega); have HSC := Lib.hid (HSC0.out.below ((HB4.out.trans (HB5.out.mono (by omega))))); clear hsb hd5 hb5; have z0 : w5.cell? ⟨wr.heap.size, 0, none⟩ = some (.int .i64 o.kind) := blk_cell X5.out 0 _ rfl; have z1 : w5.cell? ⟨wr.heap.size, 1, none⟩ = some (.int .i64 o.time) := blk_cell X5.out 1 _ rfl; have z2 : w5.cell? ⟨wr.heap.size, 2, none⟩ = some (.int .i64 o.key) := blk_cell X5.out 2 _ rfl; have z3 : w5.cell? ⟨wr.heap.size, 3, none⟩ = some (.int .i64 o.val) := blk_cell X5.out 3 _ rfl; have z4 : w5.cell? ⟨wr.heap.size, 4, none⟩ = some (.int .i64 o.op.seq) := blk_cell X5.out 4 _ rfl; have z5 : w5.cell? ⟨wr.heap.size, 5, none⟩ = some (.int .i64 o.op.kind) := blk_cell X5.out 5 _ rfl; have z6 : w5.cell? ⟨wr.heap.size, 6, none⟩ = some (.int .i64 o.op.time) := blk_cell X5.out 6 _ rfl; have z7 : w5.cell? ⟨wr.heap.size, 7, none⟩ = some (.int .i64 o.op.key) := blk_cell X5.out 7 _ rfl; have z8 : w5.cell? ⟨wr.heap.size, 8, none⟩ = some (.int .i64 o.op.val) := blk_cell X5.out 8 _ rfl; have z9 : w5.cell? ⟨wr.heap.size, 9, none⟩ = some (.slice o.pA o.pn o.pc) := blk_cell X5.out 9 _ rfl)
            | (go_at_call 26; refine (play_any o HD5.out HSIM.out (HF.out _ h5s) (HSC.out) HOF.out bn2 bn3).mono ?_; rintro e w6 ⟨rfl, ⟨s', r', hd6, hs6, hl6, hn6⟩, hk6⟩; have HD6 := Lib.hid hd6; have HS6 := Lib.hid hs6; have HK6 := Lib.hid hk6; have HBD := Lib.hid (And.intro hl6 hn6); clear hd6 hs6 hl6 hn6 hk6) | (go_at_call 27; refine (same_d HD6.out HS6.out).mono ?_; rintro e w7 ⟨rfl, hb7⟩; have HB7 := Lib.hid hb7; clear hb7))
          go_roundw
          case rel => exact ⟨k + 1, c, s', r', (by omega), (by go_num), rfl, HD6.out.below HB7.out, HS6.out, (by have := HNX.out; have := HBD.out.2; omega), (by have := HOL.out; have := HBD.out.1; omega), (HB5.out.trans (HK6.out.below h5s (fun i hi => hi))).trans (HB7.out.mono (by have := HK6.out.size; omega))⟩
          case measure => simp [intOf]; omega
      · have e : k = x.sn := by omega
        subst e
        have HBEL := Lib.hid hbel
        clear hbel
        go_wp2
        go_ret
        exact ⟨rfl, HB4.out.trans (HBEL.out.mono (by omega))⟩
  · have HOK := Lib.hid hok
    clear hok
    go_enter Try.func7, Try.ntmps7
    go_wp2_with (first
      | (go_at_call 9; refine (alive_any _).mono ?_; rintro e w1 ⟨rfl, hb1⟩; have HB1 := Lib.hid ((below_alloc w _).trans (hb1.mono (by simp))); replace HBOX := Lib.hid (HBOX.out.below hb1); have b0 : w1.cell? ⟨w.heap.size, 0, none⟩ = some (.slice x.rA x.rn x.rc) := HBOX.out 0 _ rfl; have b1 : w1.cell? ⟨w.heap.size, 1, none⟩ = some (.int .i64 x.shards) := HBOX.out 1 _ rfl; have b2 : w1.cell? ⟨w.heap.size, 2, none⟩ = some (.int .i64 x.hold) := HBOX.out 2 _ rfl; have b3 : w1.cell? ⟨w.heap.size, 3, none⟩ = some (.slice x.sA x.sn x.sc) := HBOX.out 3 _ rfl; clear hb1)
      | (go_at_call 10; refine (long_any' HX.out HB1.out).mono ?_; rintro e w2 ⟨q, rfl, hb2⟩; have hz := HB1.out.size; have HB2 := Lib.hid (HB1.out.trans (hb2.mono hz)); have HBOX2 := Lib.hid (HBOX.out.below hb2); clear b0 b1 b2 b3 HBOX hb2 HB1 hz; have b0 : w2.cell? ⟨w.heap.size, 0, none⟩ = some (.slice x.rA x.rn x.rc) := HBOX2.out 0 _ rfl; have b1 : w2.cell? ⟨w.heap.size, 1, none⟩ = some (.int .i64 x.shards) := HBOX2.out 1 _ rfl; have b2 : w2.cell? ⟨w.heap.size, 2, none⟩ = some (.int .i64 x.hold) := HBOX2.out 2 _ rfl; have b3 : w2.cell? ⟨w.heap.size, 3, none⟩ = some (.slice x.sA x.sn x.sc) := HBOX2.out 3 _ rfl)
      | (go_at_call 11; refine (new_case_bad HX.out.res HB2.out HOK.out).mono ?_; rintro e w3 ⟨rfl, rfl⟩)
      | (go_at_call 23; refine (rnew_case_bad HX.out.res HB2.out HOK.out).mono ?_; rintro e w4 ⟨rfl, hb4⟩; have HB4 := Lib.hid (HB2.out.trans (hb4.mono HB2.out.size)); clear hb4)
      | (go_at_call 24; refine (num_err 2 (by decide) _).mono ?_; rintro e w5 ⟨rfl, rfl⟩))
    · go_ret
      exact ⟨rfl, HB2.out⟩
    · go_ret
      exact ⟨rfl, HB4.out⟩
end Go.Proofs.Ytomekiidgdkmiaa
