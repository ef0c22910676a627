/-
  The law's same: a stream that is like the document's shows what that shows.
-/
import Derived.Test.YtomekiidgdkmiaaDuo2
namespace Go.Proofs.Ytomekiidgdkmiaa
open Go.RowKit
set_option linter.unusedVariables false
set_option linter.unusedSimpArgs false

theorem Sim.time {s : StV} {r : RfV} (h : Sim s r) : lastT s.mark = s.mark.time := by
  unfold lastT
  by_cases hm : s.mark.seq = 0
  · rw [if_pos hm, h.fi.mz hm]; rfl
  · rw [if_neg hm]
theorem own_cells {B : Nat} {w w1 w' : World} {v : Value} {xs : List Value} {T : TypeId} {sz n : Nat} (h : w.ownsRow B T sz v n xs) (hb : Below w.heap.size w w') : SlAt w' v n xs := (own_sl h).below hb

theorem own_set5 {w : World} {B g cap n : Nat} {T : TypeId} {sz : Nat} {xs : List Value} (h : w.ownsRow B T sz (.slice (some ⟨g, 0, none⟩) n cap) n xs) (j : Nat) (v0 v1 v2 v3 v4 : Value) :
    ∃ ys : List Value, ys.length = xs.length ∧ (((((w.setCell ⟨g, j, none⟩ v0).setCell ⟨g, j + 1, none⟩ v1).setCell ⟨g, j + 2, none⟩ v2).setCell ⟨g, j + 3, none⟩ v3).setCell ⟨g, j + 4, none⟩ v4).ownsRow B T sz (.slice (some ⟨g, 0, none⟩) n cap) n ys :=
  ⟨_, by simp, (((((h.stored j v0).1.stored (j + 1) v1).1.stored (j + 2) v2).1.stored (j + 3) v3).1.stored (j + 4) v4).1⟩
set_option maxHeartbeats 2000000 in
set_option maxRecDepth 100000 in
theorem same_d {F : Nat → Prop} {w : World} {a b : Nat} {s : StV} {r : RfV} (h : Duo F w a s b r) (hs : Sim s r) :
    Calls Try.prog 27 #[.pointer (some ⟨a, 0, none⟩), .pointer (some ⟨b, 0, none⟩)] w fun e w' => e = .returned (.bool true) ∧ Below w.heap.size w w' := by
  have HD := Lib.hid h
  have HL := Lib.hid (last_d h)
  have HRL : Hid (∀ w1, Below w.heap.size w w1 → Calls Try.prog 53 #[.pointer (some ⟨b, 0, none⟩)] w1 fun e w' => e = .returned (.tuple #[s.mark.agg, .bool (decide (s.mark.seq ≠ 0))]) ∧ Below w1.heap.size w1 w') := by
    intro w1 hb
    have q := rlast_d (h.below hb)
    have e : decide (0 < s.mark.seq) = decide (s.mark.seq ≠ 0) := by
      have := hs.fi.m0
      by_cases h0 : s.mark.seq = 0
      · rw [decide_eq_false (by omega), decide_eq_false (by omega)]
      · rw [decide_eq_true (by omega), decide_eq_true h0]
    rw [hs.ls, hs.lm, e] at q
    exact q
  have HRH : Hid (∀ w1, Below w.heap.size w w1 → Calls Try.prog 54 #[.pointer (some ⟨b, 0, none⟩)] w1 (SomeV fun v w' => w'.ownsRow w1.heap.size 34 5 v s.samples.length (opVals s.samples) ∧ Below w1.heap.size w1 w')) := by
    intro w1 hb
    have q := rheld_d (h.below hb)
    rw [hs.he] at q
    exact q
  rw [hs.time] at HL
  obtain ⟨ur, uo, ug, up, hrf⟩ := h.getR
  obtain ⟨Aq, cq, rfl⟩ := own_slice hrf.pla
  have m3 : w.cell? ⟨b, 3, none⟩ = some (.int .i64 s.next) := by rw [← hs.nx]; exact hrf.cell 3 _ rfl
  have m6 : w.cell? ⟨b, 6, none⟩ = some (.slice Aq s.places.length cq) := by rw [← hs.pl]; exact hrf.cell 6 _ rfl
  have HRP : Hid (SlAt w (.slice Aq s.places.length cq) s.places.length (plVals s.places)) := by
    have := own_sl hrf.pla
    rw [hs.pl] at this
    exact this
  have hsl := h.sok.sl
  have hpl : s.places.length ≤ 3 * 4 := by rw [h.sok.pl]; exact Nat.mul_le_mul h.sok.r3 (by have := h.sok.s4; omega)
  have g1 : (s.mark.seq != s.mark.seq) = false := by simp
  have g2 : (s.mark.time != s.mark.time) = false := by simp
  have g3 : (s.next != s.next) = false := by simp
  obtain ⟨q, hq⟩ : ∃ q, q = decide (s.mark.seq ≠ 0) := ⟨_, rfl⟩
  rw [← hq] at HL HRL
  have g4 : (q != q) = false := by simp
  unfold OpV.agg at HRL
  clear h hs hrf hq
  go_enter Try.func27, Try.ntmps27
  go_wp2_with (first | (go_at_call 21; refine HL.out.mono ?_; rintro e w1 ⟨rfl, hb1⟩; have HB1 := Lib.hid hb1; clear hb1) | (go_at_call 53; refine (HRL.out _ HB1.out).mono ?_; rintro e w2 ⟨rfl, hb2⟩; have HB2 := Lib.hid (HB1.out.trans (hb2.mono HB1.out.size)); clear hb2) | (go_at_call 14; refine (held_d (HD.out.below (HB2.out.alloc HB2.out.size _))).mono ?_; rintro e w3 ⟨v3, rfl, h3, hb3⟩; obtain ⟨A3, c3, rfl⟩ := own_slice h3; have HB3 := Lib.hid ((HB2.out.alloc HB2.out.size _).trans (hb3.mono (HB2.out.alloc HB2.out.size _).size)); have HX3 := Lib.hid ((hb3.block w2.heap.size (by simp)).trans (heap_alloc_new w2 _)); have H3 := Lib.hid h3; clear h3 hb3))
  have n0 : w3.cell? ⟨w2.heap.size, 0, none⟩ = some (.int .i64 s.mark.seq) := blk_cell HX3.out 0 _ rfl
  have n1 : w3.cell? ⟨w2.heap.size, 2, none⟩ = some (.int .i64 s.mark.time) := blk_cell HX3.out 2 _ rfl
  have n2 : w3.cell? ⟨b, 3, none⟩ = some (.int .i64 s.next) := old_cell HB3.out m3 (cell_lt m3)
  have n3 : w3.cell? ⟨b, 6, none⟩ = some (.slice Aq s.places.length cq) := old_cell HB3.out m6 (cell_lt m6)
  clear m3 m6 HX3
  generalize hz : w2.heap.size = z at *
  have HB : Hid (Below w3.heap.size w3 w3.drew) := (Below.refl _ _).drew
  have HW : Hid (∀ w', Below w3.heap.size w3 w' → Below w.heap.size w w') := fun w' hb => HB3.out.trans (hb.mono HB3.out.size)
  go_region_held3 (fun w' => w'.cell? ⟨z, 0, none⟩ = some (.int .i64 s.mark.seq) ∧ w'.cell? ⟨z, 2, none⟩ = some (.int .i64 s.mark.time) ∧ w'.cell? ⟨b, 3, none⟩ = some (.int .i64 s.next) ∧ w'.cell? ⟨b, 6, none⟩ = some (.slice Aq s.places.length cq)) (first | exact ⟨s0, s1, s2, s3⟩ | go_simp)
    (first | (go_at_call 19; refine (next_d (HD.out.below (HW.out _ HB.out))).mono ?_; rintro e w' ⟨rfl, rfl⟩) | (go_at_call 54; refine (HRH.out _ (HW.out _ HB.out)).mono ?_; rintro e w' ⟨v4, rfl, h4, hb'⟩; obtain ⟨A4, c4, rfl⟩ := own_slice h4; have H4 := Lib.hid (own_sl h4); have HB := Lib.hid (HB.out.trans (hb'.mono HB.out.size)); have s0 : w'.cell? ⟨z, 0, none⟩ = some (.int .i64 s.mark.seq) := (old_cell HB.out n0 (cell_lt n0)); have s1 : w'.cell? ⟨z, 2, none⟩ = some (.int .i64 s.mark.time) := (old_cell HB.out n1 (cell_lt n1)); have s2 : w'.cell? ⟨b, 3, none⟩ = some (.int .i64 s.next) := (old_cell HB.out n2 (cell_lt n2)); have s3 : w'.cell? ⟨b, 6, none⟩ = some (.slice Aq s.places.length cq) := (old_cell HB.out n3 (cell_lt n3)); clear h4 hb') | (go_at_call 16; refine (ops_same s.samples A3 A4 c3 c4 _ ((own_sl H3.out).below HB.out) H4.out hsl).mono ?_; rintro e w' ⟨rfl, hb'⟩; have HB := Lib.hid (HB.out.trans (hb'.mono HB.out.size)); have s0 : w'.cell? ⟨z, 0, none⟩ = some (.int .i64 s.mark.seq) := (old_cell HB.out n0 (cell_lt n0)); have s1 : w'.cell? ⟨z, 2, none⟩ = some (.int .i64 s.mark.time) := (old_cell HB.out n1 (cell_lt n1)); have s2 : w'.cell? ⟨b, 3, none⟩ = some (.int .i64 s.next) := (old_cell HB.out n2 (cell_lt n2)); have s3 : w'.cell? ⟨b, 6, none⟩ = some (.slice Aq s.places.length cq) := (old_cell HB.out n3 (cell_lt n3)); clear hb') | (go_at_call 31; refine (places_d (HD.out.below (HW.out _ HB.out))).mono ?_; rintro e w' ⟨v5, rfl, h5, hb'⟩; obtain ⟨A5, c5, rfl⟩ := own_slice h5; have H5 := Lib.hid (own_sl h5); have HB := Lib.hid (HB.out.trans (hb'.mono HB.out.size)); have s0 : w'.cell? ⟨z, 0, none⟩ = some (.int .i64 s.mark.seq) := (old_cell HB.out n0 (cell_lt n0)); have s1 : w'.cell? ⟨z, 2, none⟩ = some (.int .i64 s.mark.time) := (old_cell HB.out n1 (cell_lt n1)); have s2 : w'.cell? ⟨b, 3, none⟩ = some (.int .i64 s.next) := (old_cell HB.out n2 (cell_lt n2)); have s3 : w'.cell? ⟨b, 6, none⟩ = some (.slice Aq s.places.length cq) := (old_cell HB.out n3 (cell_lt n3)); clear h5 hb') | (go_at_call 30; refine (places_same s.places A5 Aq c5 cq _ H5.out (HRP.out.below (HW.out _ HB.out)) (by omega)).mono ?_; rintro e w' ⟨rfl, hb'⟩; have HB := Lib.hid (HB.out.trans (hb'.mono HB.out.size)); have s0 : w'.cell? ⟨z, 0, none⟩ = some (.int .i64 s.mark.seq) := (old_cell HB.out n0 (cell_lt n0)); have s1 : w'.cell? ⟨z, 2, none⟩ = some (.int .i64 s.mark.time) := (old_cell HB.out n1 (cell_lt n1)); have s2 : w'.cell? ⟨b, 3, none⟩ = some (.int .i64 s.next) := (old_cell HB.out n2 (cell_lt n2)); have s3 : w'.cell? ⟨b, 6, none⟩ = some (.slice Aq s.places.length cq) := (old_cell HB.out n3 (cell_lt n3)); clear hb'))
  have HZ : Hid (Below w.heap.size w w') := HW.out _ HB.out
  have HR : Hid (w'.ownsRow w.heap.size 34 5 (.slice A3 s.samples.length c3) s.samples.length (opVals s.samples)) :=
    own_down (own_keep H3.out (fun t ht => HB.out.block t (H3.out.lt t ht).2)) (HB2.out.alloc HB2.out.size _).size
  rename World => wq
  generalize s.samples.length = n at *
  clear s0 s1 s2 s3 HB HW HRP H3 HB3 HB2 HB1 HD HL HRL HRH n0 n1 n2 n3 hz H4 H5
  go_wp2
  go_loopw [68] (fun i wr => ∃ (k : Nat) (xs : List Value), k ≤ n ∧ i = .int .i64 k ∧ xs.length = n * 5 ∧ wr.ownsRow w.heap.size 34 5 (.slice A3 n c3) n xs ∧ Below w.heap.size w wr) (fun i _ => n - (intOf i).toNat)
  case atStart => exact ⟨0, _, Nat.zero_le _, rfl, HR.out.1, HR.out, HZ.out⟩
  case round =>
    rename World => wz
    obtain ⟨k, xs, hk, rfl, hxl, hown, hbel⟩ := hrel
    have HBEL := Lib.hid hbel
    by_cases hlt : k < n
    · obtain ⟨g, cap, hv, hg, hg2⟩ := own_some hown (by omega)
      simp only [Value.slice.injEq] at hv
      obtain ⟨rfl, _, rfl⟩ := hv
      have cell : ∀ j, j < 5 → ∃ u, wz.cell? ⟨g, k * 5 + j, none⟩ = some u := fun j hj => by
        have hx : k * 5 + j < xs.length := by omega
        refine ⟨xs[k * 5 + j], ?_⟩
        have := own_row hown (k * 5 + j) _ (List.getElem?_eq_getElem hx)
        simpa using this
      obtain ⟨u0, p0⟩ := cell 0 (by omega)
      obtain ⟨u1, p1⟩ := cell 1 (by omega)
      obtain ⟨u2, p2⟩ := cell 2 (by omega)
      obtain ⟨u3, p3⟩ := cell 3 (by omega)
      obtain ⟨u4, p4⟩ := cell 4 (by omega)
      simp only [Nat.add_zero] at p0
      have f0 := own_frozen hown (k * 5)
      have f1 := own_frozen hown (k * 5 + 1)
      have f2 := own_frozen hown (k * 5 + 2)
      have f3 := own_frozen hown (k * 5 + 3)
      have f4 := own_frozen hown (k * 5 + 4)
      have HOWN := Lib.hid hown
      clear hown hbel cell
      go_wp2
      go_roundw
      case rel =>
        obtain ⟨ys, hy, ho⟩ := own_set5 HOWN.out (k * 5) (.int .i64 0) (.int .i64 0) (.int .i64 0) (.int .i64 0) (.int .i64 0)
        exact ⟨k + 1, ys, by omega, by go_num, by omega, ho, ((((HBEL.out.setCell hg _).setCell hg _).setCell hg _).setCell hg _).setCell hg _⟩
      case measure => simp [intOf]; omega
    · have e : k = n := by omega
      subst e
      clear hown hbel
      go_wp2
      go_ret
      exact ⟨rfl, HBEL.out⟩
end Go.Proofs.Ytomekiidgdkmiaa
