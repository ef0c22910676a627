/-
  The document's stream: New.
-/
import Derived.Test.YtomekiidgdkmiaaRfPut
namespace Go.Proofs.Ytomekiidgdkmiaa
open Go.RowKit
set_option linter.unusedVariables false
set_option linter.unusedSimpArgs false

def newRf (l : List Int) (sh hold : Int) (n : Nat) : RfV := ⟨l, sh, hold, 1, [], [], List.replicate n leastP⟩

theorem fin_res {W3 w4 : World} {b : Nat} {r : RfV} {vr vo vg vp : Value} {x : Int} {g cap : Nat} (H3 : RfIs W3 b r vr vo vg vp) (hg : W3.grownBy w4 vr.ownBlock)
    (hrow : w4.ownsRow 0 3 1 (.slice (some ⟨g, 0, none⟩) (r.res.length + 1) cap) (r.res.length + 1) (intVals r.res ++ [.int .i64 x])) (hat : vr.ownBlock = some g ∨ g = W3.heap.size) :
    ∃ vr', RfIs (w4.setCell ⟨b, 0, none⟩ (.slice (some ⟨g, 0, none⟩) (r.res.length + 1) cap)) b { r with res := r.res ++ [x] } vr' vo vg vp ∧
      Keeps (fun k => k = b ∨ vr.ownBlock = some k) W3 (w4.setCell ⟨b, 0, none⟩ (.slice (some ⟨g, 0, none⟩) (r.res.length + 1) cap)) ∧ (∀ k, vr'.ownBlock = some k → vr.ownBlock = some k ∨ W3.heap.size ≤ k) := by
  have n1 := own_ne H3.res H3.blk (by decide)
  have hb4 : w4.heap[b]? = some (.cells (r.cellsOf vr vo vg vp) 71 (0, 0)) := (hg.block b H3.lt (fun e => n1 e.symm)).trans H3.blk
  have kset : Keeps (fun k => k = b) w4 (w4.setCell ⟨b, 0, none⟩ (.slice (some ⟨g, 0, none⟩) (r.res.length + 1) cap)) := (Keeps.refl _ w4).set 0 _
  have k4 : Keeps (fun k => k = b ∨ vr.ownBlock = some k) W3 w4 := Keeps.of_grown hg _ (fun i hi => .inr hi)
  have old : ∀ {T : TypeId} {sz m : Nat} {v : Value} {xs : List Value}, W3.ownsRow 0 T sz v m xs → T ≠ 71 → T ≠ 3 → (w4.setCell ⟨b, 0, none⟩ (.slice (some ⟨g, 0, none⟩) (r.res.length + 1) cap)).ownsRow 0 T sz v m xs := fun h hT hT2 =>
    own_keep (own_keep h (fun k hk => hg.block k (h.lt k hk).2 (fun e => own_ne2 h H3.res hT2 k hk e.symm))) (fun k hk => kset.block k (Nat.lt_of_lt_of_le (h.lt k hk).2 hg.size) (fun e => by subst e; exact own_ne h H3.blk hT hk))
  refine ⟨.slice (some ⟨g, 0, none⟩) (r.res.length + 1) cap, ⟨?_, ?_, old H3.ops (by decide) (by decide), old H3.gone (by decide) (by decide), old H3.pla (by decide) (by decide)⟩, ?_, ?_⟩
  · exact (heap_set hb4).trans (by simp [RfV.cellsOf])
  · have h2 : w4.ownsRow 0 3 1 (.slice (some ⟨g, 0, none⟩) (r.res.length + 1) cap) (r.res ++ [x]).length (intVals (r.res ++ [x])) := by
      rw [show intVals (r.res ++ [x]) = intVals r.res ++ [.int .i64 x] by simp [intVals], List.length_append]; exact hrow
    refine own_keep h2 (fun k hk => kset.block k (h2.lt k hk).2 ?_)
    intro e; subst e; exact own_ne hrow hb4 (by decide) hk
  · exact k4.trans kset (fun _ _ h => .inl h)
  · intro k hk
    obtain rfl : g = k := Option.some.inj hk
    rcases hat with h | h
    · exact .inl h
    · right; omega
theorem fin_pla {W3 w4 : World} {b : Nat} {r : RfV} {vr vo vg vp : Value} {x : PlV} {g cap : Nat} (H3 : RfIs W3 b r vr vo vg vp) (hg : W3.grownBy w4 vp.ownBlock)
    (hrow : w4.ownsRow 0 49 2 (.slice (some ⟨g, 0, none⟩) (r.places.length + 1) cap) (r.places.length + 1) (plVals r.places ++ x.vals)) (hat : vp.ownBlock = some g ∨ g = W3.heap.size) :
    ∃ vp', RfIs (w4.setCell ⟨b, 6, none⟩ (.slice (some ⟨g, 0, none⟩) (r.places.length + 1) cap)) b { r with places := r.places ++ [x] } vr vo vg vp' ∧
      Keeps (fun k => k = b ∨ vp.ownBlock = some k) W3 (w4.setCell ⟨b, 6, none⟩ (.slice (some ⟨g, 0, none⟩) (r.places.length + 1) cap)) ∧ (∀ k, vp'.ownBlock = some k → vp.ownBlock = some k ∨ W3.heap.size ≤ k) := by
  have n1 := own_ne H3.pla H3.blk (by decide)
  have hb4 : w4.heap[b]? = some (.cells (r.cellsOf vr vo vg vp) 71 (0, 0)) := (hg.block b H3.lt (fun e => n1 e.symm)).trans H3.blk
  have kset : Keeps (fun k => k = b) w4 (w4.setCell ⟨b, 6, none⟩ (.slice (some ⟨g, 0, none⟩) (r.places.length + 1) cap)) := (Keeps.refl _ w4).set 6 _
  have k4 : Keeps (fun k => k = b ∨ vp.ownBlock = some k) W3 w4 := Keeps.of_grown hg _ (fun i hi => .inr hi)
  have old : ∀ {T : TypeId} {sz m : Nat} {v : Value} {xs : List Value}, W3.ownsRow 0 T sz v m xs → T ≠ 71 → T ≠ 49 → (w4.setCell ⟨b, 6, none⟩ (.slice (some ⟨g, 0, none⟩) (r.places.length + 1) cap)).ownsRow 0 T sz v m xs := fun h hT hT2 =>
    own_keep (own_keep h (fun k hk => hg.block k (h.lt k hk).2 (fun e => own_ne2 h H3.pla hT2 k hk e.symm))) (fun k hk => kset.block k (Nat.lt_of_lt_of_le (h.lt k hk).2 hg.size) (fun e => by subst e; exact own_ne h H3.blk hT hk))
  refine ⟨.slice (some ⟨g, 0, none⟩) (r.places.length + 1) cap, ⟨?_, old H3.res (by decide) (by decide), old H3.ops (by decide) (by decide), old H3.gone (by decide) (by decide), ?_⟩, ?_, ?_⟩
  · exact (heap_set hb4).trans (by simp [RfV.cellsOf])
  · have h2 : w4.ownsRow 0 49 2 (.slice (some ⟨g, 0, none⟩) (r.places.length + 1) cap) (r.places ++ [x]).length (plVals (r.places ++ [x])) := by
      rw [plVals_snoc, List.length_append]; exact hrow
    refine own_keep h2 (fun k hk => kset.block k (h2.lt k hk).2 ?_)
    intro e; subst e; exact own_ne hrow hb4 (by decide) hk
  · exact k4.trans kset (fun _ _ h => .inl h)
  · intro k hk
    obtain rfl : g = k := Option.some.inj hk
    rcases hat with h | h
    · exact .inl h
    · right; omega
theorem rleast_any (w : World) :
    Calls Try.prog 46 #[] w fun e w' => e = .returned (.agg #[.int .i64 (-9223372036854775808), .int .i64 (-9223372036854775808)]) ∧ Below w.heap.size w w' := by
  go_enter Try.func46, Try.ntmps46
  go_wp2
  exact bodyPost_ret (v := .agg #[.int .i64 (-9223372036854775808), .int .i64 (-9223372036854775808)]) (by simp [results, Try.results46, go_sem]) rfl ⟨rfl, (Below.refl _ _).alloc (Nat.le_refl _) _⟩
theorem infoInt2 : (Try.prog.info? 3).map (fun i => (i.zero, i.size, i.bytes)) = some (some (.int .i64 0), 1, 8) := by kernel_rfl
/-- a new stream of the document's, all of it at or above B -/
def RfNewAt (B : Nat) (w : World) (b : Nat) (r : RfV) : Prop := ∃ vr vp, RfIs w b r vr (.slice none 0 0) (.slice none 0 0) vp ∧ B ≤ b ∧ (∀ k, vr.ownBlock = some k → B ≤ k) ∧ (∀ k, vp.ownBlock = some k → B ≤ k)

/-- the row that New is given -/
def newBad (res : List Int) (sh hold : Int) : Prop := res.length < 1 ∨ 3 < res.length ∨ sh < 1 ∨ 4 < sh ∨ hold < 1 ∨ 64 < hold

set_option maxRecDepth 100000 in
theorem rnew_form (res : List Int) (A : Option Addr) (c : Nat) (sh hold : Int) (w : World) (h : newBad res sh hold) (hl : res.length ≤ 9223372036854775807) :
    Calls Try.prog 23 #[.slice A res.length c, .int .i64 sh, .int .i64 hold] w fun e w' => e = .returned (.tuple #[.pointer none, .int .i64 2]) ∧ w = w' := by
  unfold newBad at h
  by_cases h1 : res.length < 1
  · have g1 : decide (res.length < 1) = true := decide_eq_true h1
    clear h
    go_enter Try.func23, Try.ntmps23
    go_wp2
    go_ret2
    exact ⟨rfl, rfl⟩
  · have g1 : decide (res.length < 1) = false := decide_eq_false h1
    by_cases h2 : 3 < res.length
    · have g2 : decide (3 < res.length) = true := decide_eq_true h2
      clear h
      go_enter Try.func23, Try.ntmps23
      go_wp2
      go_ret2
      exact ⟨rfl, rfl⟩
    · have g2 : decide (3 < res.length) = false := decide_eq_false h2
      by_cases h3 : sh < 1
      · clear h
        go_enter Try.func23, Try.ntmps23
        go_wp2
        go_ret2
        exact ⟨rfl, rfl⟩
      · by_cases h4 : 4 < sh
        · clear h
          go_enter Try.func23, Try.ntmps23
          go_wp2
          go_ret2
          exact ⟨rfl, rfl⟩
        · by_cases h5 : hold < 1
          · clear h
            go_enter Try.func23, Try.ntmps23
            go_wp2
            go_ret2
            exact ⟨rfl, rfl⟩
          · have h6 : 64 < hold := by omega
            clear h
            go_enter Try.func23, Try.ntmps23
            go_wp2
            go_ret2
            exact ⟨rfl, rfl⟩

set_option maxHeartbeats 4000000 in
set_option maxRecDepth 100000 in
theorem rnew_any (res : List Int) (b off c : Nat) (sh hold : Int) (w : World) (hres : RowAt w b off (intVals res)) (hn : ¬ newBad res sh hold) :
    Calls Try.prog 23 #[.slice (some ⟨b, off, none⟩) res.length c, .int .i64 sh, .int .i64 hold] w
      fun e w' => (((∀ j, j < res.length → 1 ≤ nth res j) ∧ ∃ q, e = .returned (.tuple #[.pointer (some ⟨q, 0, none⟩), .int .i64 0]) ∧ RfNewAt w.heap.size w' q (newRf res sh hold (res.length * sh.toNat))) ∨
        ((∃ j, j < res.length ∧ nth res j < 1) ∧ e = .returned (.tuple #[.pointer none, .int .i64 2]))) ∧ Below w.heap.size w w' := by
  obtain ⟨i0, hi, hz0, hz1, hz2⟩ := info_parts infoPl
  obtain ⟨i1, hi1, hy0, hy1, hy2⟩ := info_parts infoInt2
  have hnb : ¬ newBad res sh hold := hn
  unfold newBad at hnb
  obtain ⟨sn, rfl⟩ : ∃ sn : Nat, sh = sn := ⟨sh.toNat, by omega⟩
  have b1 : 1 ≤ res.length := by omega
  have b2 : res.length ≤ 3 := by omega
  have b3 : 1 ≤ sn := by omega
  have b4 : sn ≤ 4 := by omega
  have b5 : 1 ≤ hold := by omega
  have b6 : hold ≤ 64 := by omega
  clear hnb
  have g1 : decide (res.length < 1) = false := decide_eq_false (by omega)
  have g2 : decide (3 < res.length) = false := decide_eq_false (by omega)
  have HRES := Lib.hid hres
  clear hres hn
  go_enter Try.func23, Try.ntmps23
  go_wp2
  go_loopw [10] (fun i wr => ∃ k : Nat, k ≤ res.length ∧ i = .int .i64 k ∧ (∀ j, j < k → 1 ≤ nth res j) ∧ RfNewAt w.heap.size wr w.heap.size (newRf (res.take k) sn hold (k * sn)) ∧ Below w.heap.size w wr) (fun i _ => res.length - (intOf i).toNat)
  case atStart => exact ⟨0, Nat.zero_le _, rfl, (fun j hj => by omega), (by rw [Nat.zero_mul]; exact ⟨.slice none 0 0, .slice none 0 0, ⟨heap_alloc_new w _, World.ownsRow_nil _ _ _ _, World.ownsRow_nil _ _ _ _, World.ownsRow_nil _ _ _ _, World.ownsRow_nil _ _ _ _⟩, Nat.le_refl _, (fun k hk => by cases hk), (fun k hk => by cases hk)⟩), below_alloc _ _⟩
  case round =>
    rename World => wz
    obtain ⟨k, hk, rfl, hall, ⟨vr, vp, hrf, hB, hvr, hvp⟩, hbel⟩ := hrel
    have HRF := Lib.hid hrf
    have HBEL := Lib.hid hbel
    have HALL := Lib.hid hall
    have HVR := Lib.hid hvr
    have HVP := Lib.hid hvp
    have hblt := hrf.lt
    by_cases hlt : k < res.length
    · have r0 := (HRES.out.below hbel).int k hlt
      have c0 : wz.cell? ⟨w.heap.size, 0, none⟩ = some vr := hrf.cell 0 _ rfl
      have f0 := blk_frozen hrf.blk 0
      clear hrf hbel hall hvr hvp
      by_cases hr1 : nth res k < 1
      · go_wp2
        go_ret2
        exact ⟨.inr ⟨⟨k, hlt, hr1⟩, rfl⟩, HBEL.out⟩
      · have hr2 : 1 ≤ nth res k := by omega
        have HN := Lib.hid (own_ne HRF.out.res HRF.out.blk (by decide))
        have hz := HBEL.out.size
        have e0a : ∀ ob, (wz.alloc ob).cell? ⟨w.heap.size, 0, none⟩ = some vr := fun ob => alloc_old (o := ob) c0
        have e0b : ∀ ob, (wz.drew.alloc ob).cell? ⟨w.heap.size, 0, none⟩ = some vr := fun ob => alloc_old (o := ob) c0
        have hkl : (newRf (res.take k) sn hold (k * sn)).res.length = k := by show (res.take k).length = k; rw [List.length_take]; omega
        have HVO : Hid (wz.ownsRow 0 3 1 vr k (intVals (res.take k))) := by show _; have := HRF.out.res; rw [hkl] at this; exact this
        have HKL := Lib.hid hkl
        have HCO : Hid (((newRf (res.take k) sn hold (k * sn)).cellsOf vr (.slice none 0 0) (.slice none 0 0) vp)[0]? = some vr) := rfl
        generalize hRB : newRf (res.take k) sn hold (k * sn) = R0 at *
        have HRB := Lib.hid hRB
        clear hRB hkl
        go_wp2
        go_region_law (first | (refine step_append_lies _ rfl (.tmp 57) (.tmp 62) 22 rfl 0 3 i1 (.int .i64 0) 1 8 Try.underlying22 hi1 hy0 hy1 hy2 rfl (by decide) vr k (intVals (res.take k)) rfl (HVO.out.alloc _).drew ⟨wz.heap.size, 0, none⟩ 1 1 [.int .i64 (nth res k)] rfl rfl (new_row _ _ _) (by simp [Value.oneCell']) (by omega) (by unfold maxLen; omega) (by omega) (Nat.zero_le _) _ rfl ?_; intro g cap w4 hrow hg hat hgl2; have hb4 : w4.heap[w.heap.size]? = some (.cells (R0.cellsOf vr (.slice none 0 0) (.slice none 0 0) vp) 71 (0, 0)) := (hg.block w.heap.size (by simp; omega) (fun e => HN.out e.symm)).trans ((Below.heap_alloc _ _ w.heap.size hblt).trans HRF.out.blk); have e0' : w4.cell? ⟨w.heap.size, 0, none⟩ = some vr := blk_cell hb4 0 _ HCO.out; have f0' := blk_frozen hb4 0; have HG := Lib.hid hg; have HROW := Lib.hid hrow; have HAT := Lib.hid hat; clear hb4 hg hrow hat))
        all_goals
          have hr0 : R0.res = res.take k := by rw [← HRB.out]; rfl
          have F := fin_res (x := nth res k) (g := g) (cap := cap) (HRF.out.below ((below_alloc wz _).drew)) HG.out (by rw [HKL.out, hr0]; exact HROW.out) HAT.out
          rw [HKL.out] at F
          obtain ⟨vr1, R1, K1, F1⟩ := F
          have HR1 := Lib.hid R1
          have HK1 := Lib.hid K1
          have HF1 := Lib.hid F1
          clear R1 K1 F1 HG HROW HAT e0' f0'
          generalize World.setCell w4 ⟨w.heap.size, 0, none⟩ _ = W5 at *
          have HB5 : Hid (Below w.heap.size w W5) := ((HBEL.out.alloc hz _).drew).trans (HK1.out.below (by simp; omega) (fun i hi => hi.elim (fun h => by omega) (HVR.out i)))
          have HN5 : Hid (RfNewAt w.heap.size W5 w.heap.size (newRf (res.take (k + 1)) sn hold (k * sn))) := by
            refine ⟨vr1, vp, ?_, Nat.le_refl _, ?_, HVP.out⟩
            · have := HR1.out
              rw [← HRB.out] at this
              rw [take_succ_nth res k hlt]
              exact this
            · intro i hi
              rcases HF1.out i hi with h | h
              · exact HVR.out i h
              · simp at h; omega
          clear HR1 HK1 HF1 hr0 HCO HVO e0a e0b HKL HRB c0 f0 HN hgl2 HBEL HRF
          go_wp2
          go_loopw [11] (fun i wr => ∃ j : Nat, j ≤ sn ∧ i = .int .i64 j ∧ RfNewAt w.heap.size wr w.heap.size (newRf (res.take (k + 1)) sn hold (k * sn + j)) ∧ Below w.heap.size w wr) (fun i _ => sn - (intOf i).toNat)
          case atStart => exact ⟨0, Nat.zero_le _, rfl, HN5.out, HB5.out⟩
          case round =>
            rename World => wy
            obtain ⟨j, hj, rfl, ⟨vr2, vp2, hrf, hB2, hvr2, hvp2⟩, hbel⟩ := hrel
            have HRF := Lib.hid hrf
            have HBEL := Lib.hid hbel
            have HVR2 := Lib.hid hvr2
            have HVP2 := Lib.hid hvp2
            have hblt2 := hrf.lt
            have hzy := hbel.size
            by_cases hlj : j < sn
            · have c6 : wy.cell? ⟨w.heap.size, 6, none⟩ = some vp2 := hrf.cell 6 _ rfl
              have f6 := blk_frozen hrf.blk 6
              have HN2 := Lib.hid (own_ne hrf.pla hrf.blk (by decide))
              have hkl : (newRf (res.take (k + 1)) sn hold (k * sn + j)).places.length = k * sn + j := by simp [newRf]
              have HVO : Hid (wy.ownsRow 0 49 2 vp2 (k * sn + j) (plVals (List.replicate (k * sn + j) leastP))) := by show _; have := hrf.pla; rw [hkl] at this; exact this
              have HKL := Lib.hid hkl
              have HCO : Hid (((newRf (res.take (k + 1)) sn hold (k * sn + j)).cellsOf vr2 (.slice none 0 0) (.slice none 0 0) vp2)[6]? = some vp2) := rfl
              have HRP : Hid ((newRf (res.take (k + 1)) sn hold (k * sn + j)).places = List.replicate (k * sn + j) leastP) := rfl
              have HNX : Hid ({ newRf (res.take (k + 1)) sn hold (k * sn + j) with places := (newRf (res.take (k + 1)) sn hold (k * sn + j)).places ++ [leastP] } = newRf (res.take (k + 1)) sn hold (k * sn + (j + 1))) := by
                show RfV.mk _ _ _ _ _ _ (List.replicate (k * sn + j) leastP ++ [leastP]) = _
                rw [← rep_snoc]; rfl
              clear hrf hbel hvr2 hvp2 hkl
              generalize hRB : newRf (res.take (k + 1)) sn hold (k * sn + j) = R0 at *
              clear hRB
              have hkb : k * sn + j ≤ 3 * 4 + 4 := by have := Nat.mul_le_mul (show k ≤ 3 by omega) b4; omega
              generalize k * sn + j = m at *
              go_wp2
              go_region_law (first | (go_simp; go_at_call 46; refine (rleast_any _).mono ?_; rintro e w3 ⟨rfl, hb3⟩; have HB3 := Lib.hid (undrew hb3); clear hb3; have e10b : w3.cell? ⟨w.heap.size, 6, none⟩ = some vp2 := old_cell HB3.out c6 hblt2; have e10c : ∀ ob, (w3.alloc ob).cell? ⟨w.heap.size, 6, none⟩ = some vp2 := fun ob => alloc_old (o := ob) e10b) | (refine step_append_lies _ rfl (.tmp 75) (.tmp 77) 26 rfl 0 49 i0 (.agg #[.int .i64 0, .int .i64 0]) 2 16 Try.underlying26 hi hz0 hz1 hz2 rfl (by decide) vp2 m (plVals (List.replicate m leastP)) rfl ((own_keep HVO.out (fun t ht => HB3.out.block t (HVO.out.lt t ht).2)).alloc _) ⟨w3.heap.size, 0, none⟩ 1 1 leastP.vals rfl rfl (new_row' _ _ _) (by simp [PlV.vals, Value.oneCell']) (by omega) (by unfold maxLen; omega) (by omega) (Nat.zero_le _) _ rfl ?_; intro g cap w4 hrow hg hat hgl; have hs3 := HB3.out.size; have hb4 : w4.heap[w.heap.size]? = some (.cells (R0.cellsOf vr2 (.slice none 0 0) (.slice none 0 0) vp2) 71 (0, 0)) := (hg.block w.heap.size (by simp; omega) (fun e => HN2.out e.symm)).trans ((Below.heap_alloc _ _ w.heap.size (by omega)).trans ((HB3.out.block _ hblt2).trans HRF.out.blk)); have e10' : w4.cell? ⟨w.heap.size, 6, none⟩ = some vp2 := blk_cell hb4 6 _ HCO.out; have f10' := blk_frozen hb4 6; have HG := Lib.hid hg; have HROW := Lib.hid hrow; have HAT := Lib.hid hat; clear hb4 hg hrow hat))
              all_goals
                have F := fin_pla (x := leastP) (g := g) (cap := cap) ((HRF.out.below HB3.out).below (below_alloc w3 _)) HG.out (by rw [HKL.out, HRP.out]; exact HROW.out) HAT.out
                rw [HKL.out, HNX.out] at F
                obtain ⟨vp1, R1, K1, F1⟩ := F
                have HR1 := Lib.hid R1
                have HK1 := Lib.hid K1
                have HF1 := Lib.hid F1
                clear R1 K1 F1 HG HROW HAT e10' f10'
                generalize World.setCell w4 ⟨w.heap.size, 6, none⟩ _ = W6 at *
                have hs3 := HB3.out.size
                go_wp2
                go_roundw
                case rel =>
                  refine ⟨j + 1, by omega, by go_num, ⟨vr2, vp1, HR1.out, Nat.le_refl _, HVR2.out, ?_⟩, ?_⟩
                  · intro i hi
                    rcases HF1.out i hi with h | h
                    · exact HVP2.out i h
                    · simp at h; omega
                  · exact ((HBEL.out.trans (HB3.out.mono hzy)).alloc (by omega) _).trans (HK1.out.below (by simp; omega) (fun i hi => hi.elim (fun h => by omega) (HVP2.out i)))
                case measure => simp [intOf]; omega
            · have e : j = sn := by omega
              subst e
              clear hrf hbel hvr2 hvp2
              go_wp2
              go_roundw
              case rel => exact ⟨k + 1, by omega, by go_num, (fun t ht => (Nat.lt_or_ge t k).elim (HALL.out t) (fun h => by rw [show t = k by omega]; exact hr2)), (by rw [Nat.succ_mul]; exact ⟨vr2, vp2, HRF.out, hB2, HVR2.out, HVP2.out⟩), HBEL.out⟩
              case measure => simp [intOf]; omega
    · have e : k = res.length := by omega
      subst e
      clear hrf hbel hall hvr hvp
      go_wp2
      go_ret2
      refine ⟨.inl ⟨HALL.out, _, rfl, vr, vp, ?_, hB, HVR.out, HVP.out⟩, HBEL.out⟩
      have := HRF.out
      rw [List.take_length] at this
      simpa using this
end Go.Proofs.Ytomekiidgdkmiaa
