/-
  Contract of stream.New.
-/
import Derived.Test.YtomekiidgdkmiaaStmOps
import Derived.Deep.RegionLaw
import Derived.Deep.AppendLies
namespace Go.Proofs.Ytomekiidgdkmiaa
open Go.RowKit
set_option linter.unusedVariables false
set_option linter.unusedSimpArgs false

def leastP : PlV := ⟨-9223372036854775808, -9223372036854775808⟩
def newSt (res : List Int) (shards hold : Int) (n : Nat) : StV := ⟨res, shards, hold, 1, OpV.zero, [], List.replicate n leastP⟩
/-- what New asks -/
def newOk (res : List Int) (shards hold : Int) : Prop := 1 ≤ res.length ∧ res.length ≤ 3 ∧ 1 ≤ minL res ∧ 1 ≤ shards ∧ shards ≤ 4 ∧ 1 ≤ hold ∧ hold ≤ 64

theorem rep_snoc (k : Nat) : List.replicate (k + 1) leastP = List.replicate k leastP ++ [leastP] := by
  rw [List.replicate_succ', ]
theorem new_step {w wr w3 w4 : World} {a : Nat} {res : List Int} {sn hold : Int} {k : Nat} {vr vp : Value} {g cap : Nat} {O : Obj} (H : StIs wr a (newSt res sn hold k) vr (.slice none 0 0) vp) (hv : ∀ i, vp.ownBlock = some i → w.heap.size ≤ i) (ha : w.heap.size ≤ a)
    (hb : Below w.heap.size w wr) (h3 : Below wr.heap.size wr w3) (hg : (w3.alloc O).grownBy w4 vp.ownBlock)
    (hrow : w4.ownsRow 0 49 2 (.slice (some ⟨g, 0, none⟩) (k + 1) cap) (k + 1) (plVals (List.replicate k leastP) ++ leastP.vals)) (hat : vp.ownBlock = some g ∨ g = (w3.alloc O).heap.size) :
    (∃ vp', StIs (w4.setCell ⟨a, 10, none⟩ (.slice (some ⟨g, 0, none⟩) (k + 1) cap)) a (newSt res sn hold (k + 1)) vr (.slice none 0 0) vp' ∧ ∀ i, vp'.ownBlock = some i → w.heap.size ≤ i) ∧
      Below w.heap.size w (w4.setCell ⟨a, 10, none⟩ (.slice (some ⟨g, 0, none⟩) (k + 1) cap)) := by
  have H3 : StIs (w3.alloc O) a (newSt res sn hold k) vr (.slice none 0 0) vp := (H.below h3).below (below_alloc w3 O)
  have n1 := own_ne H3.pla H3.blk (by decide)
  have hb4 : w4.heap[a]? = some (.cells ((newSt res sn hold k).cellsOf vr (.slice none 0 0) vp) 86 (0, 0)) := (hg.block a H3.lt (fun e => n1 e.symm)).trans H3.blk
  have kset : Keeps (fun k => k = a) w4 (w4.setCell ⟨a, 10, none⟩ (.slice (some ⟨g, 0, none⟩) (k + 1) cap)) := (Keeps.refl _ w4).set 10 _
  have hsz := hb.size
  have hs3 := h3.size
  refine ⟨⟨.slice (some ⟨g, 0, none⟩) (k + 1) cap, ⟨?_, ?_, ?_, ?_⟩, ?_⟩, ?_⟩
  · exact (heap_set hb4).trans (by simp [StV.cellsOf, newSt])
  · refine own_keep (own_keep H3.res (fun i hi => hg.block i (H3.res.lt i hi).2 (fun e => own_ne2 H3.res H3.pla (by decide) i hi e.symm))) (fun i hi => kset.block i ?_ ?_)
    · exact Nat.lt_of_lt_of_le (H3.res.lt i hi).2 hg.size
    · intro e; subst e; exact own_ne H3.res H3.blk (by decide) hi
  · exact World.ownsRow_nil _ _ _ _
  · have h2 : w4.ownsRow 0 49 2 (.slice (some ⟨g, 0, none⟩) (k + 1) cap) (newSt res sn hold (k + 1)).places.length (plVals (newSt res sn hold (k + 1)).places) := by
      have e : (newSt res sn hold (k + 1)).places = List.replicate k leastP ++ [leastP] := rep_snoc k
      rw [e, plVals_snoc]; simpa using hrow
    refine own_keep h2 (fun i hi => kset.block i (h2.lt i hi).2 ?_)
    intro e; subst e; exact own_ne hrow hb4 (by decide) hi
  · intro i hi
    obtain rfl : g = i := Option.some.inj hi
    rcases hat with h | h
    · exact hv _ h
    · rw [h]; simp; omega
  · refine Below.setCell ?_ ha _
    exact ((hb.trans (h3.mono hsz)).alloc (by omega) O).grown hg (by simp; omega) hv

theorem own_rep {w : World} {a : Nat} {res : List Int} {sn hold : Int} {k : Nat} {vr vs vp : Value} (H : StIs w a (newSt res sn hold k) vr vs vp) (o : Obj) : (w.alloc o).ownsRow 0 49 2 vp k (plVals (List.replicate k leastP)) := by
  have := H.pla.alloc o
  simpa [newSt] using this
theorem new_blk {w w4 : World} {a : Nat} {res : List Int} {sn hold : Int} {k : Nat} {vr vs vp : Value} {O : Obj} (H : StIs w a (newSt res sn hold k) vr vs vp) (hg : (w.alloc O).grownBy w4 vp.ownBlock) :
    w4.heap[a]? = some (.cells ((newSt res sn hold k).cellsOf vr vs vp) 86 (0, 0)) := by
  have H3 := H.below (below_alloc w O)
  exact (hg.block a H3.lt (fun e => own_ne H3.pla H3.blk (by decide) e.symm)).trans H3.blk

set_option maxRecDepth 100000 in
theorem new_ok (res : List Int) (b off c : Nat) (sh hold : Int) (w : World) (hres : RowAt w b off (intVals res)) (hok : newOk res sh hold) (hrr : ∀ i, i < res.length → I64 (nth res i)) :
    Calls Try.prog 11 #[.slice (some ⟨b, off, none⟩) res.length c, .int .i64 sh, .int .i64 hold] w
      fun e w' => ∃ a, e = .returned (.tuple #[.pointer (some ⟨a, 0, none⟩), .nilIface]) ∧ Stm w' a (newSt res sh hold (res.length * sh.toNat)) (fun k => w.heap.size ≤ k) ∧ Below w.heap.size w w' := by
  obtain ⟨h1, h2, h3, h4, h5, h6, h7⟩ := hok
  obtain ⟨i0, hi, hz0, hz1, hz2⟩ := info_parts infoPl
  obtain ⟨sn, rfl⟩ : ∃ sn : Nat, sh = sn := ⟨sh.toNat, by omega⟩
  have HN : Hid ((res.length : Int) * (sn : Int) = ((res.length * sn : Nat) : Int)) := by show _ = _; simp
  have hNb : res.length * sn ≤ 3 * 4 := Nat.mul_le_mul h2 (by omega)
  obtain ⟨N, hN⟩ : ∃ N, N = res.length * sn := ⟨_, rfl⟩
  rw [← hN] at HN hNb
  have HN2 := Lib.hid hN
  clear hN
  have g1 : decide (res.length < 1) = false := decide_eq_false (by omega)
  have g2 : decide (3 < res.length) = false := decide_eq_false (by omega)
  have g3 : decide (minL res < 1) = false := decide_eq_false (by omega)
  have g4 : decide ((sn : Int) < 1) = false := decide_eq_false (by omega)
  have g5 : decide (4 < (sn : Int)) = false := decide_eq_false (by omega)
  have g6 : decide (hold < 1) = false := decide_eq_false (by omega)
  have g7 : decide (64 < hold) = false := decide_eq_false (by omega)
  have HRES := Lib.hid hres
  have HSL : Hid (SlAt w (.slice (some ⟨b, off, none⟩) res.length c) res.length (intVals res)) := .inr ⟨b, off, c, rfl, by have := cell_lt (hres.int 0 h1); exact this, hres⟩
  clear hres
  go_enter Try.func11, Try.ntmps11
  go_wp2_with (first | (go_at_call 32; refine (min_any res b off c _ h1 (by omega) HRES.out).mono ?_; rintro e w' ⟨rfl, rfl⟩) | (go_at_call 33; refine (cloneint_any res (.slice (some ⟨b, off, none⟩) res.length c) _ (by omega) HSL.out).mono ?_; rintro e w1 ⟨vr, rfl, hvr, hb1⟩; obtain ⟨rb, rc, hv, hg, hgl⟩ := own_some hvr h1; subst hv; have HVR := Lib.hid hvr; have HB1 := Lib.hid hb1; clear hvr hb1) | (go_at_call 34; refine (lanes_any (.slice (some ⟨rb, 0, none⟩) res.length rc) (some ⟨rb, 0, none⟩) res.length rc sn _ (by omega) h4 (by omega)).mono ?_; rw [HN.out]; rintro e w2 ⟨rfl, hb2⟩; have HB2 := Lib.hid hb2; clear hb2))
  go_loopw [51] (fun i wr => ∃ k : Nat, k ≤ N ∧ i = .int .i64 k ∧ (∃ vp, StIs wr w1.heap.size (newSt res sn hold k) (.slice (some ⟨rb, 0, none⟩) res.length rc) (.slice none 0 0) vp ∧ ∀ g, vp.ownBlock = some g → w.heap.size ≤ g) ∧ Below w.heap.size w wr) (fun i _ => N - (intOf i).toNat)
  case atStart =>
    have hs1 := HB1.out.size
    have h0 : StIs (w1.alloc (.cells ((newSt res sn hold 0).cellsOf (.slice (some ⟨rb, 0, none⟩) res.length rc) (.slice none 0 0) (.slice none 0 0)) 86)) w1.heap.size (newSt res sn hold 0) (.slice (some ⟨rb, 0, none⟩) res.length rc) (.slice none 0 0) (.slice none 0 0) :=
      ⟨heap_alloc_new w1 _, own_down (HVR.out.alloc _) (Nat.zero_le _), World.ownsRow_nil _ _ _ _, World.ownsRow_nil _ _ _ _⟩
    exact ⟨0, Nat.zero_le _, rfl, ⟨_, h0.below HB2.out, fun g hg => by cases hg⟩, (HB1.out.alloc hs1 _).trans (HB2.out.mono (by simp; omega))⟩
  case round =>
    obtain ⟨k, hk, rfl, ⟨vp, hst, hvp⟩, hbel⟩ := hrel
    by_cases hlt : k < N
    · have e10 : wr.cell? ⟨w1.heap.size, 10, none⟩ = some vp := hst.cell 10 _ rfl
      have HST := Lib.hid hst
      have HVP := Lib.hid hvp
      have HBEL := Lib.hid hbel
      clear hst hvp hbel
      have hs1 := HB1.out.size
      have hlt9 := HST.out.lt
      go_wp2
      go_region_law (first | (go_simp; go_at_call 35; refine (least_any _).mono ?_; rintro e w3 ⟨rfl, hb3⟩; have HB3 := Lib.hid (undrew hb3); clear hb3; have e10b : w3.cell? ⟨w1.heap.size, 10, none⟩ = some vp := (HST.out.below HB3.out).cell 10 _ rfl; have e10c : ∀ ob, (w3.alloc ob).cell? ⟨w1.heap.size, 10, none⟩ = some vp := fun ob => alloc_old (o := ob) e10b) | (refine step_append_lies _ rfl (.tmp 57) (.tmp 59) 26 rfl 0 49 i0 (.agg #[.int .i64 0, .int .i64 0]) 2 16 Try.underlying26 hi hz0 hz1 hz2 rfl (by decide) vp k (plVals (List.replicate k leastP)) rfl (own_rep (HST.out.below HB3.out) _) ⟨w3.heap.size, 0, none⟩ 1 1 leastP.vals rfl rfl (new_row' _ _ _) (by simp [PlV.vals, Value.oneCell']) (by omega) (by unfold maxLen; omega) (by omega) (Nat.zero_le _) _ rfl ?_; intro g cap w4 hrow hg hat hgl; have hb4 := new_blk (HST.out.below HB3.out) hg; have e10' : w4.cell? ⟨w1.heap.size, 10, none⟩ = some vp := blk_cell hb4 10 _ rfl; have f10' := blk_frozen hb4 10; clear hb4))
      all_goals
        go_wp2
        go_roundw
        case rel => exact ⟨k + 1, by omega, by go_num, new_step HST.out HVP.out hs1 HBEL.out HB3.out hg hrow hat⟩
        case measure => simp [intOf]; omega
    · have e : k = N := by omega
      subst e
      have HST := Lib.hid hst
      have HVP := Lib.hid hvp
      have HBEL := Lib.hid hbel
      have hs1 := HB1.out.size
      clear hst hvp hbel
      go_wp2
      go_ret2
      refine ⟨w1.heap.size, rfl, ⟨?_, .slice (some ⟨rb, 0, none⟩) res.length rc, .slice none 0 0, vp, ?_, ?_⟩, HBEL.out⟩
      · refine ⟨h1, h2, fun i hi => ⟨?_, (hrr i hi).2⟩, h4, h5, h6, h7, by simp [newSt], by simp [newSt], ?_, by simp [newSt], by simp [newSt, OpV.zero, I64], by simp [newSt]⟩
        · have := minL_le res (nth res i) (nth_mem hi)
          show 1 ≤ nth res i
          omega
        · simp [newSt]
      · have := HST.out
        rw [HN2.out] at this
        simpa using this
      · intro j hj
        rcases hj with rfl | hj | hj
        · exact hs1
        · cases hj
        · exact HVP.out j hj
end Go.Proofs.Ytomekiidgdkmiaa
