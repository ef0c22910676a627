/-
  The chapter's example.
-/
import Derived.Test.YtomekiidgdkmiaaStmB
import Derived.Test.YtomekiidgdkmiaaErrs
namespace Go.Proofs.Ytomekiidgdkmiaa
open Go.RowKit
set_option linter.unusedVariables false
set_option linter.unusedSimpArgs false

theorem new_ten (b : Nat) (hold : Int) (w : World) (h1 : 1 ≤ hold) (h2 : hold ≤ 64) (hres : w.cell? ⟨b, 0, none⟩ = some (.int .i64 10)) :
    Calls Try.prog 11 #[.slice (some ⟨b, 0, none⟩) 1 1, .int .i64 1, .int .i64 hold] w
      fun e w' => ∃ a, e = .returned (.tuple #[.pointer (some ⟨a, 0, none⟩), .nilIface]) ∧ SB w.heap.size w' a (newSt [10] 1 hold 1) ∧ Below w.heap.size w w' := by
  refine new_b [10] b 0 1 1 hold w ?_ ⟨by decide, by decide, by decide, by decide, by decide, h1, h2⟩ ?_
  · intro j u h
    have hj : j = 0 := by
      rcases j with _ | j
      · rfl
      · simp [intVals] at h
    subst hj
    obtain rfl : Value.int .i64 10 = u := by simpa [intVals] using h
    exact hres
  · intro i hi
    have : i = 0 := by simpa using hi
    subst this
    constructor <;> decide

def aliveA : StV := newSt [10] 1 2 1
def aliveB : StV := sampled aliveA ⟨1, 1, 5, 1, 7⟩
def aliveC : StV := marked aliveB ⟨2, 2, 10, 0, 0⟩
def aliveD : StV := cutSt aliveC [⟨1, -9223372036854775808⟩]
theorem aliveD_is : aliveD = ⟨[10], 1, 2, 3, ⟨2, 2, 10, 0, 0⟩, [], [⟨1, -9223372036854775808⟩]⟩ := by
  simp [aliveD, cutSt, aliveC, aliveB, aliveA, marked, sampled, newSt, raiseP, maxP, PlV.less, lessP, leastP, covered, idsOf, idsFrom, idOf, dv, md, IdV.place, firstAt, pln]

theorem RowAt.keep {w w1 : World} {b off : Nat} {vs : List Value} {S : Nat → Prop} (h : RowAt w b off vs) (hk : Keeps S w w1) (hl : b < w.heap.size) (hs : ¬ S b) : RowAt w1 b off vs :=
  fun j u hj => (World.cell?_of_block (a := ⟨b, off + j, none⟩) (hk.block b hl hs)).trans (h j u hj)
theorem sample_late_b' {F : Nat → Prop} {a : Nat} {s : StV} {w : World} (t k x : Int) (h : Stm w a s F) (he : s.early t = true) :
    Calls Try.prog 12 #[.pointer (some ⟨a, 0, none⟩), .int .i64 t, .int .i64 k, .int .i64 x] w
      fun e w' => e = .returned (.tuple #[.agg #[.int .i64 0, .int .i64 0, .int .i64 0, .int .i64 0, .int .i64 0], .iface 44 (.int .i64 8)]) ∧ Below w.heap.size w w' := by
  obtain ⟨_, vr, vs, vp, h1, _⟩ := h
  exact sample_late a s vr vs vp t k x w h1 he
theorem mark_back_b' {F : Nat → Prop} {a : Nat} {s : StV} {w : World} (t : Int) (h : Stm w a s F) (he : s.early t = true) :
    Calls Try.prog 20 #[.pointer (some ⟨a, 0, none⟩), .int .i64 t] w
      fun e w' => e = .returned (.tuple #[.agg #[.int .i64 0, .int .i64 0, .int .i64 0, .int .i64 0, .int .i64 0], .iface 44 (.int .i64 9)]) ∧ Below w.heap.size w w' := by
  obtain ⟨_, vr, vs, vp, h1, _⟩ := h
  exact mark_back a s vr vs vp t w h1 he
theorem alive_cut {F : Nat → Prop} {a : Nat} {w : World} (h : Stm w a aliveC F) (O : Obj) (T : TypeId) :
    Calls Try.prog 15 #[.pointer (some ⟨a, 0, none⟩), .slice (some ⟨w.heap.size + 1, 0, none⟩) 1 1] ((w.alloc O).alloc (.cells #[.int .i64 1, .int .i64 (-9223372036854775808)] T))
      fun e w' => e = .returned (.tuple #[.int .i64 1, .nilIface]) ∧ Stm w' a aliveD F ∧ Keeps F ((w.alloc O).alloc (.cells #[.int .i64 1, .int .i64 (-9223372036854775808)] T)) w' := by
  have hr := row_new (w.alloc O) (PlV.vals ⟨1, -9223372036854775808⟩) T
  have e1 : (w.alloc O).heap.size = w.heap.size + 1 := by simp
  rw [e1] at hr
  have q := cut_ok_f (w := (w.alloc O).alloc (.cells #[.int .i64 1, .int .i64 (-9223372036854775808)] T)) [⟨1, -9223372036854775808⟩] (w.heap.size + 1) 0 1 h ((below_alloc _ _).trans ((below_alloc _ _).mono (by simp))) (by decide) hr (.inl (by omega))
  refine q.mono ?_
  rintro e w' ⟨rfl, h3, h4⟩
  refine ⟨?_, h3, h4⟩
  have : (cutSt aliveC [⟨1, -9223372036854775808⟩]).samples = [] := congrArg StV.samples aliveD_is
  rw [this]
  rfl

theorem alive_replay {F : Nat → Prop} {a : Nat} {w : World} (h : Stm w a aliveD F) :
    Calls Try.prog 22 #[.pointer (some ⟨a, 0, none⟩), .int .i64 1, .int .i64 9] w
      fun e w' => ∃ g c, e = .returned (.tuple #[.slice (some ⟨g, 0, none⟩) 1 c, .int .i64 2]) ∧ RowAt w' g 0 (OpV.vals ⟨2, 2, 10, 0, 0⟩) ∧ Below w.heap.size w w' := by
  rw [aliveD_is] at h
  obtain ⟨_, vr, vs, vp, h1, _⟩ := h
  refine (replay_all a _ vr vs vp [⟨2, 2, 10, 0, 0⟩] 1 9 w h1 (by decide) (fun w1 hb => ?_) (by decide) (by decide) (by decide)).mono ?_
  · exact all_none a _ vr vs vp w1 (h1.below hb) rfl (by decide) (by decide)
  · rintro e w' ⟨v', rfl, h2, h3⟩
    obtain ⟨g, cap, hv, h4, h5⟩ := own_some h2 (by decide)
    subst hv
    exact ⟨g, cap, rfl, own_row h2, h3⟩
set_option maxHeartbeats 1000000 in
set_option maxRecDepth 100000 in
theorem alive_any (w : World) : Calls Try.prog 9 #[] w fun e w' => e = .returned (.bool true) ∧ Below w.heap.size w w' := by
  have hc := box_cell w #[.int .i64 10] 3 (0, 0) 0 _ rfl
  go_enter Try.func9, Try.ntmps9
  go_wp2_with (first
    | (go_at_call 11; refine (new_ten w.heap.size 2 _ (by decide) (by decide) hc).mono ?_; rintro e w1 ⟨a, rfl, hs1, hb1⟩; have HB1 := Lib.hid ((below_alloc w _).trans (hb1.mono (by simp))); replace hs1 := hs1.down (B' := w.heap.size) (by simp); clear hb1 hc)
    | (go_at_call 12; refine (sample_ok_b 5 1 7 hs1 rfl (by decide)).mono ?_; rintro e w2 ⟨rfl, hb2⟩; replace hs1 := hs1.below hb2; replace HB1 := Lib.hid (HB1.out.trans (hb2.mono (by have := HB1.out.size; omega))); clear hb2)
    | (go_at_call 13; refine (put_sample_b 1 5 1 7 (hs1.below (below_alloc _ _)) rfl rfl (by constructor <;> decide) (by decide) (by decide)).mono ?_; rintro e w3 ⟨rfl, hs2, hb3⟩; have HB3 := Lib.hid ((HB1.out.alloc HB1.out.size _).trans hb3); clear hb3 hs1 HB1)
    | (go_at_call 20; refine (mark_ok_b 10 hs2 rfl).mono ?_; rintro e w4 ⟨rfl, hb4⟩; replace hs2 := hs2.below hb4; have HB4 := Lib.hid (HB3.out.trans (hb4.mono (by have := HB3.out.size; omega))); clear hb4 HB3)
    | (go_at_call 13; refine (put_mark_f (F := fun k => w.heap.size ≤ k ∧ k ≠ w4.heap.size) 2 10 (hs2.to (below_alloc _ _) (fun k h1 h2 => ⟨h2, by omega⟩)) rfl rfl (by constructor <;> decide) (by decide)).mono ?_; rintro e w5 ⟨rfl, hs5, hk5⟩; have HX := Lib.hid ((row_new w4 (OpV.vals ⟨2, 2, 10, 0, 0⟩) 34).keep hk5 (by simp) (by simp)); have HB5 := Lib.hid ((HB4.out.alloc HB4.out.size _).trans (hk5.below (by have := HB4.out.size; simp; omega) (fun i hi => hi.1))); clear hk5 hs2 HB4)
    | (go_at_call 12; refine (sample_late_b' 9 1 1 hs5 (by decide)).mono ?_; rintro e w6 ⟨rfl, hb6⟩; replace hs5 := hs5.below hb6; replace HX := Lib.hid (HX.out.below hb6); have HB6 := Lib.hid (HB5.out.trans (hb6.mono (by have := HB5.out.size; omega))); clear hb6 HB5)
    | (go_at_call 20; refine (mark_back_b' 9 (hs5.below (below_alloc _ _)) (by decide)).mono ?_; rintro e w7 ⟨rfl, hb7⟩; replace hs5 := (hs5.below (below_alloc _ _)).below hb7; replace HX := Lib.hid ((HX.out.below (below_alloc _ _)).below hb7); have HB7 := Lib.hid ((HB6.out.alloc HB6.out.size _).trans (hb7.mono (by have := HB6.out.size; simp; omega))); clear hb7 HB6)
    | (go_at_call 15; refine (alive_cut hs5 _ _).mono ?_; rintro e w8 ⟨rfl, hs8, hk8⟩; replace HX := Lib.hid ((((HX.out.below (below_alloc _ _)).below (below_alloc _ _))).keep hk8 (by have := cell_lt (HX.out 0 _ rfl); simp at this ⊢; omega) (by simp)); have HB8 := Lib.hid (((HB7.out.alloc HB7.out.size _).alloc (by have := HB7.out.size; simp; omega) _).trans (hk8.below (by have := HB7.out.size; simp; omega) (fun i hi => hi.1))); clear hk8 hs5 HB7)
    | (go_at_call 22; refine (alive_replay hs8).mono ?_; rintro e w9 ⟨g, c, rfl, hr9, hb9⟩; replace HX := Lib.hid (HX.out.below hb9); have HB9 := Lib.hid (HB8.out.trans (hb9.mono (by have := HB8.out.size; omega))); have HR9 := Lib.hid hr9; clear hb9 hs8 HB8 hr9)
    )
  have m0 : w9.cell? ⟨w4.heap.size, 0, none⟩ = some (.int .i64 2) := HX.out 0 _ rfl
  have m1 : w9.cell? ⟨w4.heap.size, 1, none⟩ = some (.int .i64 2) := HX.out 1 _ rfl
  have m2 : w9.cell? ⟨w4.heap.size, 2, none⟩ = some (.int .i64 10) := HX.out 2 _ rfl
  have m3 : w9.cell? ⟨w4.heap.size, 3, none⟩ = some (.int .i64 0) := HX.out 3 _ rfl
  have m4 : w9.cell? ⟨w4.heap.size, 4, none⟩ = some (.int .i64 0) := HX.out 4 _ rfl
  have l0 : w9.cell? ⟨g, 0, none⟩ = some (.int .i64 2) := HR9.out 0 _ rfl
  have l1 : w9.cell? ⟨g, 1, none⟩ = some (.int .i64 2) := HR9.out 1 _ rfl
  have l2 : w9.cell? ⟨g, 2, none⟩ = some (.int .i64 10) := HR9.out 2 _ rfl
  have l3 : w9.cell? ⟨g, 3, none⟩ = some (.int .i64 0) := HR9.out 3 _ rfl
  have l4 : w9.cell? ⟨g, 4, none⟩ = some (.int .i64 0) := HR9.out 4 _ rfl
  go_quiet (fail)
  go_wp2
  go_ret
  exact ⟨rfl, below_drewN HB9.out _⟩
end Go.Proofs.Ytomekiidgdkmiaa
