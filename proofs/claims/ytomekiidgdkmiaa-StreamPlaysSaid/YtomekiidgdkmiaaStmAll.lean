/-
  slices.Insert at the end; a stream's all and Replay, where no sample is held.
-/
import Derived.Test.YtomekiidgdkmiaaSearch
import Derived.Test.YtomekiidgdkmiaaDelOp2
import Derived.Test.YtomekiidgdkmiaaStmOps
namespace Go.Proofs.Ytomekiidgdkmiaa
open Go.RowKit
set_option linter.unusedVariables false
set_option linter.unusedSimpArgs false

set_option maxRecDepth 100000 in
theorem insert_end (l : List OpV) (v : Value) (B g c : Nat) (y : OpV) (w : World) (hl : l.length ≤ 3000000000000) (hown : w.ownsRow B 34 5 v l.length (opVals l)) (hB : B ≤ w.heap.size) (hy : RowAt w g 0 y.vals) :
    Calls Try.prog 61 #[v, .int .i64 l.length, .slice (some ⟨g, 0, none⟩) 1 c] w
      (SomeV fun v' w' => w'.ownsRow B 34 5 v' (l.length + 1) (opVals (l ++ [y])) ∧ Below B w w') := by
  obtain ⟨i0, hi, hz0, hz1, hz2⟩ := info_parts infoOp
  obtain ⟨A, cap, hv⟩ : ∃ A cap, v = .slice A l.length cap := by
    rcases own_sl hown with ⟨h1, h2, _⟩ | ⟨b, off, c, h1, _⟩
    · exact ⟨none, 0, by rw [h1, h2]⟩
    · exact ⟨some ⟨b, off, none⟩, c, h1⟩
  subst hv
  have hcap : l.length ≤ cap := by
    rcases hown.2 with ⟨h1, h2⟩ | ⟨g', cap', cur, h1, _, _, h3, _⟩
    · omega
    · simp only [Value.slice.injEq] at h1
      obtain ⟨_, _, rfl⟩ := h1; exact h3
  have g0 : ((1 : Int) == 0) = false := by decide
  have g1 : ((l.length : Int) == (l.length : Int)) = true := by simp
  have HOWN := Lib.hid hown
  have HY := Lib.hid hy
  clear hown hy
  go_enter Try.func61, Try.ntmps61
  go_wp2_with (at_builtin; refine wpList_append_own _ rfl (.tmp 23) (.tmp 24) 40 rfl B 34 i0 (.agg #[.int .i64 0, .int .i64 0, .int .i64 0, .int .i64 0, .int .i64 0]) 5 40 Try.underlying40 hi hz0 hz1 hz2 rfl (by decide) _ l.length (opVals l) rfl HOWN.out ⟨g, 0, none⟩ 1 c y.vals rfl rfl HY.out.add (by simp [OpV.vals, Value.oneCell']) (by unfold maxLen; omega) (by omega) hB ?_; intro v' w1 hrow hg _hv)
  all_goals
    go_ret
    refine ⟨v', rfl, ?_, (Below.refl _ _).grown hg hB (fun k hk => (HOWN.out.lt k hk).1)⟩
    rw [opVals_snoc]; exact hrow

set_option maxRecDepth 100000 in
theorem search_empty (A : Option Addr) (c : Nat) (y : OpV) (f : Value) (w : World) :
    Calls Try.prog 59 #[.slice A 0 c, .agg #[.int .i64 y.seq, .int .i64 y.kind, .int .i64 y.time, .int .i64 y.key, .int .i64 y.val], f] w
      fun e w' => e = .returned (.tuple #[.int .i64 0, .bool false]) ∧ Below w.heap.size w w' := by
  go_enter Try.func59, Try.ntmps59
  go_wp2
  go_loopw [9, 10] (fun i j wr => i = .int .i64 0 ∧ j = .int .i64 0 ∧ Below w.heap.size w wr) (fun _ _ _ => 0)
  case atStart => exact ⟨rfl, rfl, below_alloc _ _⟩
  case round =>
    obtain ⟨rfl, rfl, hb⟩ := hrel
    have HB := Lib.hid hb
    clear hb
    go_wp2
    go_quiet (fail)
    go_wp2
    go_ret2
    exact ⟨rfl, below_drewN HB.out _⟩

theorem insert_zero (v : Value) (B g c : Nat) (y : OpV) (w : World) (hown : w.ownsRow B 34 5 v 0 []) (hB : B ≤ w.heap.size) (hy : RowAt w g 0 y.vals) :
    Calls Try.prog 61 #[v, .int .i64 0, .slice (some ⟨g, 0, none⟩) 1 c] w
      (SomeV fun v' w' => w'.ownsRow B 34 5 v' 1 (opVals [y]) ∧ Below B w w') :=
  insert_end [] v B g c y w (by simp) hown hB hy
theorem row_new (w : World) (cs : List Value) (T : TypeId) : RowAt (w.alloc (.cells cs.toArray T)) w.heap.size 0 cs := by
  intro j u h
  rw [Nat.zero_add]
  exact box_cell w cs.toArray T _ j u (by simpa using h)

set_option maxRecDepth 100000 in
/-- the samples that are held, and the last mark behind them: where none is held -/
theorem all_none (a : Nat) (s : StV) (vr vs vp : Value) (w : World) (h : StIs w a s vr vs vp) (hs : s.samples = []) (hm : 1 ≤ s.mark.seq) (hm2 : s.mark.seq ≤ 4611686018427387904) :
    Calls Try.prog 44 #[.pointer (some ⟨a, 0, none⟩)] w
      (SomeV fun v' w' => w'.ownsRow w.heap.size 34 5 v' 1 (opVals [s.mark]) ∧ Below w.heap.size w w') := by
  have e9 : w.cell? ⟨a, 9, none⟩ = some vs := h.cell 9 _ rfl
  have H := Lib.hid h
  have hlt := h.lt
  have HSL : Hid (SlAt w vs ([] : List OpV).length (opVals [])) := by
    have := own_sl h.sam
    rw [hs] at this; exact this
  clear h hs
  go_enter Try.func44, Try.ntmps44
  go_wp2_with (go_at_call 37; refine (cloneOp_any [] vs _ (by simp) HSL.out).mono ?_; rintro e w1 ⟨v1, rfl, h1, hb1⟩; obtain ⟨A1, c1, hv1⟩ : ∃ A c, v1 = .slice A 0 c := (by rcases h1.2 with ⟨q, _⟩ | ⟨g, cap, cur, q, _⟩; exact ⟨none, 0, q⟩; exact ⟨_, _, q⟩); subst hv1; have HB1 := Lib.hid hb1; have H1 := Lib.hid (H.out.below hb1); have HR1 := Lib.hid h1; have k4 : w1.cell? ⟨a, 4, none⟩ = some (.int .i64 s.mark.seq) := (H.out.below hb1).cell 4 _ rfl; have k5 : w1.cell? ⟨a, 5, none⟩ = some (.int .i64 s.mark.kind) := (H.out.below hb1).cell 5 _ rfl; have k6 : w1.cell? ⟨a, 6, none⟩ = some (.int .i64 s.mark.time) := (H.out.below hb1).cell 6 _ rfl; have k7 : w1.cell? ⟨a, 7, none⟩ = some (.int .i64 s.mark.key) := (H.out.below hb1).cell 7 _ rfl; have k8 : w1.cell? ⟨a, 8, none⟩ = some (.int .i64 s.mark.val) := (H.out.below hb1).cell 8 _ rfl; clear h1 hb1)
  go_wp2_with (first | (go_at_call 59; refine (search_empty A1 c1 s.mark _ _).mono ?_; rintro e w2 ⟨rfl, hb2⟩; have HB2 := Lib.hid hb2; have H2 := Lib.hid (H1.out.below hb2); have k4' : w2.cell? ⟨a, 4, none⟩ = some (.int .i64 s.mark.seq) := (H1.out.below hb2).cell 4 _ rfl; have k5' : w2.cell? ⟨a, 5, none⟩ = some (.int .i64 s.mark.kind) := (H1.out.below hb2).cell 5 _ rfl; have k6' : w2.cell? ⟨a, 6, none⟩ = some (.int .i64 s.mark.time) := (H1.out.below hb2).cell 6 _ rfl; have k7' : w2.cell? ⟨a, 7, none⟩ = some (.int .i64 s.mark.key) := (H1.out.below hb2).cell 7 _ rfl; have k8' : w2.cell? ⟨a, 8, none⟩ = some (.int .i64 s.mark.val) := (H1.out.below hb2).cell 8 _ rfl; clear hb2) | (go_at_call 61; refine (insert_zero (.slice A1 0 c1) w.heap.size w2.heap.size 1 s.mark _ (own_keep HR1.out (fun k hk => ((below_alloc _ _).block k (Nat.lt_of_lt_of_le (HR1.out.lt k hk).2 HB2.out.size)).trans (HB2.out.block k (HR1.out.lt k hk).2))) (by have h1 := HB1.out.size; have h2 := HB2.out.size; simp; omega) (row_new w2 s.mark.vals _)).mono ?_; rintro e w3 ⟨v3, rfl, hr3, hb3⟩))
  go_ret
  have q1 := HB1.out.size
  have q2 := HB2.out.size
  exact ⟨v3, rfl, hr3, HB1.out.trans ((HB2.out.mono q1).trans (((below_alloc w2 _).mono (by omega)).trans hb3))⟩
end Go.Proofs.Ytomekiidgdkmiaa
