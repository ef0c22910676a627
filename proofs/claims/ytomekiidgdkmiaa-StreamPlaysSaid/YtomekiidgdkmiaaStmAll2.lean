/-
  A stream's all and Replay, whatever it holds.
-/
import Derived.Test.YtomekiidgdkmiaaInsert
import Derived.Test.YtomekiidgdkmiaaStmReplay
namespace Go.Proofs.Ytomekiidgdkmiaa
open Go.RowKit
set_option linter.unusedVariables false
set_option linter.unusedSimpArgs false

def allOf (s : StV) : List OpV :=
  if 0 < s.mark.seq then s.samples.filter (fun o => decide (o.seq < s.mark.seq)) ++ s.mark :: s.samples.filter (fun o => !decide (o.seq < s.mark.seq)) else s.samples
theorem all_split (s : StV) (r : Nat) (hm : 0 < s.mark.seq) (h : SeqAt r s.samples s.mark.seq) : s.samples.take r ++ s.mark :: s.samples.drop r = allOf s := by
  obtain ⟨h1, h2, h3⟩ := h
  unfold allOf
  rw [if_pos hm]
  have e1 : s.samples.filter (fun o => decide (o.seq < s.mark.seq)) = s.samples.take r := by
    conv => lhs; rw [← List.take_append_drop r s.samples]
    rw [List.filter_append, List.filter_eq_self.2, List.filter_eq_nil_iff.2, List.append_nil]
    · intro o ho
      obtain ⟨i, hi, rfl⟩ := List.getElem_of_mem ho
      rw [List.getElem_drop]
      have := h3 (r + i) (by omega) (by simp at hi; omega)
      rw [opn_get (by simp at hi; omega)]
      simp; omega
    · intro o ho
      obtain ⟨i, hi, rfl⟩ := List.getElem_of_mem ho
      rw [List.getElem_take]
      have := h2 i (by simp at hi; omega)
      rw [opn_get (by simp at hi; omega)]
      simp; omega
  have e2 : s.samples.filter (fun o => !decide (o.seq < s.mark.seq)) = s.samples.drop r := by
    conv => lhs; rw [← List.take_append_drop r s.samples]
    rw [List.filter_append, List.filter_eq_nil_iff.2, List.nil_append, List.filter_eq_self.2]
    · intro o ho
      obtain ⟨i, hi, rfl⟩ := List.getElem_of_mem ho
      rw [List.getElem_drop]
      have := h3 (r + i) (by omega) (by simp at hi; omega)
      rw [opn_get (by simp at hi; omega)]
      simp; omega
    · intro o ho
      obtain ⟨i, hi, rfl⟩ := List.getElem_of_mem ho
      rw [List.getElem_take]
      have := h2 i (by simp at hi; omega)
      rw [opn_get (by simp at hi; omega)]
      simp; omega
  rw [e1, e2]
theorem part_len (x : Int) : ∀ l : List OpV, (l.filter (fun o => decide (o.seq < x))).length + (l.filter (fun o => !decide (o.seq < x))).length = l.length := by
  intro l
  induction l with
  | nil => rfl
  | cons o l ih =>
    by_cases h : o.seq < x
    · simp [List.filter_cons, h] at ih ⊢; omega
    · simp [List.filter_cons, h] at ih ⊢; omega
theorem all_len1 (s : StV) (hm : 0 < s.mark.seq) : (allOf s).length = s.samples.length + 1 := by
  unfold allOf
  rw [if_pos hm, List.length_append, List.length_cons]
  have := part_len s.mark.seq s.samples
  omega
theorem all_len (s : StV) : (allOf s).length ≤ s.samples.length + 1 := by
  by_cases hm : 0 < s.mark.seq
  · rw [all_len1 s hm]; omega
  · unfold allOf; rw [if_neg hm]; omega
/-- the samples' numbers rise -/
structure Rising (s : StV) : Prop where
  lo : ∀ i, i < s.samples.length → 0 ≤ (opn s.samples i).seq ∧ (opn s.samples i).seq ≤ 4611686018427387904
  up : ∀ i j, i < j → j < s.samples.length → (opn s.samples i).seq < (opn s.samples j).seq
  m0 : 0 ≤ s.mark.seq
  m1 : s.mark.seq ≤ 4611686018427387904

set_option maxRecDepth 100000 in
theorem all_some (a : Nat) (s : StV) (vr vs vp : Value) (w : World) (h : StIs w a s vr vs vp) (hs : 0 < s.samples.length) (hl : s.samples.length ≤ 2000000000000) (hm : 1 ≤ s.mark.seq) (hr : Rising s) :
    Calls Try.prog 44 #[.pointer (some ⟨a, 0, none⟩)] w
      (SomeV fun v' w' => w'.ownsRow w.heap.size 34 5 v' (s.samples.length + 1) (opVals (allOf s)) ∧ Below w.heap.size w w') := by
  have e9 : w.cell? ⟨a, 9, none⟩ = some vs := h.cell 9 _ rfl
  have H := Lib.hid h
  have hlt := h.lt
  have HSL := Lib.hid (own_sl h.sam)
  have HR := Lib.hid hr
  have HM : Hid (∀ r, SeqAt r s.samples s.mark.seq → s.samples.take r ++ s.mark :: s.samples.drop r = allOf s) := fun r => all_split s r (by omega)
  have hm2 := hr.m1
  clear h hr
  go_enter Try.func44, Try.ntmps44
  go_wp2_with (go_at_call 37; refine (cloneOp_any s.samples vs _ (by omega) HSL.out).mono ?_; rintro e w1 ⟨v1, rfl, h1, hb1⟩; obtain ⟨g1, c1, rfl, hg1, hg2⟩ := own_some h1 hs; have HB1 := Lib.hid hb1; have H1 := Lib.hid (H.out.below hb1); have HR1 := Lib.hid h1; have k4 : w1.cell? ⟨a, 4, none⟩ = some (.int .i64 s.mark.seq) := (H.out.below hb1).cell 4 _ rfl; have k5 : w1.cell? ⟨a, 5, none⟩ = some (.int .i64 s.mark.kind) := (H.out.below hb1).cell 5 _ rfl; have k6 : w1.cell? ⟨a, 6, none⟩ = some (.int .i64 s.mark.time) := (H.out.below hb1).cell 6 _ rfl; have k7 : w1.cell? ⟨a, 7, none⟩ = some (.int .i64 s.mark.key) := (H.out.below hb1).cell 7 _ rfl; have k8 : w1.cell? ⟨a, 8, none⟩ = some (.int .i64 s.mark.val) := (H.out.below hb1).cell 8 _ rfl; clear h1 hb1)
  go_wp2_with (first | (go_at_call 59; refine (search_any s.samples g1 0 c1 s.mark _ (by omega) (own_row HR1.out) (by omega) hm2 HR.out.lo HR.out.up).mono ?_; rintro e w2 ⟨r, fd, rfl, hsq, hb2⟩; have HSQ := Lib.hid hsq; have hrl := hsq.1; have HB2 := Lib.hid hb2; have H2 := Lib.hid (H1.out.below hb2); have k4' : w2.cell? ⟨a, 4, none⟩ = some (.int .i64 s.mark.seq) := (H1.out.below hb2).cell 4 _ rfl; have k5' : w2.cell? ⟨a, 5, none⟩ = some (.int .i64 s.mark.kind) := (H1.out.below hb2).cell 5 _ rfl; have k6' : w2.cell? ⟨a, 6, none⟩ = some (.int .i64 s.mark.time) := (H1.out.below hb2).cell 6 _ rfl; have k7' : w2.cell? ⟨a, 7, none⟩ = some (.int .i64 s.mark.key) := (H1.out.below hb2).cell 7 _ rfl; have k8' : w2.cell? ⟨a, 8, none⟩ = some (.int .i64 s.mark.val) := (H1.out.below hb2).cell 8 _ rfl; clear hsq hb2) | (go_at_call 61; refine (insert_any s.samples (.slice (some ⟨g1, 0, none⟩) s.samples.length c1) w.heap.size w2.heap.size 1 r s.mark _ hrl (by omega) (own_keep HR1.out (fun k hk => ((below_alloc _ _).block k (Nat.lt_of_lt_of_le (HR1.out.lt k hk).2 HB2.out.size)).trans (HB2.out.block k (HR1.out.lt k hk).2))) (by have h1 := HB1.out.size; have h2 := HB2.out.size; simp; omega) (by have h2 := HB2.out.size; intro e; have e2 : g1 = w2.heap.size := Option.some.inj e; omega) (heap_alloc_new w2 _)).mono ?_; rintro e w3 ⟨v3, rfl, hr3, hb3⟩; rw [HM.out r HSQ.out] at hr3))
  go_ret
  have q1 := HB1.out.size
  have q2 := HB2.out.size
  exact ⟨v3, rfl, hr3, HB1.out.trans ((HB2.out.mono q1).trans (((below_alloc w2 _).mono (by omega)).trans hb3))⟩
set_option maxRecDepth 100000 in
theorem all_unmarked (a : Nat) (s : StV) (vr vs vp : Value) (w : World) (h : StIs w a s vr vs vp) (hl : s.samples.length ≤ 2000000000000) (hm : s.mark.seq ≤ 0) :
    Calls Try.prog 44 #[.pointer (some ⟨a, 0, none⟩)] w
      (SomeV fun v' w' => w'.ownsRow w.heap.size 34 5 v' s.samples.length (opVals (allOf s)) ∧ Below w.heap.size w w') := by
  have e9 : w.cell? ⟨a, 9, none⟩ = some vs := h.cell 9 _ rfl
  have H := Lib.hid h
  have HSL := Lib.hid (own_sl h.sam)
  have HA : Hid (allOf s = s.samples) := if_neg (by omega)
  clear h
  go_enter Try.func44, Try.ntmps44
  go_wp2_with (go_at_call 37; refine (cloneOp_any s.samples vs _ (by omega) HSL.out).mono ?_; rintro e w1 ⟨v1, rfl, h1, hb1⟩; have HB1 := Lib.hid hb1; have HR1 := Lib.hid h1; have k4 : w1.cell? ⟨a, 4, none⟩ = some (.int .i64 s.mark.seq) := (H.out.below hb1).cell 4 _ rfl; clear h1 hb1)
  go_ret
  exact ⟨v1, rfl, by rw [HA.out]; exact HR1.out, HB1.out⟩
theorem all_any (a : Nat) (s : StV) (vr vs vp : Value) (w : World) (h : StIs w a s vr vs vp) (hl : s.samples.length ≤ 2000000000000) (hr : Rising s) :
    Calls Try.prog 44 #[.pointer (some ⟨a, 0, none⟩)] w
      (SomeV fun v' w' => w'.ownsRow w.heap.size 34 5 v' (allOf s).length (opVals (allOf s)) ∧ Below w.heap.size w w') := by
  by_cases hm : 1 ≤ s.mark.seq
  · by_cases h0 : 0 < s.samples.length
    · have e : (allOf s).length = s.samples.length + 1 := all_len1 s (by omega)
      rw [e]
      exact all_some a s vr vs vp w h h0 hl hm hr
    · have e0 : s.samples = [] := List.eq_nil_of_length_eq_zero (by omega)
      have e1 : allOf s = [s.mark] := by unfold allOf; rw [if_pos (by omega), e0]; rfl
      rw [e1]
      exact all_none a s vr vs vp w h e0 hm hr.m1
  · have e1 : allOf s = s.samples := if_neg (by omega)
    rw [show (allOf s).length = s.samples.length by rw [e1]]
    exact all_unmarked a s vr vs vp w h hl (by omega)

def repL (s : StV) (f m : Int) : List OpV := (fromOn (allOf s) f).take m.toNat
def repN (s : StV) (f m : Int) : Int :=
  if ((fromOn (allOf s) f).length : Int) ≤ max m 0 then s.next - 1 else if m ≤ 0 then min (wrap64 (f - 1)) (s.next - 1) else (opn (fromOn (allOf s) f) (m.toNat - 1)).seq
set_option maxHeartbeats 400000 in
set_option maxRecDepth 100000 in
theorem replay_some (a : Nat) (s : StV) (vr vs vp : Value) (from_ most : Int) (w : World) (h : StIs w a s vr vs vp) (hl : s.samples.length ≤ 2000000000000) (hr : Rising s) (hm : 1 ≤ most) (hlt : most < ((fromOn (allOf s) from_).length : Int)) :
    Calls Try.prog 22 #[.pointer (some ⟨a, 0, none⟩), .int .i64 from_, .int .i64 most] w
      fun e w' => ∃ g, e = .returned (.tuple #[.slice (some ⟨g, 0, none⟩) most.toNat most.toNat, .int .i64 (opn (fromOn (allOf s) from_) (most.toNat - 1)).seq]) ∧ g < w'.heap.size ∧ RowAt w' g 0 (opVals (fromOn (allOf s) from_)) ∧ Below w.heap.size w w' := by
  obtain ⟨m, rfl⟩ : ∃ m : Nat, most = (m : Int) + 1 := ⟨most.toNat - 1, by omega⟩
  have hmx : max ((m : Int) + 1) 0 = (m : Int) + 1 := by omega
  have htn : ((m : Int) + 1).toNat = m + 1 := by omega
  rw [htn]
  simp only [Nat.add_sub_cancel]
  have g9 : ((m : Int) + 1 == 0) = false := by simp; omega
  have hml2 : m + 1 < (fromOn (allOf s) from_).length := by omega
  have hml : m < (fromOn (allOf s) from_).length := by omega
  clear hm hlt
  have H := Lib.hid h
  have HALL : Hid (∀ w1, Below w.heap.size w w1 → Calls Try.prog 44 #[.pointer (some ⟨a, 0, none⟩)] w1 (SomeV fun v' w' => w'.ownsRow w1.heap.size 34 5 v' (allOf s).length (opVals (allOf s)) ∧ Below w1.heap.size w1 w')) := fun w1 hb => all_any a s vr vs vp w1 (h.below hb) hl hr
  have HF : Hid (fil (fun i => decide ((opn (allOf s) i).seq < from_)) 0 (allOf s) = fromOn (allOf s) from_) := fil_filter (fun o => decide (o.seq < from_)) (allOf s) _ 0 (fun k hk => by rw [Nat.zero_add])
  have HLT := Lib.hid h.lt
  have hx0 := box_cell w #[.int .i64 from_] 3 (0, 0) 0 _ rfl
  have hL : (allOf s).length ≤ 3000000000000 := by have := all_len s; omega
  clear h hr
  generalize allOf s = L at *
  go_enter Try.func22, Try.ntmps22
  go_wp2_with (first | (go_at_call 44; refine (HALL.out _ (below_alloc w _)).mono ?_; rintro e w1 ⟨v1, rfl, h1, hb1⟩; obtain ⟨A1, c1, hv1⟩ : ∃ A c, v1 = .slice A L.length c := (by rcases h1.2 with ⟨q, q2⟩ | ⟨g, cap, cur, q, _⟩; exact ⟨none, 0, by rw [q, q2]⟩; exact ⟨_, _, q⟩); subst hv1; have HB1 := Lib.hid hb1; have HR1 := Lib.hid h1; have HX1 := Lib.hid (old_cell hb1 hx0 (by simp)); clear h1 hb1) | (go_at_call 39; refine (delop_any 45 callReplay (.pointer (some ⟨w.heap.size, 0, none⟩)) L (.slice A1 L.length c1) _ (fun i => decide ((opn L i).seq < from_)) _ hL HR1.out (fun i w5 hi hk => replayask (opn L i) w.heap.size from_ w5 ((World.cell?_of_block (a := ⟨w.heap.size, 0, none⟩) (hk.block w.heap.size (cell_lt HX1.out) (fun e => by have := (HR1.out.lt _ e).1; simp at this; omega))).trans HX1.out))).mono ?_; rw [HF.out]; rintro e w2 ⟨v2, rfl, h2, ho2, hk2⟩; obtain ⟨A2, c2, hv2⟩ : ∃ A c, v2 = .slice A (fromOn L from_).length c := (by rcases h2.2 with ⟨q, q2⟩ | ⟨g, cap, cur, q, _⟩; exact ⟨none, 0, by rw [q, q2]⟩; exact ⟨_, _, q⟩); subst hv2; have HR2 := Lib.hid h2; have HO2 := Lib.hid ho2; have HK2 := Lib.hid hk2; have k3 : w2.cell? ⟨a, 3, none⟩ = some (.int .i64 s.next) := (World.cell?_of_block (a := ⟨a, 3, none⟩) (hk2.block a (Nat.lt_of_lt_of_le HLT.out (Nat.le_trans (by simp) HB1.out.size)) (fun e => by have := (HR1.out.lt _ e).1; have := HLT.out; simp at *; omega))).trans (old_cell ((below_alloc w _).trans (HB1.out.mono (by simp))) (H.out.cell 3 _ rfl) HLT.out); have k0 : w2.cell? ⟨w.heap.size, 0, none⟩ = some (.int .i64 from_) := (World.cell?_of_block (a := ⟨w.heap.size, 0, none⟩) (hk2.block w.heap.size (cell_lt HX1.out) (fun e => by have := (HR1.out.lt _ e).1; simp at this; omega))).trans HX1.out; clear h2 ho2 hk2))
  obtain ⟨g2, c3, hv3, hg3, hg4⟩ := own_some HR2.out (by omega)
  simp only [Value.slice.injEq] at hv3
  obtain ⟨rfl, _, rfl⟩ := hv3
  have hc2 : (fromOn L from_).length ≤ c2 := by
    rcases HR2.out.2 with ⟨h, _⟩ | ⟨g', cap', cur, h, h0, hh, h1, _⟩
    · simp at h
    · simp only [Value.slice.injEq] at h
      obtain ⟨_, _, rfl⟩ := h; exact h1
  have q0 := ((own_row HR2.out).op m hml).1
  simp only [Nat.zero_add] at q0
  have hb1 : (m : Int) + 1 ≤ ((fromOn L from_).length : Int) := by omega
  have hfl : (fromOn L from_).length ≤ L.length := List.length_filter_le _ _
  have hb2 : (m : Int) + 1 ≤ (c2 : Int) := by omega
  have hb0 : (0 : Int) ≤ (m : Int) + 1 := by omega
  have hw1 : IntKind.i64.wrap (m : Int) = m := by rw [IntKind.wrap_i64]; omega
  have hw2 : IntKind.i64.wrap ((m : Int) + 1 - 1) = m := by rw [IntKind.wrap_i64]; omega
  have hmc : m + 1 ≤ c2 := by omega
  go_quiet (fail)
  go_wp2
  go_ret2
  exact ⟨g2, rfl, hg4, own_row HR2.out, below_drewN ((below_alloc w _).trans ((HB1.out.mono (by simp)).trans (HK2.out.below (Nat.le_trans (by simp) HB1.out.size) (fun i hi => by have := (HR1.out.lt _ hi).1; simp at this; omega)))) _⟩
set_option maxHeartbeats 400000 in
set_option maxRecDepth 100000 in
theorem replay_none (a : Nat) (s : StV) (vr vs vp : Value) (from_ most : Int) (w : World) (h : StIs w a s vr vs vp) (hl : s.samples.length ≤ 2000000000000) (hr : Rising s) (hm : most ≤ 0) (hlt : 0 < (fromOn (allOf s) from_).length) (hn1 : 1 ≤ s.next) (hn2 : s.next ≤ 4611686018427387904) :
    Calls Try.prog 22 #[.pointer (some ⟨a, 0, none⟩), .int .i64 from_, .int .i64 most] w
      fun e w' => e = .returned (.tuple #[.slice none 0 0, .int .i64 (min (wrap64 (from_ - 1)) (s.next - 1))]) ∧ Below w.heap.size w w' := by
  have hmx : max most 0 = 0 := by omega
  have g9 : decide (fromOn (allOf s) from_ = []) = false := decide_eq_false (by intro e; rw [e] at hlt; simp at hlt)
  have H := Lib.hid h
  have HALL : Hid (∀ w1, Below w.heap.size w w1 → Calls Try.prog 44 #[.pointer (some ⟨a, 0, none⟩)] w1 (SomeV fun v' w' => w'.ownsRow w1.heap.size 34 5 v' (allOf s).length (opVals (allOf s)) ∧ Below w1.heap.size w1 w')) := fun w1 hb => all_any a s vr vs vp w1 (h.below hb) hl hr
  have HF : Hid (fil (fun i => decide ((opn (allOf s) i).seq < from_)) 0 (allOf s) = fromOn (allOf s) from_) := fil_filter (fun o => decide (o.seq < from_)) (allOf s) _ 0 (fun k hk => by rw [Nat.zero_add])
  have HLT := Lib.hid h.lt
  have hx0 := box_cell w #[.int .i64 from_] 3 (0, 0) 0 _ rfl
  have hL : (allOf s).length ≤ 3000000000000 := by have := all_len s; omega
  clear h hr
  generalize allOf s = L at *
  go_enter Try.func22, Try.ntmps22
  go_wp2_with (first | (go_at_call 44; refine (HALL.out _ (below_alloc w _)).mono ?_; rintro e w1 ⟨v1, rfl, h1, hb1⟩; obtain ⟨A1, c1, hv1⟩ : ∃ A c, v1 = .slice A L.length c := (by rcases h1.2 with ⟨q, q2⟩ | ⟨g, cap, cur, q, _⟩; exact ⟨none, 0, by rw [q, q2]⟩; exact ⟨_, _, q⟩); subst hv1; have HB1 := Lib.hid hb1; have HR1 := Lib.hid h1; have HX1 := Lib.hid (old_cell hb1 hx0 (by simp)); clear h1 hb1) | (go_at_call 39; refine (delop_any 45 callReplay (.pointer (some ⟨w.heap.size, 0, none⟩)) L (.slice A1 L.length c1) _ (fun i => decide ((opn L i).seq < from_)) _ hL HR1.out (fun i w5 hi hk => replayask (opn L i) w.heap.size from_ w5 ((World.cell?_of_block (a := ⟨w.heap.size, 0, none⟩) (hk.block w.heap.size (cell_lt HX1.out) (fun e => by have := (HR1.out.lt _ e).1; simp at this; omega))).trans HX1.out))).mono ?_; rw [HF.out]; rintro e w2 ⟨v2, rfl, h2, ho2, hk2⟩; obtain ⟨A2, c2, hv2⟩ : ∃ A c, v2 = .slice A (fromOn L from_).length c := (by rcases h2.2 with ⟨q, q2⟩ | ⟨g, cap, cur, q, _⟩; exact ⟨none, 0, by rw [q, q2]⟩; exact ⟨_, _, q⟩); subst hv2; have HR2 := Lib.hid h2; have HO2 := Lib.hid ho2; have HK2 := Lib.hid hk2; have k3 : w2.cell? ⟨a, 3, none⟩ = some (.int .i64 s.next) := (World.cell?_of_block (a := ⟨a, 3, none⟩) (hk2.block a (Nat.lt_of_lt_of_le HLT.out (Nat.le_trans (by simp) HB1.out.size)) (fun e => by have := (HR1.out.lt _ e).1; have := HLT.out; simp at *; omega))).trans (old_cell ((below_alloc w _).trans (HB1.out.mono (by simp))) (H.out.cell 3 _ rfl) HLT.out); have k0 : w2.cell? ⟨w.heap.size, 0, none⟩ = some (.int .i64 from_) := (World.cell?_of_block (a := ⟨w.heap.size, 0, none⟩) (hk2.block w.heap.size (cell_lt HX1.out) (fun e => by have := (HR1.out.lt _ e).1; simp at this; omega))).trans HX1.out; clear h2 ho2 hk2))
  go_quiet (fail)
  go_wp2
  go_ret2
  exact ⟨rfl, below_drewN ((below_alloc w _).trans ((HB1.out.mono (by simp)).trans (HK2.out.below (Nat.le_trans (by simp) HB1.out.size) (fun i hi => by have := (HR1.out.lt _ hi).1; simp at this; omega)))) _⟩
theorem opVals_pre (l : List OpV) (n : Nat) : ∀ (j : Nat) (u : Value), (opVals (l.take n))[j]? = some u → (opVals l)[j]? = some u := by
  intro j u hj
  have e : opVals l = opVals (l.take n) ++ opVals (l.drop n) := by rw [opVals, opVals, opVals, ← List.flatMap_append, List.take_append_drop]
  rw [e, List.getElem?_append_left (List.getElem?_eq_some_iff.1 hj).1]; exact hj
theorem replay_any (a : Nat) (s : StV) (vr vs vp : Value) (from_ most : Int) (w : World) (h : StIs w a s vr vs vp) (hl : s.samples.length ≤ 2000000000000) (hr : Rising s) (hn1 : 1 ≤ s.next) (hn2 : s.next ≤ 4611686018427387904) :
    Calls Try.prog 22 #[.pointer (some ⟨a, 0, none⟩), .int .i64 from_, .int .i64 most] w
      fun e w' => ∃ v, e = .returned (.tuple #[v, .int .i64 (repN s from_ most)]) ∧ SlAt w' v (repL s from_ most).length (opVals (repL s from_ most)) ∧ Below w.heap.size w w' := by
  unfold repN repL
  by_cases h1 : ((fromOn (allOf s) from_).length : Int) ≤ max most 0
  · rw [if_pos h1, List.take_of_length_le (by omega)]
    refine (replay_all a s vr vs vp (allOf s) from_ most w h (by have := all_len s; omega) (fun w1 hb => all_any a s vr vs vp w1 (h.below hb) hl hr) h1 hn1 hn2).mono ?_
    rintro e w' ⟨v, rfl, h2, h3⟩
    exact ⟨v, rfl, own_sl h2, h3⟩
  · rw [if_neg h1]
    by_cases h2 : most ≤ 0
    · rw [if_pos h2, show most.toNat = 0 from by omega, List.take_zero]
      refine (replay_none a s vr vs vp from_ most w h hl hr h2 (by omega) hn1 hn2).mono ?_
      rintro e w' ⟨rfl, h3⟩
      exact ⟨_, rfl, .inl ⟨rfl, rfl, rfl⟩, h3⟩
    · rw [if_neg h2]
      refine (replay_some a s vr vs vp from_ most w h hl hr (by omega) (by omega)).mono ?_
      rintro e w' ⟨g, rfl, h3, h4, h5⟩
      have e1 : ((fromOn (allOf s) from_).take most.toNat).length = most.toNat := by rw [List.length_take]; omega
      refine ⟨_, rfl, ?_, h5⟩
      rw [e1]
      exact .inr ⟨g, 0, _, rfl, h3, fun j u hj => h4 j u (opVals_pre _ _ j u hj)⟩
end Go.Proofs.Ytomekiidgdkmiaa
