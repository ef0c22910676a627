/-
  What a stream's calls keep: numbers that rise, a mark apart from the samples; and what a replay gives then.
-/
import Derived.Test.YtomekiidgdkmiaaCase14
import Derived.Test.YtomekiidgdkmiaaStmAll2
namespace Go.Proofs.Ytomekiidgdkmiaa
open Go.RowKit
set_option linter.unusedVariables false
set_option linter.unusedSimpArgs false

structure Fine (s : StV) : Prop where
  up : s.samples.Pairwise (fun a b => a.seq < b.seq)
  rg : ∀ o ∈ s.samples, 1 ≤ o.seq ∧ o.seq < s.next ∧ o.kind = 1 ∧ o.seq ≠ s.mark.seq
  m0 : 0 ≤ s.mark.seq
  mn : s.mark.seq < s.next
  mz : s.mark.seq = 0 → s.mark = OpV.zero
  mq : s.mark.seq ≠ 0 → s.mark.kind = 2 ∧ s.mark.key = 0 ∧ s.mark.val = 0
theorem Fine.rising {s : StV} (h : Fine s) (hn : s.next ≤ 4611686018427387904) : Rising s := by
  refine ⟨fun i hi => ?_, fun i j hij hj => ?_, h.m0, by have := h.mn; omega⟩
  · have := h.rg (opn s.samples i) (by rw [← opn_get hi]; exact List.getElem_mem hi)
    omega
  · have := List.pairwise_iff_getElem.1 h.up i j (by omega) hj hij
    rwa [opn_get (by omega), opn_get hj] at this
theorem Fine.new (res : List Int) (sh hold : Int) (n : Nat) : Fine (newSt res sh hold n) :=
  ⟨List.Pairwise.nil, fun o ho => (by cases ho), (by show (0 : Int) ≤ 0; omega), (by show (0 : Int) < 1; omega), fun _ => rfl, fun h => absurd rfl h⟩
theorem Fine.sampled {s : StV} (h : Fine s) (o : OpV) (hq : o.seq = s.next) (hk : o.kind = 1) (hn : 1 ≤ s.next) : Fine (sampled s o) := by
  refine ⟨?_, ?_, h.m0, (by show s.mark.seq < s.next + 1; have := h.mn; omega), h.mz, h.mq⟩
  · show (s.samples ++ [o]).Pairwise _
    rw [List.pairwise_append]
    refine ⟨h.up, List.pairwise_singleton _ _, fun a ha b hb => ?_⟩
    rw [List.mem_singleton.1 hb, hq]
    exact (h.rg a ha).2.1
  · intro y hy
    show 1 ≤ y.seq ∧ y.seq < s.next + 1 ∧ y.kind = 1 ∧ y.seq ≠ s.mark.seq
    have hy : y ∈ s.samples ++ [o] := hy
    rcases List.mem_append.1 hy with hy | hy
    · have := h.rg y hy; exact ⟨this.1, by omega, this.2.2.1, this.2.2.2⟩
    · rw [List.mem_singleton.1 hy]; have := h.mn; exact ⟨by omega, by omega, hk, by omega⟩
theorem Fine.marked {s : StV} (h : Fine s) (o : OpV) (hq : o.seq = s.next) (hk : o.kind = 2) (h3 : o.key = 0) (h4 : o.val = 0) (hn : 1 ≤ s.next) : Fine (marked s o) := by
  refine ⟨h.up, fun y hy => ?_, (by show 0 ≤ o.seq; omega), (by show o.seq < s.next + 1; omega), fun e => (by have e : o.seq = 0 := e; omega), fun _ => ⟨hk, h3, h4⟩⟩
  have := h.rg y hy
  exact ⟨this.1, (by show y.seq < s.next + 1; omega), this.2.2.1, (by show y.seq ≠ o.seq; omega)⟩
theorem Fine.cut {s : StV} (h : Fine s) (pl : List PlV) : Fine (cutSt s pl) :=
  ⟨h.up.filter _, fun o ho => h.rg o (List.mem_filter.1 ho).1, h.m0, h.mn, h.mz, h.mq⟩

/-! ### all that is held, and the last mark -/
theorem all_mem {s : StV} {o : OpV} : o ∈ allOf s ↔ o ∈ s.samples ∨ (0 < s.mark.seq ∧ o = s.mark) := by
  unfold allOf
  split
  · rename_i hm
    rw [List.mem_append, List.mem_cons, List.mem_filter, List.mem_filter]
    by_cases h : o.seq < s.mark.seq
    · simp [h, hm]
    · simp [h, hm]; exact or_comm
  · rename_i hm
    simp [hm]
theorem Fine.all_up {s : StV} (h : Fine s) : (allOf s).Pairwise (fun a b => a.seq < b.seq) := by
  unfold allOf
  split
  · rw [List.pairwise_append, List.pairwise_cons]
    refine ⟨h.up.filter _, ⟨fun b hb => ?_, h.up.filter _⟩, fun a ha b hb => ?_⟩
    · have h1 := List.mem_filter.1 hb
      have h2 := (h.rg b h1.1).2.2.2
      have h3 : ¬ b.seq < s.mark.seq := by simpa using h1.2
      omega
    · have h1 : a.seq < s.mark.seq := by simpa using (List.mem_filter.1 ha).2
      rcases List.mem_cons.1 hb with rfl | hb
      · exact h1
      · have h3 : ¬ b.seq < s.mark.seq := by simpa using (List.mem_filter.1 hb).2
        omega
  · exact h.up
theorem Fine.all_rg {s : StV} (h : Fine s) : ∀ o ∈ allOf s, 1 ≤ o.seq ∧ o.seq < s.next := by
  intro o ho
  rcases all_mem.1 ho with ho | ⟨h1, rfl⟩
  · have := h.rg o ho; exact ⟨this.1, this.2.1⟩
  · have := h.mn; exact ⟨by omega, this⟩

/-- a place between those of a row whose numbers rise: what is ahead of it is below x, what is behind is not -/
def CutAt (L : List OpV) (j : Nat) (x : Int) : Prop := j ≤ L.length ∧ (∀ t, t < j → (opn L t).seq < x) ∧ (∀ t, j ≤ t → t < L.length → x ≤ (opn L t).seq)
theorem cut_from {L : List OpV} {j : Nat} {x : Int} (h : CutAt L j x) : fromOn L x = L.drop j := by
  obtain ⟨h1, h2, h3⟩ := h
  unfold fromOn
  conv => lhs; rw [← List.take_append_drop j L]
  rw [List.filter_append, List.filter_eq_nil_iff.2, List.nil_append, List.filter_eq_self.2]
  · intro o ho
    obtain ⟨i, hi, rfl⟩ := List.getElem_of_mem ho
    rw [List.getElem_drop]
    have := h3 (j + i) (by omega) (by simp at hi; omega)
    rw [opn_get (by simp at hi; omega)]
    simp; omega
  · intro o ho
    obtain ⟨i, hi, rfl⟩ := List.getElem_of_mem ho
    rw [List.getElem_take]
    have := h2 i (by simp at hi; omega)
    rw [opn_get (by simp at hi; omega)]
    simp; omega
theorem opn_drop (l : List OpV) (j t : Nat) : opn (l.drop j) t = opn l (j + t) := by
  simp [opn, List.getD_eq_getElem?_getD]
/-- a replay's step -/
theorem Fine.step {s : StV} (h : Fine s) {j : Nat} {x m : Int} (hc : CutAt (allOf s) j x) (hx : x < s.next) (h1 : 1 ≤ x) (hm : 1 ≤ m) :
    ∃ j', j ≤ j' ∧ repL s x m = ((allOf s).drop j).take (j' - j) ∧ CutAt (allOf s) j' (repN s x m + 1) ∧ x ≤ repN s x m ∧ repN s x m < s.next ∧ ((repL s x m).length : Int) ≤ m ∧ (j < j' ∨ repN s x m + 1 = s.next) ∧ (repL s x m).length = j' - j ∧ j' ≤ (allOf s).length := by
  have hfr := cut_from hc
  have hup := h.all_up
  have hrg := h.all_rg
  have at_ : ∀ t, t < (allOf s).length → 1 ≤ (opn (allOf s) t).seq ∧ (opn (allOf s) t).seq < s.next := fun t ht => hrg _ (by rw [← opn_get ht]; exact List.getElem_mem ht)
  have lt_ : ∀ a b, a < b → b < (allOf s).length → (opn (allOf s) a).seq < (opn (allOf s) b).seq := fun a b hab hb => by
    have := List.pairwise_iff_getElem.1 hup a b (by omega) hb hab
    rwa [opn_get (by omega), opn_get hb] at this
  obtain ⟨c1, c2, c3⟩ := hc
  unfold repN repL
  rw [hfr, List.length_drop]
  by_cases hl : (((allOf s).length - j : Nat) : Int) ≤ max m 0
  · rw [if_pos hl]
    refine ⟨(allOf s).length, c1, ?_, ⟨Nat.le_refl _, fun t ht => by have := at_ t ht; omega, fun t h1 h2 => by omega⟩, by omega, by omega, ?_, .inr (by omega), ?_, Nat.le_refl _⟩
    · rw [List.take_of_length_le (by rw [List.length_drop]; omega), List.take_of_length_le (by rw [List.length_drop]; omega)]
    · rw [List.length_take, List.length_drop]; omega
    · rw [List.length_take, List.length_drop]; omega
  · rw [if_neg hl, if_neg (by omega)]
    have e : opn ((allOf s).drop j) (m.toNat - 1) = opn (allOf s) (j + m.toNat - 1) := by rw [opn_drop]; congr 1; omega
    rw [e]
    have hj : j + m.toNat - 1 < (allOf s).length := by omega
    have ha := at_ _ hj
    refine ⟨j + m.toNat, by omega, ?_, ⟨by omega, fun t ht => ?_, fun t h1 h2 => ?_⟩, ?_, ha.2, ?_, .inl (by omega), ?_, by omega⟩
    · rw [Nat.add_sub_cancel_left]
    · by_cases h2 : t = j + m.toNat - 1
      · subst h2; omega
      · have := lt_ t (j + m.toNat - 1) (by omega) hj; omega
    · have := lt_ (j + m.toNat - 1) t (by omega) h2; omega
    · exact c3 _ (by omega) hj
    · rw [List.length_take, List.length_drop]; omega
    · rw [List.length_take, List.length_drop]; omega
theorem eq_of_up : ∀ {l m : List OpV}, l.Pairwise (fun a b => a.seq < b.seq) → m.Pairwise (fun a b => a.seq < b.seq) → (∀ o, o ∈ l ↔ o ∈ m) → l = m
  | [], [], _, _, _ => rfl
  | [], b :: m, _, _, h => by have := (h b).2 (by simp); cases this
  | a :: l, [], _, _, h => by have := (h a).1 (by simp); cases this
  | a :: l, b :: m, h1, h2, h => by
    have a1 := List.pairwise_cons.1 h1
    have b1 := List.pairwise_cons.1 h2
    have e : a = b := by
      rcases List.mem_cons.1 ((h a).1 (by simp)) with e | e
      · exact e
      · rcases List.mem_cons.1 ((h b).2 (by simp)) with e2 | e2
        · exact e2.symm
        · have := a1.1 b e2; have := b1.1 a e; omega
    subst e
    congr 1
    refine eq_of_up a1.2 b1.2 (fun o => ⟨fun ho => ?_, fun ho => ?_⟩)
    · rcases List.mem_cons.1 ((h o).1 (by simp [ho])) with e | e
      · subst e; have := a1.1 o ho; omega
      · exact e
    · rcases List.mem_cons.1 ((h o).2 (by simp [ho])) with e | e
      · subst e; have := b1.1 o ho; omega
      · exact e
/-- of a row those that are no mark -/
def noMark (l : List OpV) : List OpV := l.filter (fun o => decide (o.kind ≠ 2))
def unmarkedB (l : List OpV) : Bool := l.all (fun o => decide (o.kind ≠ 2))
theorem Fine.kind {s : StV} (h : Fine s) {o : OpV} (ho : o ∈ allOf s) : (o.kind = 1 ∧ o ∈ s.samples) ∨ (o.kind = 2 ∧ o = s.mark ∧ s.mark.seq ≠ 0) := by
  rcases all_mem.1 ho with ho | ⟨h1, rfl⟩
  · exact .inl ⟨(h.rg o ho).2.2.1, ho⟩
  · exact .inr ⟨(h.mq (by omega)).1, rfl, by omega⟩
theorem Fine.noMark {s : StV} (h : Fine s) : noMark (allOf s) = s.samples := by
  refine eq_of_up (h.all_up.filter _) h.up (fun o => ?_)
  unfold Go.Proofs.Ytomekiidgdkmiaa.noMark
  rw [List.mem_filter]
  constructor
  · rintro ⟨ho, hk⟩
    rcases h.kind ho with ⟨_, h2⟩ | ⟨h2, _⟩
    · exact h2
    · simp [h2] at hk
  · intro ho
    refine ⟨all_mem.2 (.inl ho), ?_⟩
    simp [(h.rg o ho).2.2.1]
theorem Fine.marked_end {s : StV} (h : Fine s) : (decide (s.mark.seq ≠ 0) && unmarkedB (allOf s)) = false := by
  by_cases hm : s.mark.seq = 0
  · simp [hm]
  · have h0 := h.m0
    have : unmarkedB (allOf s) = false := by
      unfold unmarkedB
      rw [Bool.eq_false_iff]
      intro hall
      have := List.all_eq_true.1 hall s.mark (all_mem.2 (.inr ⟨by omega, rfl⟩))
      simp [(h.mq hm).1] at this
    simp [this]
theorem noMark_snoc (l : List OpV) (k : Nat) (h : k < l.length) : noMark (l.take (k + 1)) = noMark (l.take k) ++ (if (opn l k).kind = 2 then [] else [opn l k]) := by
  unfold noMark
  rw [List.take_succ_eq_append_getElem h, opn_get h, List.filter_append]
  congr 1
  by_cases hk : (opn l k).kind = 2 <;> simp [hk]
theorem unmarked_snoc (l : List OpV) (k : Nat) (h : k < l.length) : unmarkedB (l.take (k + 1)) = (unmarkedB (l.take k) && decide ((opn l k).kind ≠ 2)) := by
  unfold unmarkedB
  rw [List.take_succ_eq_append_getElem h, opn_get h, List.all_append]
  simp
/-- ahead of the mark there is none -/
theorem Fine.first_mark {s : StV} (h : Fine s) {k : Nat} (hk : k < (allOf s).length) (h2 : (opn (allOf s) k).kind = 2) : unmarkedB ((allOf s).take k) = true ∧ opn (allOf s) k = s.mark ∧ s.mark.seq ≠ 0 := by
  have hm : opn (allOf s) k ∈ allOf s := by rw [← opn_get hk]; exact List.getElem_mem hk
  rcases h.kind hm with ⟨h3, _⟩ | ⟨_, h3, h4⟩
  · omega
  refine ⟨?_, h3, h4⟩
  unfold unmarkedB
  rw [List.all_eq_true]
  intro o ho
  obtain ⟨i, hi, rfl⟩ := List.getElem_of_mem ho
  rw [List.getElem_take]
  have hik : i < k := by simp at hi; omega
  have hlt := List.pairwise_iff_getElem.1 h.all_up i k (by omega) hk hik
  rw [opn_get hk, h3] at hlt
  rcases h.kind (List.getElem_mem (show i < (allOf s).length by omega)) with ⟨h5, _⟩ | ⟨_, h5, _⟩
  · simp [h5]
  · rw [h5] at hlt; omega
theorem Fine.cut_end {s : StV} (h : Fine s) {j : Nat} (hc : CutAt (allOf s) j s.next) : j = (allOf s).length := by
  obtain ⟨h1, _, h3⟩ := hc
  apply Classical.byContradiction
  intro hn
  have hj : j < (allOf s).length := by omega
  have := h3 j (Nat.le_refl _) hj
  have := (h.all_rg (opn (allOf s) j) (by rw [← opn_get hj]; exact List.getElem_mem hj)).2
  omega
theorem Fine.cut_start {s : StV} (h : Fine s) : CutAt (allOf s) 0 1 :=
  ⟨Nat.zero_le _, fun t ht => by omega, fun t _ ht => (h.all_rg (opn (allOf s) t) (by rw [← opn_get ht]; exact List.getElem_mem ht)).1⟩
theorem Fine.all_lt {s : StV} (h : Fine s) {i j : Nat} (hij : i < j) (hj : j < (allOf s).length) : (opn (allOf s) i).seq < (opn (allOf s) j).seq := by
  have := List.pairwise_iff_getElem.1 h.all_up i j (by omega) hj hij
  rwa [opn_get (by omega), opn_get hj] at this
theorem last_fine {F : Nat → Prop} {a : Nat} {s : StV} {w : World} (h : Stm w a s F) (hf : Fine s) :
    Calls Try.prog 21 #[.pointer (some ⟨a, 0, none⟩)] w
      fun e w' => e = .returned (.tuple #[.int .i64 s.mark.seq, .int .i64 s.mark.time, .bool (decide (s.mark.seq ≠ 0))]) ∧ Below w.heap.size w w' := by
  by_cases hm : s.mark.seq = 0
  · have e := hf.mz hm
    have := last_none_f h hm
    rw [e] at *
    exact this
  · have := last_some_f s.mark.seq s.mark.time h hm rfl rfl
    simpa [hm] using this
theorem replay_b {B : Nat} {a : Nat} {s : StV} {w : World} (from_ most : Int) (h : SB B w a s) (hl : s.samples.length ≤ 2000000000000) (hf : Fine s) (hn2 : s.next ≤ 4611686018427387904) :
    Calls Try.prog 22 #[.pointer (some ⟨a, 0, none⟩), .int .i64 from_, .int .i64 most] w
      fun e w' => ∃ v, e = .returned (.tuple #[v, .int .i64 (repN s from_ most)]) ∧ SlAt w' v (repL s from_ most).length (opVals (repL s from_ most)) ∧ Below w.heap.size w w' := by
  obtain ⟨vr, vs, vp, h1⟩ := h.is
  exact replay_any a s vr vs vp from_ most w h1 hl (hf.rising hn2) h.ok.n1 hn2
end Go.Proofs.Ytomekiidgdkmiaa
