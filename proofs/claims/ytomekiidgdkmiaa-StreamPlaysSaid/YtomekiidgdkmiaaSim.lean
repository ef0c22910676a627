/-
  A stream and the document's: alike. Plain laws.
-/
import Derived.Test.YtomekiidgdkmiaaRfRep
import Derived.Test.YtomekiidgdkmiaaRfCutW
import Derived.Test.YtomekiidgdkmiaaRfNew
namespace Go.Proofs.Ytomekiidgdkmiaa
open Go.RowKit
set_option linter.unusedVariables false
set_option linter.unusedSimpArgs false

structure Sim (s : StV) (r : RfV) : Prop where
  res : r.res = s.res
  sh : r.shards = s.shards
  ho : r.hold = s.hold
  nx : r.next = s.next
  pl : r.places = s.places
  he : heldR r.ops r.gone = s.samples
  lm : mop (lastM r.ops) = s.mark
  ls : (lastM r.ops).isSome = decide (0 < s.mark.seq)
  kd : ∀ o ∈ r.ops, o.kind = 1 ∨ o.kind = 2
  up : r.ops.Pairwise (fun a b => a.seq < b.seq)
  rg : ∀ o ∈ r.ops, 1 ≤ o.seq ∧ o.seq < r.next
  gl : r.gone.length = r.ops.length
  fi : Fine s

theorem heldR_snoc (ops : List OpV) (gone : List Bool) (o : OpV) (h : gone.length = ops.length) :
    heldR (ops ++ [o]) (gone ++ [false]) = heldR ops gone ++ (if o.kind = 1 then [o] else []) := by
  rw [heldR_zip _ _ (by simp [h]), heldR_zip _ _ h, List.zip_append h.symm, List.filter_append, List.map_append]
  congr 1
  by_cases h1 : o.kind = 1 <;> simp [h1]
theorem Sim.new (res : List Int) (sh hold : Int) (n : Nat) : Sim (newSt res sh hold n) (newRf res sh hold n) :=
  ⟨rfl, rfl, rfl, rfl, rfl, rfl, rfl, rfl, (fun o ho => by cases ho), List.Pairwise.nil, (fun o ho => by cases ho), rfl, Fine.new _ _ _ _⟩
theorem Sim.early {s : StV} {r : RfV} (h : Sim s r) (t : Int) : r.early t = s.early t := by
  unfold RfV.early StV.early; rw [h.ls, h.lm]
theorem Sim.sample {s : StV} {r : RfV} (h : Sim s r) (o : OpV) (hq : o.seq = s.next) (hk : o.kind = 1) (hn : 1 ≤ s.next) : Sim (sampled s o) (rtook r o) where
  res := h.res
  sh := h.sh
  ho := h.ho
  nx := by show r.next + 1 = s.next + 1; rw [h.nx]
  pl := h.pl
  he := by
    show heldR (r.ops ++ [o]) (r.gone ++ [false]) = s.samples ++ [o]
    rw [heldR_snoc _ _ _ h.gl, if_pos hk, h.he]
  lm := by show mop (lastM (r.ops ++ [o])) = s.mark; rw [lastM_snoc, if_neg (by omega)]; exact h.lm
  ls := by show (lastM (r.ops ++ [o])).isSome = decide (0 < s.mark.seq); rw [lastM_snoc, if_neg (by omega)]; exact h.ls
  kd := by
    intro y hy
    rcases List.mem_append.1 hy with hy | hy
    · exact h.kd y hy
    · rw [List.mem_singleton.1 hy]; exact .inl hk
  up := by
    show (r.ops ++ [o]).Pairwise _
    rw [List.pairwise_append]
    refine ⟨h.up, List.pairwise_singleton _ _, fun a ha b hb => ?_⟩
    rw [List.mem_singleton.1 hb, hq, ← h.nx]
    exact (h.rg a ha).2
  rg := by
    intro y hy
    show 1 ≤ y.seq ∧ y.seq < r.next + 1
    rcases List.mem_append.1 hy with hy | hy
    · have := h.rg y hy; omega
    · rw [List.mem_singleton.1 hy, hq, h.nx]; omega
  gl := by show (r.gone ++ [false]).length = (r.ops ++ [o]).length; simp [h.gl]
  fi := h.fi.sampled o hq hk hn
theorem Sim.marked {s : StV} {r : RfV} (h : Sim s r) (o : OpV) (hq : o.seq = s.next) (hk : o.kind = 2) (h3 : o.key = 0) (h4 : o.val = 0) (hn : 1 ≤ s.next) : Sim (marked s o) (rtook r o) where
  res := h.res
  sh := h.sh
  ho := h.ho
  nx := by show r.next + 1 = s.next + 1; rw [h.nx]
  pl := h.pl
  he := by
    show heldR (r.ops ++ [o]) (r.gone ++ [false]) = s.samples
    rw [heldR_snoc _ _ _ h.gl, if_neg (by omega), h.he, List.append_nil]
  lm := by show mop (lastM (r.ops ++ [o])) = o; rw [lastM_snoc, if_pos hk]; rfl
  ls := by show (lastM (r.ops ++ [o])).isSome = decide (0 < o.seq); rw [lastM_snoc, if_pos hk]; simp; omega
  kd := by
    intro y hy
    rcases List.mem_append.1 hy with hy | hy
    · exact h.kd y hy
    · rw [List.mem_singleton.1 hy]; exact .inr hk
  up := by
    show (r.ops ++ [o]).Pairwise _
    rw [List.pairwise_append]
    refine ⟨h.up, List.pairwise_singleton _ _, fun a ha b hb => ?_⟩
    rw [List.mem_singleton.1 hb, hq, ← h.nx]
    exact (h.rg a ha).2
  rg := by
    intro y hy
    show 1 ≤ y.seq ∧ y.seq < r.next + 1
    rcases List.mem_append.1 hy with hy | hy
    · have := h.rg y hy; omega
    · rw [List.mem_singleton.1 hy, hq, h.nx]; omega
  gl := by show (r.gone ++ [false]).length = (r.ops ++ [o]).length; simp [h.gl]
  fi := h.fi.marked o hq hk h3 h4 hn
theorem Sim.cut {s : StV} {r : RfV} (h : Sim s r) (pl : List PlV) : Sim (cutSt s pl) (cutR r pl) where
  res := h.res
  sh := h.sh
  ho := h.ho
  nx := h.nx
  pl := by show raiseP r.places pl = raiseP s.places pl; rw [h.pl]
  he := by
    show heldR r.ops (goneC (covR r pl) r.ops r.gone) = s.samples.filter _
    rw [goneC_held _ _ _ h.gl, h.he]
    unfold covR
    rw [h.res, h.sh, h.pl]
  lm := h.lm
  ls := h.ls
  kd := h.kd
  up := h.up
  rg := h.rg
  gl := by show (goneC _ _ _).length = _; rw [goneC_len]; exact h.gl
  fi := h.fi.cut pl

theorem foldM_mem (l : List OpV) : ∀ (acc : Option OpV) (m : OpV), l.foldl (fun acc o => if o.kind = 2 then some o else acc) acc = some m → (m ∈ l ∧ m.kind = 2) ∨ acc = some m := by
  induction l with
  | nil => intro acc m h; exact .inr h
  | cons o l ih =>
    intro acc m h
    rcases ih _ m h with ⟨h1, h2⟩ | h1
    · exact .inl ⟨List.mem_cons_of_mem _ h1, h2⟩
    · have h1 : (if o.kind = 2 then some o else acc) = some m := h1
      by_cases hk : o.kind = 2
      · rw [if_pos hk] at h1
        obtain rfl := Option.some.inj h1
        exact .inl ⟨List.mem_cons_self, hk⟩
      · rw [if_neg hk] at h1; exact .inr h1
theorem lastM_mem {l : List OpV} {m : OpV} (h : lastM l = some m) : m ∈ l ∧ m.kind = 2 := (foldM_mem l none m h).elim id (fun h => by cases h)
theorem zip_has {l : List OpV} {g : List Bool} (h : g.length = l.length) {o : OpV} (ho : o ∈ l) : ∃ b, (o, b) ∈ l.zip g := by
  obtain ⟨i, hi, rfl⟩ := List.getElem_of_mem ho
  refine ⟨g[i]'(by omega), ?_⟩
  have hz : i < (l.zip g).length := by simp; omega
  rw [← List.getElem_zip (h := hz)]
  exact List.getElem_mem hz
theorem repA_mem {r : RfV} {f : Int} (hg : r.gone.length = r.ops.length) {o : OpV} : o ∈ repA r f ↔ ∃ b, (o, b) ∈ r.ops.zip r.gone ∧ repB r f o b = true := by
  unfold repA repK
  rw [List.take_of_length_le (by simp; omega), List.mem_map]
  constructor
  · rintro ⟨⟨p, b⟩, h1, rfl⟩
    exact ⟨b, (List.mem_filter.1 h1).1, (List.mem_filter.1 h1).2⟩
  · rintro ⟨b, h1, h2⟩
    exact ⟨(o, b), List.mem_filter.2 ⟨h1, h2⟩, rfl⟩
theorem held_mem {r : RfV} (hg : r.gone.length = r.ops.length) {o : OpV} : o ∈ heldR r.ops r.gone ↔ (o, false) ∈ r.ops.zip r.gone ∧ o.kind = 1 := by
  rw [heldR_zip _ _ hg, List.mem_map]
  constructor
  · rintro ⟨⟨p, b⟩, h1, rfl⟩
    have h2 := List.mem_filter.1 h1
    have h3 : p.kind = 1 ∧ b = false := by simpa using h2.2
    obtain ⟨h4, rfl⟩ := h3
    exact ⟨h2.1, h4⟩
  · rintro ⟨h1, h2⟩
    exact ⟨(o, false), List.mem_filter.2 ⟨h1, by simp [h2]⟩, rfl⟩
theorem pair_eq {l : List OpV} (h : l.Pairwise (fun a b => a.seq < b.seq)) {x y : OpV} (hx : x ∈ l) (hy : y ∈ l) (he : x.seq = y.seq) : x = y := by
  obtain ⟨i, hi, rfl⟩ := List.getElem_of_mem hx
  obtain ⟨j, hj, rfl⟩ := List.getElem_of_mem hy
  have hp := List.pairwise_iff_getElem.1 h
  rcases Nat.lt_trichotomy i j with h1 | h1 | h1
  · have := hp i j hi hj h1; omega
  · subst h1; rfl
  · have := hp j i hj hi h1; omega
theorem Sim.repA {s : StV} {r : RfV} (h : Sim s r) (f : Int) : repA r f = fromOn (allOf s) f := by
  refine eq_of_up ?_ ?_ (fun o => ?_)
  · have e : (r.ops.zip r.gone).map (·.1) = r.ops := by rw [List.map_fst_zip]; have := h.gl; omega
    have hp := h.up
    rw [← e] at hp
    refine hp.sublist (List.Sublist.map _ ?_)
    exact (List.filter_sublist).trans (List.take_sublist _ _)
  · exact h.fi.all_up.filter _
  · rw [repA_mem h.gl]
    unfold fromOn
    rw [List.mem_filter, all_mem, ← h.he, held_mem h.gl]
    have hls := h.ls
    have hlm := h.lm
    constructor
    · rintro ⟨b, h1, h2⟩
      unfold repB at h2
      rw [hlm] at h2
      simp only [Bool.and_eq_true, Bool.or_eq_true, decide_eq_true_eq, Bool.not_eq_true'] at h2
      obtain ⟨h3, h4⟩ := h2
      refine ⟨?_, by simp; omega⟩
      have ho : o ∈ r.ops := (List.of_mem_zip h1).1
      rcases h4 with ⟨h4, h5⟩ | ⟨h4, rfl⟩
      · right
        have hz := (h.rg o ho).1
        have hpos : 0 < s.mark.seq := by omega
        rw [decide_eq_true hpos] at hls
        obtain ⟨m, hm⟩ := Option.isSome_iff_exists.1 hls
        rw [hm] at hlm
        have hm2 : m = s.mark := hlm
        have := lastM_mem hm
        refine ⟨hpos, ?_⟩
        rw [← hm2]
        exact pair_eq h.up ho this.1 (by rw [h5, hm2])
      · exact .inl ⟨h1, h4⟩
    · rintro ⟨h1, h2⟩
      have h3 : f ≤ o.seq := by simpa using h2
      rcases h1 with ⟨h1, h4⟩ | ⟨h1, rfl⟩
      · exact ⟨false, h1, by unfold repB; simp [h3, h4]⟩
      · rw [decide_eq_true h1] at hls
        obtain ⟨m, hm⟩ := Option.isSome_iff_exists.1 hls
        have hm2 : m = s.mark := by rw [hm] at hlm; exact hlm
        obtain ⟨b, hb⟩ := zip_has h.gl (lastM_mem hm).1
        have hk := (lastM_mem hm).2
        refine ⟨b, by rw [← hm2]; exact hb, ?_⟩
        unfold repB
        rw [hlm, ← hm2]
        rw [← hm2] at h3
        simp [h3, hk]
theorem Sim.rep {s : StV} {r : RfV} (h : Sim s r) (f m : Int) : rrepL r f m = repL s f m ∧ rrepN r f m = repN s f m := by
  unfold rrepL repL rrepN repN
  rw [h.repA, h.nx]
  refine ⟨rfl, ?_⟩
  generalize fromOn (allOf s) f = L
  by_cases h1 : L.length = 0 ∨ (L.length : Int) ≤ m
  · rw [if_pos h1, if_pos (show (L.length : Int) ≤ max m 0 by omega)]
  · rw [if_neg h1, if_neg (show ¬ (L.length : Int) ≤ max m 0 by omega)]
    by_cases h2 : m < 1
    · rw [if_pos h2, if_pos (show m ≤ 0 by omega)]
      split <;> omega
    · rw [if_neg h2, if_neg (show ¬ m ≤ 0 by omega)]
end Go.Proofs.Ytomekiidgdkmiaa
