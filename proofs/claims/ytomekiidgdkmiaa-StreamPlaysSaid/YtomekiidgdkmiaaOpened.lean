/-
  A law's arguments, opened: what a reading says of the cells in memory.
-/
import Derived.Test.YtomekiidgdkmiaaFrame
import Derived.Test.YtomekiidgdkmiaaBase
import Derived.Deep.Slices
namespace Go.Proofs.Ytomekiidgdkmiaa
open Go.ChangeShapes Go.WideShapes Go.ChangeAt Go.RowKit Go.Deep
set_option linter.unusedVariables false
set_option linter.unusedSimpArgs false

section
variable {H : Type} {enc : TypeId × Value → H} {w : World} {base : Nat} {held : Bool}

theorem field_w {P : Program} {spare : Nat → Bool} {t : TypeId} {fs : Array Field} {fuel : Nat} {cs : List Value} {x : DataW H × List MemPlace} (ht : P.underlying t = some (.struct fs)) (h : DataW.trod enc P w base spare held fuel t cs = some x) :
    cs.length = P.cellsOf t ∧ ∀ (i : Nat) (f : Field), fs[i]? = some f → ∃ n y, DataW.trod enc P w base spare held n f.type ((cs.drop f.offset).take (P.cellsOf f.type)) = some y ∧ ∀ q ∈ y.1.weights P f.type, q ∈ x.1.weights P t := by
  obtain ⟨xs, n, _, hx, hl, hlen, hf⟩ := DataW.trod_struct ht h
  refine ⟨hl, fun i f hi => ?_⟩
  have h1 := hf i f hi
  have h2 : i < xs.length := by rw [hlen]; exact (Array.getElem?_eq_some_iff.1 hi).1
  refine ⟨n, xs[i], by rw [h1, List.getElem?_eq_getElem h2], fun q hq => ?_⟩
  subst hx
  simp only [DataW.weights, ht]
  exact DataW.weights_mem_each (j := i) (t := f.type) (d := xs[i].1) (by simpa using congrArg (Option.map Field.type) hi) (by simp [h2]) q hq
theorem field_of {P : Program} {spare : Nat → Bool} {t : TypeId} {fs : Array Field} {fuel : Nat} {cs : List Value} {x : DataW H × List MemPlace} (ht : P.underlying t = some (.struct fs)) (h : DataW.trod enc P w base spare held fuel t cs = some x) :
    cs.length = P.cellsOf t ∧ ∀ (i : Nat) (f : Field), fs[i]? = some f → ∃ n y, DataW.trod enc P w base spare held n f.type ((cs.drop f.offset).take (P.cellsOf f.type)) = some y := by
  obtain ⟨h1, h2⟩ := field_w ht h
  exact ⟨h1, fun i f hi => by obtain ⟨n, y, h3, _⟩ := h2 i f hi; exact ⟨n, y, h3⟩⟩
theorem weights_all {P : Program} {e : TypeId} {d : DataW H} {q : Nat} : ∀ {l : List (DataW H)}, d ∈ l → q ∈ d.weights P e → q ∈ DataW.weightsAll P e l
  | [], h, _ => by cases h
  | a :: l, h, hq => by
    simp only [DataW.weightsAll, List.mem_append]
    rcases List.mem_cons.1 h with rfl | h
    · exact .inl hq
    · exact .inr (weights_all h hq)
/-- all that a reading holds is of a size that a machine can have -/
def Fits (P : Program) (t : TypeId) (x : DataW H × List MemPlace) : Prop := ∀ q ∈ x.1.weights P t, q ≤ reachBytes
theorem one_int {P : Program} {spare : Nat → Bool} {t : TypeId} {n : Nat} {c : Value} {y : DataW H × List MemPlace} (ht : P.underlying t = some (.int .i64)) (h : DataW.trod enc P w base spare held n t [c] = some y) : ∃ z, c = .int .i64 z ∧ I64 z := by
  obtain ⟨z, h1, _, h2⟩ := DataW.trod_int ht h
  simp only [List.cons.injEq, and_true] at h1
  exact ⟨z, h1, i64_of h2⟩
theorem len5 {α : Type} {l : List α} (h : l.length = 5) : ∃ a b c d e, l = [a, b, c, d, e] := by
  match l, h with
  | [a, b, c, d, e], _ => exact ⟨a, b, c, d, e, rfl⟩
theorem len2 {α : Type} {l : List α} (h : l.length = 2) : ∃ a b, l = [a, b] := by
  match l, h with
  | [a, b], _ => exact ⟨a, b, rfl⟩
theorem cells_int : Try.prog.cellsOf 3 = 1 := by kernel_rfl
theorem cells_op : Try.prog.cellsOf 34 = 5 := by kernel_rfl
theorem cells_pl : Try.prog.cellsOf 49 = 2 := by kernel_rfl

theorem opened_op {spare : Nat → Bool} {n : Nat} {cs : List Value} {x : DataW H × List MemPlace} (h : DataW.trod enc Try.prog w base spare held n 34 cs = some x) : ∃ o : OpV, cs = o.vals ∧ o.ok := by
  obtain ⟨hl, hf⟩ := field_of Try.underlying34 h
  obtain ⟨a, b, c, d, e, rfl⟩ := len5 (hl.trans cells_op)
  obtain ⟨n0, y0, h0⟩ := hf 0 _ rfl
  obtain ⟨n1, y1, h1⟩ := hf 1 _ rfl
  obtain ⟨n2, y2, h2⟩ := hf 2 _ rfl
  obtain ⟨n3, y3, h3⟩ := hf 3 _ rfl
  obtain ⟨n4, y4, h4⟩ := hf 4 _ rfl
  simp [cells_int] at h0 h1 h2 h3 h4
  obtain ⟨z0, rfl, k0⟩ := one_int Try.underlying3 h0
  obtain ⟨z1, rfl, k1⟩ := one_int Try.underlying3 h1
  obtain ⟨z2, rfl, k2⟩ := one_int Try.underlying3 h2
  obtain ⟨z3, rfl, k3⟩ := one_int Try.underlying3 h3
  obtain ⟨z4, rfl, k4⟩ := one_int Try.underlying3 h4
  exact ⟨⟨z0, z1, z2, z3, z4⟩, rfl, k0, k1, k2, k3, k4⟩
theorem opened_pl {spare : Nat → Bool} {n : Nat} {cs : List Value} {x : DataW H × List MemPlace} (h : DataW.trod enc Try.prog w base spare held n 49 cs = some x) : ∃ o : PlV, cs = o.vals ∧ o.ok := by
  obtain ⟨hl, hf⟩ := field_of Try.underlying49 h
  obtain ⟨a, b, rfl⟩ := len2 (hl.trans cells_pl)
  obtain ⟨n0, y0, h0⟩ := hf 0 _ rfl
  obtain ⟨n1, y1, h1⟩ := hf 1 _ rfl
  simp [cells_int] at h0 h1
  obtain ⟨z0, rfl, k0⟩ := one_int Try.underlying3 h0
  obtain ⟨z1, rfl, k1⟩ := one_int Try.underlying3 h1
  exact ⟨⟨z0, z1⟩, rfl, k0, k1⟩

/-- a slice whose elements open: its cells are a row -/
structure Opened (w : World) {α : Type} (f : α → List Value) (ok : α → Prop) (l : List α) (A : Option Addr) (n c : Nat) : Prop where
  len : l.length = n
  max : n ≤ maxLen
  ok : ∀ a ∈ l, ok a
  row : 0 < l.length → SlAt w (.slice A l.length c) l.length (l.flatMap f)
  size : (l.flatMap f).length * 8 ≤ reachBytes
theorem Opened.below {w w' : World} {α : Type} {f : α → List Value} {ok ok' : α → Prop} {l : List α} {A : Option Addr} {n c : Nat} (h : Opened w f ok l A n c) (hb : Below w.heap.size w w') (hok : ∀ a, ok a → ok' a) : Opened w' f ok' l A n c :=
  ⟨h.len, h.max, fun a ha => hok a (h.ok a ha), fun hp => (h.row hp).below hb, h.size⟩
theorem opened_slice {α : Type} [Inhabited α] (f : α → List Value) (k : Nat) (hk : 0 < k) (hfk : ∀ x, (f x).length = k) (ok : α → Prop) {P : Program} {t e : TypeId} {fuel : Nat} {A : Option Addr} {n c : Nat} {x : DataW H × List MemPlace}
    (ht : P.underlying t = some (.slice e)) (hc : P.cellsOf e = k) (hby : k * 8 ≤ P.bytesOf e) (hel : ∀ (n : Nat) (cs : List Value) (x : DataW H × List MemPlace), DataW.trod enc P w base (fun _ => true) held n e cs = some x → Fits P e x → ∃ a, cs = f a ∧ ok a)
    (h : DataW.trod enc P w base (fun _ => true) held fuel t [.slice A n c] = some x) (hw : Fits P t x) : ∃ l : List α, Opened w f ok l A n c := by
  rcases open_slice ht h with ⟨h0, _⟩ | ⟨a, len, cap, m, n', D, Pl, hcs, hb, hl, hm, hmm, hxx, hx⟩
  · simp only [List.cons.injEq, Value.slice.injEq, and_true] at h0
    obtain ⟨rfl, rfl, rfl⟩ := h0
    exact ⟨[], rfl, Nat.zero_le _, fun a ha => (by cases ha), fun h => (by simp at h), Nat.zero_le _⟩
  · simp only [List.cons.injEq, Value.slice.injEq, and_true] at hcs
    obtain ⟨rfl, rfl, rfl⟩ := hcs
    simp only [if_true] at hmm
    subst hmm
    obtain ⟨V, hV⟩ := choose_lt (n := n) (α := α) (p := fun i v => w.cells? base (a.add (i * k)) k = some (f v) ∧ ok v) (fun i hi => by
      obtain ⟨cs', h1, h2⟩ := hx i (by omega)
      obtain ⟨v, rfl, hv⟩ := hel _ _ _ h2 (fun q hq => hw q (by
        subst hxx
        simp only [DataW.weights, ht, List.mem_cons, List.mem_append]
        exact .inr (.inl (weights_all (d := D i) (by simp; exact ⟨i, by omega, rfl⟩) hq))))
      rw [hc] at h1
      exact ⟨v, h1, hv⟩)
    refine ⟨(List.range n).map V, by simp, by omega, ?_, ?_, ?_⟩
    · intro v hv
      obtain ⟨i, hi, rfl⟩ := List.mem_map.1 hv
      exact (hV i (List.mem_range.1 hi)).2
    · intro hp
      have hn : 0 < n := by simpa using hp
      have cell : ∀ i j u, i < n → (f (V i))[j]? = some u → w.cell? (a.add (i * k + j)) = some u := by
        intro i j u hi hj
        have h1 := (World.cells?_some (hV i hi).1)
        have hjk : j < k := by
          have := (List.getElem?_eq_some_iff.1 hj).1
          rw [hfk] at this; exact this
        have h2 := h1.2.2 j hjk
        rw [add_add] at h2
        rw [← h2] at hj
        exact hj
      have hsp : a.spot = none := by
        have h0 : ∃ u, (f (V 0))[0]? = some u := ⟨(f (V 0))[0]'(by rw [hfk]; exact hk), by simp [hfk, hk]⟩
        obtain ⟨u, hu⟩ := h0
        have := cell 0 0 u hn hu
        simpa [Addr.add] using World.cell?_spot this
      obtain ⟨b, off, spot⟩ := a
      subst hsp
      have hlen : ((List.range n).map V).length = n := by simp
      rw [hlen]
      refine .inr ⟨b, off, _, rfl, ?_, ?_⟩
      · have h0 : ∃ u, (f (V 0))[0]? = some u := ⟨(f (V 0))[0]'(by rw [hfk]; exact hk), by simp [hfk, hk]⟩
        obtain ⟨u, hu⟩ := h0
        have := cell_lt (cell 0 0 u hn hu)
        simpa [Addr.add] using this
      · intro j u hj
        have hjl : j < n * k := by
          have := (List.getElem?_eq_some_iff.1 hj).1
          rw [flat_len f k hfk, hlen] at this
          exact this
        have hi : j / k < n := by rw [Nat.div_lt_iff_lt_mul hk]; exact hjl
        have hm2 : j % k < k := Nat.mod_lt _ hk
        have e1 : j / k * k + j % k = j := by rw [Nat.mul_comm]; exact Nat.div_add_mod j k
        have e2 := flat_get f k hfk ((List.range n).map V) (j / k) (j % k) (by rw [hlen]; exact hi) hm2
        rw [e1] at e2
        rw [e2] at hj
        have := cell (j / k) (j % k) u hi (by simpa using hj)
        rw [e1, add_plain] at this
        exact this
    · have h1 : (n + (m - n)) * P.bytesOf e ≤ reachBytes := hw _ (by
        subst hxx
        simp only [DataW.weights, ht, List.mem_cons, List.length_map, List.length_range]
        exact .inl trivial)
      rw [flat_len f k hfk, List.length_map, List.length_range, Nat.mul_assoc]
      exact Nat.le_trans (Nat.mul_le_mul (by omega) hby) h1
end
end Go.Proofs.Ytomekiidgdkmiaa
