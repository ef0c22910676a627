/-
  A stream in memory, and contracts of its methods that read or write one field.
-/
import Derived.Test.YtomekiidgdkmiaaCov
import Derived.Test.YtomekiidgdkmiaaSlices
namespace Go.Proofs.Ytomekiidgdkmiaa
open Go.RowKit
set_option linter.unusedVariables false
set_option linter.unusedSimpArgs false

/-- but for the blocks of S, what was there is as it was -/
structure Keeps (S : Nat → Prop) (w w' : World) : Prop where
  os : w'.os = w.os
  tape : w'.tape = w.tape
  output : w'.output = w.output
  size : w.heap.size ≤ w'.heap.size
  block : ∀ k, k < w.heap.size → ¬ S k → w'.heap[k]? = w.heap[k]?
theorem Keeps.refl (S : Nat → Prop) (w : World) : Keeps S w w := ⟨rfl, rfl, rfl, Nat.le_refl _, fun _ _ _ => rfl⟩
theorem Keeps.trans {S S' : Nat → Prop} {a b c : World} (h : Keeps S a b) (k : Keeps S' b c) (hs : ∀ i, i < a.heap.size → S' i → S i) : Keeps S a c :=
  ⟨k.os.trans h.os, k.tape.trans h.tape, k.output.trans h.output, Nat.le_trans h.size k.size, fun i hi hn => (k.block i (Nat.lt_of_lt_of_le hi h.size) (fun e => hn (hs i hi e))).trans (h.block i hi hn)⟩
theorem Keeps.mono {S S' : Nat → Prop} {a b : World} (h : Keeps S a b) (hs : ∀ i, i < a.heap.size → S i → S' i) : Keeps S' a b :=
  ⟨h.os, h.tape, h.output, h.size, fun i hi hn => h.block i hi (fun e => hn (hs i hi e))⟩
theorem Keeps.of_below {w w' : World} {B : Nat} (h : Below B w w') (S : Nat → Prop) (hs : ∀ i, i < w.heap.size → B ≤ i → S i) : Keeps S w w' :=
  ⟨h.os, h.tape, h.output, h.size, fun i hi hn => h.block i (by apply Classical.byContradiction; intro h2; exact hn (hs i hi (by omega)))⟩
theorem Keeps.below {w w' : World} {S : Nat → Prop} {B : Nat} (h : Keeps S w w') (hB : B ≤ w.heap.size) (hs : ∀ i, S i → B ≤ i) : Below B w w' :=
  ⟨h.os, h.tape, h.output, h.size, fun i hi => h.block i (by omega) (fun e => by have := hs i e; omega)⟩
theorem Keeps.of_grown {w w' : World} {row : Option Nat} (h : w.grownBy w' row) (S : Nat → Prop) (hs : ∀ i, row = some i → S i) : Keeps S w w' :=
  ⟨h.os, h.tape, h.output, h.size, fun i hi hn => h.block i hi (fun e => hn (hs i e.symm))⟩
theorem Keeps.alloc {w w' : World} {S : Nat → Prop} (h : Keeps S w w') (o : Obj) : Keeps S w (w'.alloc o) :=
  h.trans (Keeps.of_below (below_alloc w' o) (fun _ => False) (fun i hi h2 => by omega)) (fun _ _ h => h.elim)
theorem Keeps.drew {w w' : World} {S : Nat → Prop} (h : Keeps S w w') : Keeps S w w'.drew := ⟨h.os, h.tape, h.output, h.size, h.block⟩

theorem own_ne {w : World} {B : Nat} {T T' : TypeId} {sz n : Nat} {v : Value} {xs : List Value} {a : Nat} {cs : Array Value} {fz : Nat × Nat} (h : w.ownsRow B T sz v n xs) (ha : w.heap[a]? = some (.cells cs T' fz)) (hT : T ≠ T') : v.ownBlock ≠ some a := by
  intro e
  rcases h.2 with ⟨rfl, _⟩ | ⟨g, cap, cur, rfl, hg, hh, _⟩
  · simp [Value.ownBlock] at e
  · obtain rfl : g = a := Option.some.inj e
    rw [ha] at hh
    simp only [Option.some.injEq, Obj.cells.injEq] at hh
    exact hT hh.2.1.symm
theorem own_ne2 {w : World} {B B' : Nat} {T T' : TypeId} {sz sz' n n' : Nat} {v v' : Value} {xs xs' : List Value} (h : w.ownsRow B T sz v n xs) (h' : w.ownsRow B' T' sz' v' n' xs') (hT : T ≠ T') : ∀ g, v.ownBlock = some g → v'.ownBlock ≠ some g := by
  intro g hg
  rcases h'.2 with ⟨rfl, _⟩ | ⟨g', cap, cur, rfl, _, hh, _⟩
  · simp [Value.ownBlock]
  · intro e
    obtain rfl : g' = g := Option.some.inj e
    exact own_ne h hh hT hg
theorem own_keep {w w' : World} {B : Nat} {T : TypeId} {sz n : Nat} {v : Value} {xs : List Value} (h : w.ownsRow B T sz v n xs) (hk : ∀ g, v.ownBlock = some g → w'.heap[g]? = w.heap[g]?) : w'.ownsRow B T sz v n xs := by
  refine ⟨h.1, ?_⟩
  rcases h.2 with h2 | ⟨g, cap, cur, rfl, hg, hh, r⟩
  · exact .inl h2
  · exact .inr ⟨g, cap, cur, rfl, hg, (hk g rfl).trans hh, r⟩
theorem heap_set {w : World} {a j : Nat} {cs : Array Value} {T : TypeId} {fz : Nat × Nat} {v : Value} (h : w.heap[a]? = some (.cells cs T fz)) : (w.setCell ⟨a, j, none⟩ v).heap[a]? = some (.cells (cs.setIfInBounds j v) T fz) := by
  simp [World.setCell, Array.getElem?_modify, h]
theorem keeps_set (w : World) (a j : Nat) (v : Value) : Keeps (fun k => k = a) w (w.setCell ⟨a, j, none⟩ v) :=
  ⟨rfl, rfl, rfl, by simp [World.setCell], fun i hi hn => Below.heap_setCell _ _ _ _ hn⟩

theorem Keeps.set {w w' : World} {a : Nat} (h : Keeps (fun k => k = a) w w') (j : Nat) (v : Value) : Keeps (fun k => k = a) w (w'.setCell ⟨a, j, none⟩ v) := h.trans (keeps_set w' a j v) (fun _ _ h => h)
theorem Keeps.drewN {w w' : World} {S : Nat → Prop} (h : Keeps S w w') (n : Nat) : Keeps S w (w'.drewN n) := ⟨h.os, h.tape, h.output, h.size, h.block⟩

structure StV where
  res : List Int
  shards : Int
  hold : Int
  next : Int
  mark : OpV
  samples : List OpV
  places : List PlV
/-- a stream's numbers are in form -/
structure StV.ok (s : StV) : Prop where
  r1 : 1 ≤ s.res.length
  r3 : s.res.length ≤ 3
  rr : ∀ i, i < s.res.length → 1 ≤ nth s.res i ∧ nth s.res i ≤ 9223372036854775807
  s1 : 1 ≤ s.shards
  s4 : s.shards ≤ 4
  h1 : 1 ≤ s.hold
  h64 : s.hold ≤ 64
  n1 : 1 ≤ s.next
  n2 : s.next ≤ 4611686018427387904
  pl : s.places.length = s.res.length * s.shards.toNat
  sl : s.samples.length ≤ 3000000000000
  mt : I64 s.mark.time
  st : ∀ o ∈ s.samples, I64 o.time

def StV.cellsOf (s : StV) (vr vs vp : Value) : Array Value :=
  #[vr, .int .i64 s.shards, .int .i64 s.hold, .int .i64 s.next, .int .i64 s.mark.seq, .int .i64 s.mark.kind, .int .i64 s.mark.time, .int .i64 s.mark.key, .int .i64 s.mark.val, vs, vp]
structure StIs (w : World) (a : Nat) (s : StV) (vr vs vp : Value) : Prop where
  blk : w.heap[a]? = some (.cells (s.cellsOf vr vs vp) 86 (0, 0))
  res : w.ownsRow 0 3 1 vr s.res.length (intVals s.res)
  sam : w.ownsRow 0 34 5 vs s.samples.length (opVals s.samples)
  pla : w.ownsRow 0 49 2 vp s.places.length (plVals s.places)
def foot (a : Nat) (vs vp : Value) (k : Nat) : Prop := k = a ∨ vs.ownBlock = some k ∨ vp.ownBlock = some k
/-- a stream at block a, what it writes lying within F -/
def Stm (w : World) (a : Nat) (s : StV) (F : Nat → Prop) : Prop := s.ok ∧ ∃ vr vs vp, StIs w a s vr vs vp ∧ ∀ k, foot a vs vp k → F k

theorem StIs.cell {w : World} {a : Nat} {s : StV} {vr vs vp : Value} (h : StIs w a s vr vs vp) (j : Nat) (v : Value) (hj : (s.cellsOf vr vs vp)[j]? = some v) : w.cell? ⟨a, j, none⟩ = some v := by
  rw [cell_of_row _ _ _ _ _ _ h.blk]; exact hj
theorem StIs.lt {w : World} {a : Nat} {s : StV} {vr vs vp : Value} (h : StIs w a s vr vs vp) : a < w.heap.size := (Array.getElem?_eq_some_iff.1 h.blk).1
theorem StIs.frozen {w : World} {a : Nat} {s : StV} {vr vs vp : Value} (h : StIs w a s vr vs vp) (j : Nat) : w.frozen? ⟨a, j, none⟩ = false := by
  simp only [World.frozen?, h.blk]; simp
theorem StIs.keep {w w' : World} {a : Nat} {s : StV} {vr vs vp : Value} (h : StIs w a s vr vs vp) {S : Nat → Prop} (hk : Keeps S w w') (hs : ∀ k, foot a vs vp k ∨ vr.ownBlock = some k → ¬ S k) : StIs w' a s vr vs vp :=
  ⟨(hk.block a h.lt (hs a (.inl (.inl rfl)))).trans h.blk,
   own_keep h.res (fun g hg => hk.block g (h.res.lt g hg).2 (hs g (.inr hg))),
   own_keep h.sam (fun g hg => hk.block g (h.sam.lt g hg).2 (hs g (.inl (.inr (.inl hg))))),
   own_keep h.pla (fun g hg => hk.block g (h.pla.lt g hg).2 (hs g (.inl (.inr (.inr hg)))))⟩
theorem StIs.below {w w' : World} {a : Nat} {s : StV} {vr vs vp : Value} (h : StIs w a s vr vs vp) (hb : Below w.heap.size w w') : StIs w' a s vr vs vp :=
  h.keep (Keeps.of_below hb (fun _ => False) (fun i hi h2 => by omega)) (fun _ _ h => h)
theorem Stm.below {w w' : World} {a : Nat} {s : StV} {F : Nat → Prop} (h : Stm w a s F) (hb : Below w.heap.size w w') : Stm w' a s F := by
  obtain ⟨h0, vr, vs, vp, h1, h2⟩ := h
  exact ⟨h0, vr, vs, vp, h1.below hb, h2⟩

theorem blk_cell {w : World} {a : Nat} {cs : Array Value} {T : TypeId} {fz : Nat × Nat} (h : w.heap[a]? = some (.cells cs T fz)) (j : Nat) (v : Value) (hj : cs[j]? = some v) : w.cell? ⟨a, j, none⟩ = some v := by
  rw [cell_of_row _ _ _ _ _ _ h]; exact hj
theorem blk_frozen {w : World} {a : Nat} {cs : Array Value} {T : TypeId} (h : w.heap[a]? = some (.cells cs T (0, 0))) (j : Nat) : w.frozen? ⟨a, j, none⟩ = false := by
  simp only [World.frozen?, h]; simp
theorem StIs.upd {w W : World} {a : Nat} {s s' : StV} {vr vs vp : Value} (h : StIs w a s vr vs vp) (hk : Keeps (fun k => k = a) w W) (hb : W.heap[a]? = some (.cells (s'.cellsOf vr vs vp) 86 (0, 0)))
    (h1 : s'.res = s.res) (h2 : s'.samples = s.samples) (h3 : s'.places = s.places) : StIs W a s' vr vs vp := by
  have n1 := own_ne h.res h.blk (by decide)
  have n2 := own_ne h.sam h.blk (by decide)
  have n3 := own_ne h.pla h.blk (by decide)
  refine ⟨hb, ?_, ?_, ?_⟩
  · rw [h1]; exact own_keep h.res (fun g hg => hk.block g (h.res.lt g hg).2 (fun e => n1 (by rw [hg, e])))
  · rw [h2]; exact own_keep h.sam (fun g hg => hk.block g (h.sam.lt g hg).2 (fun e => n2 (by rw [hg, e])))
  · rw [h3]; exact own_keep h.pla (fun g hg => hk.block g (h.pla.lt g hg).2 (fun e => n3 (by rw [hg, e])))

/-- errors: 0 is none -/
def errV (c : Int) : Value := if c = 0 then .nilIface else .iface 44 (.int .i64 c)

/-! ### is a time below the last mark's? -/
def StV.early (s : StV) (t : Int) : Bool := decide (0 < s.mark.seq) && decide (t < s.mark.time)
theorem early_any (a : Nat) (s : StV) (vr vs vp : Value) (t : Int) (w : World) (h : StIs w a s vr vs vp) :
    Calls Try.prog 36 #[.pointer (some ⟨a, 0, none⟩), .int .i64 t] w fun e w' => e = .returned (.bool (s.early t)) ∧ w = w' := by
  have c4 : w.cell? ⟨a, 4, none⟩ = some (.int .i64 s.mark.seq) := h.cell 4 _ rfl
  have c6 : w.cell? ⟨a, 6, none⟩ = some (.int .i64 s.mark.time) := h.cell 6 _ rfl
  unfold StV.early
  by_cases hm : 0 < s.mark.seq
  · have hd : decide (0 < s.mark.seq) = true := by simpa using hm
    go_enter Try.func36, Try.ntmps36
    go_wp2
    go_ret
    exact ⟨ret_bool (by simp [hm]), rfl⟩
  · have hd : decide (0 < s.mark.seq) = false := by simpa using hm
    go_enter Try.func36, Try.ntmps36
    go_wp2
    go_ret
    exact ⟨ret_bool (by simp [hm]), rfl⟩

theorem next_any (a : Nat) (s : StV) (vr vs vp : Value) (w : World) (h : StIs w a s vr vs vp) :
    Calls Try.prog 19 #[.pointer (some ⟨a, 0, none⟩)] w fun e w' => e = .returned (.int .i64 s.next) ∧ w = w' := by
  have c3 : w.cell? ⟨a, 3, none⟩ = some (.int .i64 s.next) := h.cell 3 _ rfl
  go_enter Try.func19, Try.ntmps19
  go_wp2
  go_ret
  exact ⟨rfl, rfl⟩

theorem lanes_any (vr : Value) (A : Option Addr) (n c : Nat) (sh : Int) (w : World) (hn : n ≤ 100) (hs : 1 ≤ sh) (hs2 : sh ≤ 100) :
    Calls Try.prog 34 #[.agg #[.slice A n c, .int .i64 sh]] w fun e w' => e = .returned (.int .i64 (n * sh)) ∧ Below w.heap.size w w' := by
  have h1 : (0 : Int) ≤ (n : Int) * sh := Int.mul_nonneg (by omega) (by omega)
  have h2 : (n : Int) * sh ≤ 10000 := Int.le_trans (Int.mul_le_mul (show (n : Int) ≤ 100 by omega) hs2 (by omega) (by omega)) (by omega)
  go_enter Try.func34, Try.ntmps34
  go_wp2
  go_ret
  exact ⟨rfl, below_alloc _ _⟩
end Go.Proofs.Ytomekiidgdkmiaa
