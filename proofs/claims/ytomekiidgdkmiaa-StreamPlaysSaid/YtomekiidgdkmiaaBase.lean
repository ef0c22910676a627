/-
  The ground of this seat's walks: small words over lists, worlds and endings (no program in sight).
-/
import Derived.WalkKit
import Derived.WalkSpells
import Derived.WalkLawsBesides
import Derived.Deep.QuietTactic
import Derived.BigQuiet
import Derived.Deep.RegionHeld3
import Derived.Lib.Hide
namespace Go.Proofs.Ytomekiidgdkmiaa
open Go.RowKit

def I64 (x : Int) : Prop := -9223372036854775808 ≤ x ∧ x ≤ 9223372036854775807
theorem I64.lo {x : Int} (h : I64 x) : -9223372036854775808 ≤ x := h.1
theorem I64.hi {x : Int} (h : I64 x) : x ≤ 9223372036854775807 := h.2

theorem ret_bool {a b : Bool} (h : a = b) : Ending.returned (.bool a) = .returned (.bool b) := by rw [h]
theorem ret_int {k : IntKind} {a b : Int} (h : a = b) : Ending.returned (.int k a) = .returned (.int k b) := by rw [h]

/-- element i, or 0: a plain word, shut to simp -/
def nth (l : List Int) (i : Nat) : Int := l.getD i 0
theorem nth_get {l : List Int} {i : Nat} (h : i < l.length) : l[i] = nth l i := by simp [nth, List.getD_eq_getElem?_getD, h]
theorem nth_mem {l : List Int} {i : Nat} (h : i < l.length) : nth l i ∈ l := by rw [← nth_get h]; exact List.getElem_mem h

/-- the first one that isn't 0, or 0 -/
def firstNZ : List Int → Int
  | [] => 0
  | x :: l => if x = 0 then firstNZ l else x
theorem firstNZ_zeros (l : List Int) (k : Nat) (h : ∀ i, i < k → nth l i = 0) : firstNZ l = firstNZ (l.drop k) := by
  induction k generalizing l with
  | zero => rfl
  | succ k ih =>
    cases l with
    | nil => rfl
    | cons x l =>
      have hx : x = 0 := by simpa [nth] using h 0 (by omega)
      rw [List.drop_succ_cons, ← ih l (fun i hi => by simpa [nth] using h (i + 1) (by omega))]
      simp [firstNZ, hx]
theorem firstNZ_at (l : List Int) (k : Nat) (h : ∀ i, i < k → nth l i = 0) (hlt : k < l.length) (hk : nth l k ≠ 0) : firstNZ l = nth l k := by
  rw [firstNZ_zeros l k h, List.drop_eq_getElem_cons hlt, nth_get hlt]
  simp [firstNZ, hk]
theorem firstNZ_none (l : List Int) (k : Nat) (h : ∀ i, i < k → nth l i = 0) (hlt : l.length ≤ k) : firstNZ l = 0 := by
  rw [firstNZ_zeros l k h, List.drop_of_length_le hlt]; rfl

def cmpI (a b : Int) : Int := if a < b then -1 else if a > b then 1 else 0
/-- a place is ahead of another one -/
def lessP (a b c d : Int) : Bool := if a < c then true else if a > c then false else decide (b < d)
theorem lessP_or (a b c d : Int) : decide (firstNZ [cmpI a c, cmpI b d] < 0) = lessP a b c d := by
  unfold lessP cmpI firstNZ firstNZ firstNZ
  repeat' split
  all_goals first | omega | (simp; done) | (simp; omega)
theorem lessP_iff (a b c d : Int) : lessP a b c d = true ↔ a < c ∨ a = c ∧ b < d := by
  unfold lessP
  repeat' split
  all_goals first | (simp; omega) | omega

/-- windows, cut downwards; where a time lies in its window -/
def dv (t r : Int) : Int := if r < 1 then 0 else t / r
def md (t r : Int) : Int := if r < 1 then 0 else t % r
theorem tdiv_tmod (t r : Int) : t.tdiv r * r + t.tmod r = t := by rw [Int.mul_comm]; exact Int.mul_tdiv_add_tmod t r
theorem tdiv_neg (t r : Int) (hr : 1 ≤ r) (hm : t.tmod r < 0) : t.tdiv r - 1 = t / r := by
  have h1 := tdiv_tmod t r
  have h2 : -r < t.tmod r := by
    have := Int.lt_tmod_of_pos t (show 0 < r by omega); omega
  symm
  rw [Int.ediv_eq_iff_of_pos (by omega)]
  constructor
  · rw [Int.sub_mul]; omega
  · rw [Int.sub_mul]; omega
theorem tdiv_nonneg (t r : Int) (hr : 1 ≤ r) (hm : ¬ t.tmod r < 0) : t.tdiv r = t / r := by
  have h1 := tdiv_tmod t r
  have h2 : t.tmod r < r := Int.tmod_lt_of_pos t (by omega)
  symm
  rw [Int.ediv_eq_iff_of_pos (by omega)]
  constructor
  · omega
  · omega
theorem tmod_neg (t r : Int) (hr : 1 ≤ r) (hm : t.tmod r < 0) : t.tmod r + r = t % r := by
  have h1 := tdiv_neg t r hr hm
  have h2 := tdiv_tmod t r
  have h3 := Int.mul_ediv_add_emod t r
  rw [← h1, Int.mul_sub, Int.mul_comm] at h3
  omega
theorem tmod_nonneg (t r : Int) (hr : 1 ≤ r) (hm : ¬ t.tmod r < 0) : t.tmod r = t % r := by
  have h1 := tdiv_nonneg t r hr hm
  have h2 := tdiv_tmod t r
  have h3 := Int.mul_ediv_add_emod t r
  rw [← h1, Int.mul_comm] at h3
  omega
theorem tdiv_bd (t r : Int) (hr : 1 ≤ r) (ht : I64 t) : I64 (t.tdiv r) := by
  obtain ⟨a, b⟩ := ht
  have h1 : (t.tdiv r).natAbs ≤ t.natAbs := by
    rw [Int.natAbs_tdiv]; exact Nat.div_le_self _ _
  by_cases h : 0 ≤ t
  · have := Int.tdiv_nonneg h (show 0 ≤ r by omega)
    unfold I64; omega
  · have h2 := Int.tdiv_nonneg (show 0 ≤ -t by omega) (show 0 ≤ r by omega)
    rw [Int.neg_tdiv] at h2
    unfold I64; omega
theorem tmod_bd (t r : Int) (hr : 1 ≤ r) : -r < t.tmod r ∧ t.tmod r < r :=
  ⟨by have := Int.lt_tmod_of_pos t (show 0 < r by omega); omega, Int.tmod_lt_of_pos t (by omega)⟩
theorem dv_bd (t r : Int) (ht : I64 t) : I64 (dv t r) := by
  unfold dv
  split
  · constructor <;> omega
  · rename_i h
    have h1 : t / r = t.tdiv r ∨ (t / r = t.tdiv r - 1 ∧ t.tmod r < 0) := by
      by_cases hm : t.tmod r < 0
      · exact .inr ⟨(tdiv_neg t r (by omega) hm).symm, hm⟩
      · exact .inl (tdiv_nonneg t r (by omega) hm).symm
    have h2 := tdiv_bd t r (by omega) ht
    obtain ⟨a, b⟩ := ht
    obtain ⟨c, d⟩ := h2
    rcases h1 with e | ⟨e, hm⟩
    · rw [e]; exact ⟨c, d⟩
    · rw [e]
      refine ⟨?_, by omega⟩
      apply Classical.byContradiction
      intro hn
      have e2 : t.tdiv r = -9223372036854775808 := by omega
      have h3 := tdiv_tmod t r
      rw [e2] at h3
      have h5 : r = 1 := by
        apply Classical.byContradiction; intro hr
        have : -9223372036854775808 * r ≤ -9223372036854775808 * 2 := by omega
        omega
      subst h5
      have := tmod_bd t 1 (by omega)
      omega
theorem md_bd (t r : Int) (hr : 1 ≤ r) : 0 ≤ md t r ∧ md t r < r := by
  unfold md
  rw [if_neg (by omega)]
  exact ⟨Int.emod_nonneg t (by omega), Int.emod_lt_of_pos t (by omega)⟩

theorem and_neg1 (r : Int) (h0 : 0 ≤ r) (h1 : r ≤ 9223372036854775807) : bits .and .i64 r (-1) = r := by
  have h : BitVec.ofInt 64 (-1) = BitVec.allOnes 64 := by decide
  show IntKind.i64.wrap ((BitVec.ofInt 64 r &&& BitVec.ofInt 64 (-1)).toNat : Nat) = r
  rw [h, BitVec.and_allOnes, BitVec.toNat_ofInt, IntKind.wrap_i64]
  omega
theorem and_zero64 (r : Int) : bits .and .i64 r 0 = 0 := by
  have h : BitVec.ofInt 64 0 = 0#64 := by decide
  show IntKind.i64.wrap ((BitVec.ofInt 64 r &&& BitVec.ofInt 64 0).toNat : Nat) = 0
  rw [h, BitVec.and_zero, IntKind.wrap_i64]
  simp
theorem mod_bits (t r : Int) (hr : 1 ≤ r) (hr2 : r ≤ 9223372036854775807) : wrap64 (t.tmod r + bits BinOp.and IntKind.i64 r (t.tmod r / 9223372036854775808)) = md t r := by
  have hm := tmod_bd t r hr
  have hb := md_bd t r hr
  unfold md at hb ⊢
  rw [if_neg (by omega)] at hb ⊢
  by_cases h : t.tmod r < 0
  · have e : t.tmod r / 9223372036854775808 = -1 := by omega
    rw [e, and_neg1 r (by omega) hr2, tmod_neg t r hr h]
    unfold wrap64; omega
  · have e : t.tmod r / 9223372036854775808 = 0 := by omega
    rw [e, and_zero64, Int.add_zero, tmod_nonneg t r hr h]
    unfold wrap64; omega

/-! ### structs as values -/
structure OpV where
  seq : Int
  kind : Int
  time : Int
  key : Int
  val : Int
  deriving DecidableEq
def OpV.zero : OpV := ⟨0, 0, 0, 0, 0⟩
def OpV.ok (o : OpV) : Prop := I64 o.seq ∧ I64 o.kind ∧ I64 o.time ∧ I64 o.key ∧ I64 o.val
structure PlV where
  win : Int
  key : Int
  deriving DecidableEq
def PlV.zero : PlV := ⟨0, 0⟩
def PlV.ok (p : PlV) : Prop := I64 p.win ∧ I64 p.key
def PlV.less (p q : PlV) : Bool := lessP p.win p.key q.win q.key
structure IdV where
  lane : Int
  win : Int
  key : Int
  deriving DecidableEq
def IdV.zero : IdV := ⟨0, 0, 0⟩
def IdV.place (d : IdV) : PlV := ⟨d.win, d.key⟩
def opn (l : List OpV) (i : Nat) : OpV := l.getD i OpV.zero
def pln (l : List PlV) (i : Nat) : PlV := l.getD i PlV.zero
def idn (l : List IdV) (i : Nat) : IdV := l.getD i IdV.zero
theorem opn_get {l : List OpV} {i : Nat} (h : i < l.length) : l[i] = opn l i := by simp [opn, List.getD_eq_getElem?_getD, h]
theorem pln_get {l : List PlV} {i : Nat} (h : i < l.length) : l[i] = pln l i := by simp [pln, List.getD_eq_getElem?_getD, h]
theorem idn_get {l : List IdV} {i : Nat} (h : i < l.length) : l[i] = idn l i := by simp [idn, List.getD_eq_getElem?_getD, h]

/-- an operation's cells: one a resolution -/
def idOf (o : OpV) (shards : Int) (i : Nat) (r : Int) : IdV := ⟨(i : Int) * shards + md o.key shards, dv o.time r, o.key⟩
def idsFrom (o : OpV) (shards : Int) : Nat → List Int → List IdV
  | _, [] => []
  | i, r :: rs => idOf o shards i r :: idsFrom o shards (i + 1) rs
def idsOf (o : OpV) (res : List Int) (shards : Int) : List IdV := idsFrom o shards 0 res

def IdV.vals (d : IdV) : List Value := [.int .i64 d.lane, .int .i64 d.win, .int .i64 d.key]
def OpV.vals (o : OpV) : List Value := [.int .i64 o.seq, .int .i64 o.kind, .int .i64 o.time, .int .i64 o.key, .int .i64 o.val]
def PlV.vals (p : PlV) : List Value := [.int .i64 p.win, .int .i64 p.key]
def idVals (l : List IdV) : List Value := l.flatMap IdV.vals
def opVals (l : List OpV) : List Value := l.flatMap OpV.vals
def plVals (l : List PlV) : List Value := l.flatMap PlV.vals
theorem flat_len {α : Type} (f : α → List Value) (k : Nat) (hf : ∀ x, (f x).length = k) (l : List α) : (l.flatMap f).length = l.length * k := by
  induction l with
  | nil => simp
  | cons x l ih => simp [List.flatMap_cons, hf, ih, Nat.add_mul]; omega
theorem flat_get {α : Type} (f : α → List Value) (k : Nat) (hf : ∀ x, (f x).length = k) (l : List α) (i j : Nat) (hi : i < l.length) (hj : j < k) :
    (l.flatMap f)[i * k + j]? = (f l[i])[j]? := by
  induction l generalizing i with
  | nil => simp at hi
  | cons x l ih =>
    rw [List.flatMap_cons]
    cases i with
    | zero => rw [Nat.zero_mul, Nat.zero_add, List.getElem?_append_left (by rw [hf]; exact hj)]; rfl
    | succ i =>
      rw [List.getElem?_append_right (by rw [hf, Nat.add_mul]; omega), hf]
      have e : (i + 1) * k + j - k = i * k + j := by rw [Nat.add_mul]; omega
      rw [e, ih i (by simpa using hi)]
      rfl
theorem idVals_len (l : List IdV) : (idVals l).length = l.length * 3 := flat_len _ 3 (fun _ => rfl) l
theorem opVals_len (l : List OpV) : (opVals l).length = l.length * 5 := flat_len _ 5 (fun _ => rfl) l
theorem plVals_len (l : List PlV) : (plVals l).length = l.length * 2 := flat_len _ 2 (fun _ => rfl) l

theorem old_cell {w w1 : World} {B : Nat} (h : Below B w w1) {p : Addr} {v : Value} (hc : w.cell? p = some v) (hB : p.block < B) : w1.cell? p = some v := (h.cell hB).trans hc
theorem cell_lt {w : World} {p : Addr} {v : Value} (hc : w.cell? p = some v) : p.block < w.heap.size := World.block_lt_of_cell? w p hc
theorem alloc_old {w : World} {o : Obj} {p : Addr} {v : Value} (hc : w.cell? p = some v) : (w.alloc o).cell? p = some v :=
  (World.cell?_of_block (Below.heap_alloc w o p.block (cell_lt hc))).trans hc
theorem box_cell (w : World) (cs : Array Value) (T : TypeId) (fz : Nat × Nat) (j : Nat) (v : Value) (h : cs[j]? = some v) : (w.alloc (.cells cs T fz)).cell? ⟨w.heap.size, j, none⟩ = some v := by
  rw [cell_of_row _ _ _ cs T fz (heap_alloc_new w _)]; exact h
theorem box_cell2 (w : World) (o : Obj) (v : Value) (T : TypeId) (fz : Nat × Nat) : ((w.alloc o).alloc (.cells #[v] T fz)).cell? ⟨w.heap.size + 1, 0, none⟩ = some v := by
  have h := box_cell (w.alloc o) #[v] T fz 0 v rfl
  simpa using h
theorem below_alloc (w : World) (o : Obj) : Below w.heap.size w (w.alloc o) := (Below.refl _ _).alloc (Nat.le_refl _) o

theorem add_zero_addr (b j : Nat) : (⟨b, 0, none⟩ : Addr).add j = ⟨b, j, none⟩ := by unfold Addr.add; split <;> simp_all
theorem new_row (w : World) (cs : List Value) (T : TypeId) : ∀ j u, cs[j]? = some u → (w.alloc (.cells cs.toArray T)).drew.cell? ((⟨w.heap.size, 0, none⟩ : Addr).add j) = some u := by
  intro j u h
  rw [add_zero_addr]
  exact box_cell w cs.toArray T _ j u (by simpa using h)
theorem new_row' (w : World) (cs : List Value) (T : TypeId) : ∀ j u, cs[j]? = some u → (w.alloc (.cells cs.toArray T)).cell? ((⟨w.heap.size, 0, none⟩ : Addr).add j) = some u := by
  intro j u h
  rw [add_zero_addr]
  exact box_cell w cs.toArray T _ j u (by simpa using h)

theorem own_down {w : World} {B B' : Nat} {T : TypeId} {sz : Nat} {v : Value} {n : Nat} {xs : List Value} (h : w.ownsRow B T sz v n xs) (hb : B' ≤ B) : w.ownsRow B' T sz v n xs := by
  obtain ⟨h1, h2⟩ := h
  refine ⟨h1, ?_⟩
  rcases h2 with h2 | ⟨g, cap, cur, e, hg, r⟩
  · exact .inl h2
  · exact .inr ⟨g, cap, cur, e, Nat.le_trans hb hg, r⟩

theorem own_some {w : World} {B : Nat} {T : TypeId} {sz : Nat} {v : Value} {n : Nat} {xs : List Value} (h : w.ownsRow B T sz v n xs) (hn : 1 ≤ n) :
    ∃ g cap, v = .slice (some ⟨g, 0, none⟩) n cap ∧ B ≤ g ∧ g < w.heap.size := by
  rcases h.2 with ⟨_, h2⟩ | ⟨g, cap, cur, e, hg, hh, _⟩
  · omega
  · exact ⟨g, cap, e, hg, (Array.getElem?_eq_some_iff.1 hh).1⟩

theorem below_drewN {B : Nat} {a w : World} (h : Below B a w) (n : Nat) : Below B a (w.drewN n) := ⟨h.os, h.tape, h.output, h.size, h.block⟩

theorem undrew2 {w w' : World} (h : Below w.drew.heap.size w.drew w') : Below w.heap.size w w' := ⟨h.os, h.tape, h.output, h.size, h.block⟩
theorem undrew {B : Nat} {w w' : World} (h : Below B w.drew w') : Below B w w' := ⟨h.os, h.tape, h.output, h.size, h.block⟩

/-- a call that returns some value with a property: a word shut to simp -/
def SomeV (P : Value → World → Prop) (e : Ending) (w : World) : Prop := ∃ v, e = .returned v ∧ P v w

theorem idsFrom_append (o : OpV) (sh : Int) (l m : List Int) (i : Nat) : idsFrom o sh i (l ++ m) = idsFrom o sh i l ++ idsFrom o sh (i + l.length) m := by
  induction l generalizing i with
  | nil => simp [idsFrom]
  | cons r l ih => simp only [List.cons_append, idsFrom, ih, List.length_cons]; rw [show i + 1 + l.length = i + (l.length + 1) from by omega]
theorem idsFrom_len (o : OpV) (sh : Int) (l : List Int) (i : Nat) : (idsFrom o sh i l).length = l.length := by
  induction l generalizing i with
  | nil => rfl
  | cons r l ih => simp [idsFrom, ih]
theorem idsOf_len (o : OpV) (res : List Int) (sh : Int) : (idsOf o res sh).length = res.length := idsFrom_len o sh res 0
theorem take_succ_nth (l : List Int) (k : Nat) (h : k < l.length) : l.take (k + 1) = l.take k ++ [nth l k] := by
  rw [List.take_succ_eq_append_getElem h, nth_get h]
theorem ids_snoc (o : OpV) (res : List Int) (sh : Int) (k : Nat) (h : k < res.length) : idsOf o (res.take (k + 1)) sh = idsOf o (res.take k) sh ++ [idOf o sh k (nth res k)] := by
  unfold idsOf
  rw [take_succ_nth res k h, idsFrom_append]
  simp [idsFrom, Nat.min_eq_left (Nat.le_of_lt h)]
theorem idVals_snoc (l : List IdV) (d : IdV) : idVals (l ++ [d]) = idVals l ++ d.vals := by simp [idVals]
theorem opVals_snoc (l : List OpV) (d : OpV) : opVals (l ++ [d]) = opVals l ++ d.vals := by simp [opVals]
theorem plVals_snoc (l : List PlV) (d : PlV) : plVals (l ++ [d]) = plVals l ++ d.vals := by simp [plVals]

/-! ### rows of cells in memory -/
def RowAt (w : World) (b off : Nat) (vals : List Value) : Prop := ∀ j u, vals[j]? = some u → w.cell? ⟨b, off + j, none⟩ = some u
theorem RowAt.below {w w1 : World} {b off : Nat} {vs : List Value} (h : RowAt w b off vs) (hb : Below w.heap.size w w1) : RowAt w1 b off vs :=
  fun j u hj => old_cell hb (h j u hj) (cell_lt (h j u hj))
theorem RowAt.block {w w1 : World} {b off : Nat} {vs : List Value} (h : RowAt w b off vs) (hb : w1.heap[b]? = w.heap[b]?) : RowAt w1 b off vs :=
  fun j u hj => (World.cell?_of_block (a := ⟨b, off + j, none⟩) hb).trans (h j u hj)
theorem RowAt.add {w : World} {b off : Nat} {vs : List Value} (h : RowAt w b off vs) : ∀ j u, vs[j]? = some u → w.cell? ((⟨b, off, none⟩ : Addr).add j) = some u := by
  intro j u hj
  have e : (⟨b, off, none⟩ : Addr).add j = ⟨b, off + j, none⟩ := by unfold Addr.add; split <;> simp_all
  rw [e]; exact h j u hj
theorem own_row {w : World} {B g cap : Nat} {T : TypeId} {sz n n' : Nat} {xs : List Value} (h : w.ownsRow B T sz (.slice (some ⟨g, 0, none⟩) n' cap) n xs) : RowAt w g 0 xs := by
  intro j u hj
  have := h.cells (g := g) rfl j u hj
  rw [add_zero_addr] at this
  rw [Nat.zero_add]; exact this
def intVals (l : List Int) : List Value := l.map (.int .i64)
theorem intVals_len (l : List Int) : (intVals l).length = l.length * 1 := by simp [intVals]
theorem intVals_one : ∀ l : List Int, ∀ u ∈ intVals l, u.oneCell' = true := by
  intro l u hu; simp [intVals] at hu; obtain ⟨x, _, rfl⟩ := hu; rfl
theorem opVals_one : ∀ l : List OpV, ∀ u ∈ opVals l, u.oneCell' = true := by
  intro l u hu; simp [opVals, OpV.vals] at hu; obtain ⟨x, _, h⟩ := hu; rcases h with rfl | rfl | rfl | rfl | rfl <;> rfl
theorem plVals_one : ∀ l : List PlV, ∀ u ∈ plVals l, u.oneCell' = true := by
  intro l u hu; simp [plVals, PlV.vals] at hu; obtain ⟨x, _, h⟩ := hu; rcases h with rfl | rfl <;> rfl
theorem RowAt.int {w : World} {b off : Nat} {l : List Int} (h : RowAt w b off (intVals l)) (i : Nat) (hi : i < l.length) : w.cell? ⟨b, off + i, none⟩ = some (.int .i64 (nth l i)) :=
  h i _ (by simp [intVals, hi, nth, List.getD_eq_getElem?_getD])
theorem RowAt.op {w : World} {b off : Nat} {l : List OpV} (h : RowAt w b off (opVals l)) (i : Nat) (hi : i < l.length) :
    w.cell? ⟨b, off + i * 5, none⟩ = some (.int .i64 (opn l i).seq) ∧ w.cell? ⟨b, off + i * 5 + 1, none⟩ = some (.int .i64 (opn l i).kind) ∧ w.cell? ⟨b, off + i * 5 + 2, none⟩ = some (.int .i64 (opn l i).time) ∧
    w.cell? ⟨b, off + i * 5 + 3, none⟩ = some (.int .i64 (opn l i).key) ∧ w.cell? ⟨b, off + i * 5 + 4, none⟩ = some (.int .i64 (opn l i).val) := by
  have e : ∀ j, j < 5 → ∀ u, (opn l i).vals[j]? = some u → w.cell? ⟨b, off + i * 5 + j, none⟩ = some u := by
    intro j hj u hu
    have := h (i * 5 + j) u (by rw [opVals, flat_get OpV.vals 5 (fun _ => rfl) l i j hi hj, opn_get hi]; exact hu)
    rwa [← Nat.add_assoc] at this
  exact ⟨e 0 (by omega) _ rfl, e 1 (by omega) _ rfl, e 2 (by omega) _ rfl, e 3 (by omega) _ rfl, e 4 (by omega) _ rfl⟩
theorem RowAt.pl {w : World} {b off : Nat} {l : List PlV} (h : RowAt w b off (plVals l)) : ∀ i, i < l.length →
    w.cell? ⟨b, off + i * 2, none⟩ = some (.int .i64 (pln l i).win) ∧ w.cell? ⟨b, off + i * 2 + 1, none⟩ = some (.int .i64 (pln l i).key) := by
  intro i hi
  have e : ∀ j, j < 2 → ∀ u, (pln l i).vals[j]? = some u → w.cell? ⟨b, off + i * 2 + j, none⟩ = some u := by
    intro j hj u hu
    have := h (i * 2 + j) u (by rw [plVals, flat_get PlV.vals 2 (fun _ => rfl) l i j hi hj, pln_get hi]; exact hu)
    rwa [← Nat.add_assoc] at this
  exact ⟨e 0 (by omega) _ rfl, e 1 (by omega) _ rfl⟩

/-- a slice value: nil, or n elements at an address -/
def SlAt (w : World) (v : Value) (n : Nat) (vals : List Value) : Prop :=
  (v = .slice none 0 0 ∧ n = 0 ∧ vals = []) ∨ ∃ b off c, v = .slice (some ⟨b, off, none⟩) n c ∧ b < w.heap.size ∧ RowAt w b off vals
theorem SlAt.below {w w1 : World} {v : Value} {n : Nat} {vs : List Value} (h : SlAt w v n vs) (hb : Below w.heap.size w w1) : SlAt w1 v n vs := by
  rcases h with h | ⟨b, off, c, h1, h2, h3⟩
  · exact .inl h
  · exact .inr ⟨b, off, c, h1, Nat.lt_of_lt_of_le h2 hb.size, h3.below hb⟩
theorem own_sl {w : World} {B : Nat} {T : TypeId} {sz n : Nat} {v : Value} {xs : List Value} (h : w.ownsRow B T sz v n xs) : SlAt w v n xs := by
  have h0 := h
  rcases h.2 with ⟨h1, h2⟩ | ⟨g, cap, cur, e, hg, hh, _⟩
  · refine .inl ⟨h1, h2, ?_⟩
    have := h.1; rw [h2, Nat.zero_mul] at this; exact List.eq_nil_of_length_eq_zero this
  · subst e; exact .inr ⟨g, 0, cap, rfl, (Array.getElem?_eq_some_iff.1 hh).1, own_row h0⟩

end Go.Proofs.Ytomekiidgdkmiaa
