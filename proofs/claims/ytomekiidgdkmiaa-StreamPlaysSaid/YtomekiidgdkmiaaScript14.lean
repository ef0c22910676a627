/-
  The stream chapter's input, opened; and the walk of its measure, whose answer nothing needs.
-/
import Derived.Test.YtomekiidgdkmiaaOpened
import Derived.Test.YtomekiidgdkmiaaStmB
namespace Go.Proofs.Ytomekiidgdkmiaa
open Go.ChangeShapes Go.WideShapes Go.ChangeAt Go.RowKit Go.Deep
set_option linter.unusedVariables false
set_option linter.unusedSimpArgs false

/-- one call of a script -/
structure ScV where
  kind : Int
  time : Int
  key : Int
  val : Int
  op : OpV
  pA : Option Addr
  pn : Nat
  pc : Nat
  pls : List PlV
instance : Inhabited ScV := ⟨⟨0, 0, 0, 0, OpV.zero, none, 0, 0, []⟩⟩
instance : Inhabited OpV := ⟨OpV.zero⟩
instance : Inhabited PlV := ⟨PlV.zero⟩
def ScV.vals (s : ScV) : List Value := [.int .i64 s.kind, .int .i64 s.time, .int .i64 s.key, .int .i64 s.val, .int .i64 s.op.seq, .int .i64 s.op.kind, .int .i64 s.op.time, .int .i64 s.op.key, .int .i64 s.op.val, .slice s.pA s.pn s.pc]
structure ScV.okIn (w : World) (s : ScV) : Prop where
  time : I64 s.time
  key : I64 s.key
  val : I64 s.val
  op : s.op.ok
  pls : Opened w PlV.vals PlV.ok s.pls s.pA s.pn s.pc
structure CaseV where
  rA : Option Addr
  rn : Nat
  rc : Nat
  res : List Int
  shards : Int
  hold : Int
  sA : Option Addr
  sn : Nat
  sc : Nat
  script : List ScV
def intV (x : Int) : List Value := [.int .i64 x]
theorem flat_int (l : List Int) : l.flatMap intV = intVals l := by
  induction l with
  | nil => rfl
  | cons x l ih => simp [List.flatMap_cons, intV, ih, intVals]
structure CaseV.okIn (w : World) (x : CaseV) : Prop where
  res : Opened w intV I64 x.res x.rA x.rn x.rc
  shards : I64 x.shards
  hold : I64 x.hold
  script : Opened w ScV.vals (ScV.okIn w) x.script x.sA x.sn x.sc
def CaseV.vals (x : CaseV) : Array Value := #[.slice x.rA x.rn x.rc, .int .i64 x.shards, .int .i64 x.hold, .slice x.sA x.sn x.sc]

theorem len10 {α : Type} {l : List α} (h : l.length = 10) : ∃ a b c d e f g i j k, l = [a, b, c, d, e, f, g, i, j, k] := by
  match l, h with
  | [a, b, c, d, e, f, g, i, j, k], _ => exact ⟨a, b, c, d, e, f, g, i, j, k, rfl⟩
theorem len4 {α : Type} {l : List α} (h : l.length = 4) : ∃ a b c d, l = [a, b, c, d] := by
  match l, h with
  | [a, b, c, d], _ => exact ⟨a, b, c, d, rfl⟩
theorem cells_sc : Try.prog.cellsOf 36 = 10 := by kernel_rfl
theorem cells_case : Try.prog.cellsOf 25 = 4 := by kernel_rfl
theorem cells_pls : Try.prog.cellsOf 26 = 1 := by kernel_rfl
theorem cells_ints : Try.prog.cellsOf 22 = 1 := by kernel_rfl
theorem by_pl : Try.prog.bytesOf 49 = 16 := by kernel_rfl
theorem by_int : Try.prog.bytesOf 3 = 8 := by kernel_rfl
theorem by_op : Try.prog.bytesOf 34 = 40 := by kernel_rfl
theorem by_sc : Try.prog.bytesOf 36 = 96 := by kernel_rfl
theorem cells_scs : Try.prog.cellsOf 23 = 1 := by kernel_rfl

section
variable {H : Type} {enc : TypeId × Value → H} {w : World} {base : Nat} {held : Bool}
theorem slice_val {P : Program} {spare : Nat → Bool} {t e : TypeId} {n : Nat} {c : Value} {x : DataW H × List MemPlace} (ht : P.underlying t = some (.slice e)) (h : DataW.trod enc P w base spare held n t [c] = some x) : ∃ A m q, c = .slice A m q := by
  rcases open_slice ht h with ⟨h0, _⟩ | ⟨a, len, cap, m, n', D, Pl, hcs, _⟩
  · simp only [List.cons.injEq, and_true] at h0
    exact ⟨none, 0, 0, h0⟩
  · simp only [List.cons.injEq, and_true] at hcs
    exact ⟨_, _, _, hcs⟩
theorem opened_sc {n : Nat} {cs : List Value} {x : DataW H × List MemPlace} (h : DataW.trod enc Try.prog w base (fun _ => true) held n 36 cs = some x) (hw : Fits Try.prog 36 x) : ∃ s : ScV, cs = s.vals ∧ s.okIn w := by
  obtain ⟨hl, hf⟩ := field_w Try.underlying36 h
  obtain ⟨a, b, c, d, e, f, g, i, j, k, rfl⟩ := len10 (hl.trans cells_sc)
  obtain ⟨n0, y0, h0, w0⟩ := hf 0 _ rfl
  obtain ⟨n1, y1, h1, w1⟩ := hf 1 _ rfl
  obtain ⟨n2, y2, h2, w2⟩ := hf 2 _ rfl
  obtain ⟨n3, y3, h3, w3⟩ := hf 3 _ rfl
  obtain ⟨n4, y4, h4, w4⟩ := hf 4 _ rfl
  obtain ⟨n5, y5, h5, w5⟩ := hf 5 _ rfl
  simp [cells_int, cells_op, cells_pls] at h0 h1 h2 h3 h4 h5
  obtain ⟨z0, rfl, k0⟩ := one_int Try.underlying3 h0
  obtain ⟨z1, rfl, k1⟩ := one_int Try.underlying3 h1
  obtain ⟨z2, rfl, k2⟩ := one_int Try.underlying3 h2
  obtain ⟨z3, rfl, k3⟩ := one_int Try.underlying3 h3
  obtain ⟨o, ho, hok⟩ := opened_op h4
  obtain ⟨A, m, q, rfl⟩ := slice_val Try.underlying26 h5
  obtain ⟨l, hpl⟩ := opened_slice (α := PlV) PlV.vals 2 (by decide) (fun _ => rfl) PlV.ok Try.underlying26 cells_pl (by rw [by_pl]; decide) (fun n cs x h _ => opened_pl h) h5 (fun q hq => hw q (w5 q hq))
  simp only [OpV.vals, List.cons.injEq, and_true] at ho
  obtain ⟨rfl, rfl, rfl, rfl, rfl⟩ := ho
  exact ⟨⟨z0, z1, z2, z3, o, A, m, q, l⟩, rfl, k1, k2, k3, hok, hpl⟩
theorem opened_case {n : Nat} {cs : List Value} {x : DataW H × List MemPlace} (h : DataW.trod enc Try.prog w base (fun _ => true) held n 25 cs = some x) (hw : Fits Try.prog 25 x) : ∃ s : CaseV, cs = s.vals.toList ∧ s.okIn w := by
  obtain ⟨hl, hf⟩ := field_w Try.underlying25 h
  obtain ⟨a, b, c, d, rfl⟩ := len4 (hl.trans cells_case)
  obtain ⟨n0, y0, h0, w0⟩ := hf 0 _ rfl
  obtain ⟨n1, y1, h1, w1⟩ := hf 1 _ rfl
  obtain ⟨n2, y2, h2, w2⟩ := hf 2 _ rfl
  obtain ⟨n3, y3, h3, w3⟩ := hf 3 _ rfl
  simp [cells_int, cells_ints, cells_scs] at h0 h1 h2 h3
  obtain ⟨A, m, q, rfl⟩ := slice_val Try.underlying22 h0
  obtain ⟨z1, rfl, k1⟩ := one_int Try.underlying3 h1
  obtain ⟨z2, rfl, k2⟩ := one_int Try.underlying3 h2
  obtain ⟨A2, m2, q2, rfl⟩ := slice_val Try.underlying23 h3
  obtain ⟨l, hil⟩ := opened_slice (α := Int) intV 1 (by decide) (fun _ => rfl) I64 Try.underlying22 cells_int (by rw [by_int]; decide) (fun n cs x h _ => by
    obtain ⟨z, h1, _, h2⟩ := DataW.trod_int Try.underlying3 h
    exact ⟨z, h1, i64_of h2⟩) h0 (fun q hq => hw q (w0 q hq))
  obtain ⟨l2, hl2⟩ := opened_slice (α := ScV) ScV.vals 10 (by decide) (fun _ => rfl) (ScV.okIn w) Try.underlying23 cells_sc (by rw [by_sc]; decide) (fun n cs x h hw => opened_sc h hw) h3 (fun q hq => hw q (w3 q hq))
  exact ⟨⟨A, m, q, l, z1, z2, A2, m2, q2, l2⟩, rfl, hil, k1, k2, hl2⟩
end

def scn (l : List ScV) (i : Nat) : ScV := l.getD i default
theorem scn_mem {l : List ScV} {i : Nat} (h : i < l.length) : scn l i ∈ l := by
  have : l[i] = scn l i := by simp [scn, List.getD_eq_getElem?_getD, h]
  rw [← this]; exact List.getElem_mem h
theorem sc_cells {w w' : World} {ok : ScV → Prop} {l : List ScV} {A : Option Addr} {n c : Nat} (h : Opened w ScV.vals ok l A n c) (hb : Below w.heap.size w w') (i : Nat) (hi : i < n) :
    ∃ b off, A = some ⟨b, off, none⟩ ∧ w'.cell? ⟨b, off + i * 10, none⟩ = some (.int .i64 (scn l i).kind) ∧ w'.cell? ⟨b, off + i * 10 + 1, none⟩ = some (.int .i64 (scn l i).time) ∧
      w'.cell? ⟨b, off + i * 10 + 2, none⟩ = some (.int .i64 (scn l i).key) ∧ w'.cell? ⟨b, off + i * 10 + 3, none⟩ = some (.int .i64 (scn l i).val) ∧
      w'.cell? ⟨b, off + i * 10 + 4, none⟩ = some (.int .i64 (scn l i).op.seq) ∧ w'.cell? ⟨b, off + i * 10 + 5, none⟩ = some (.int .i64 (scn l i).op.kind) ∧ w'.cell? ⟨b, off + i * 10 + 6, none⟩ = some (.int .i64 (scn l i).op.time) ∧
      w'.cell? ⟨b, off + i * 10 + 7, none⟩ = some (.int .i64 (scn l i).op.key) ∧ w'.cell? ⟨b, off + i * 10 + 8, none⟩ = some (.int .i64 (scn l i).op.val) ∧ w'.cell? ⟨b, off + i * 10 + 9, none⟩ = some (.slice (scn l i).pA (scn l i).pn (scn l i).pc) := by
  have hl := h.len
  rcases h.row (by omega) with ⟨_, h0, _⟩ | ⟨b, off, c', hv, hbl, hr⟩
  · omega
  · simp only [Value.slice.injEq] at hv
    refine ⟨b, off, hv.1, ?_⟩
    have e : ∀ j, j < 10 → ∀ u, (scn l i).vals[j]? = some u → w'.cell? ⟨b, off + i * 10 + j, none⟩ = some u := by
      intro j hj u hu
      have hg : l[i]'(by omega) = scn l i := by simp [scn, List.getD_eq_getElem?_getD, show i < l.length by omega]
      have := hr (i * 10 + j) u (by rw [flat_get ScV.vals 10 (fun _ => rfl) l i j (by omega) hj, hg]; exact hu)
      rw [← Nat.add_assoc] at this
      exact old_cell hb this hbl
    exact ⟨e 0 (by omega) _ rfl, e 1 (by omega) _ rfl, e 2 (by omega) _ rfl, e 3 (by omega) _ rfl, e 4 (by omega) _ rfl, e 5 (by omega) _ rfl, e 6 (by omega) _ rfl, e 7 (by omega) _ rfl, e 8 (by omega) _ rfl, e 9 (by omega) _ rfl⟩

set_option maxRecDepth 100000 in
theorem long_any (x : CaseV) (w : World) (h : Opened w ScV.vals (ScV.okIn w) x.script x.sA x.sn x.sc) :
    Calls Try.prog 10 #[.agg #[.slice x.rA x.rn x.rc, .int .i64 x.shards, .int .i64 x.hold, .slice x.sA x.sn x.sc]] w fun e w' => ∃ q, e = .returned (.bool q) ∧ Below w.heap.size w w' := by
  have HS := Lib.hid h
  have hmax := h.max
  unfold maxLen at hmax
  clear h
  go_enter Try.func10, Try.ntmps10
  go_wp2
  go_loopw [3, 12] (fun m i wr => ∃ (k : Nat) (z : Int), k ≤ x.sn ∧ i = .int .i64 k ∧ m = .int .i64 z ∧ Below w.heap.size w wr) (fun _ i _ => x.sn - (intOf i).toNat)
  case atStart => exact ⟨0, _, Nat.zero_le _, rfl, rfl, below_alloc _ _⟩
  case round =>
    obtain ⟨k, z, hk, rfl, rfl, hbel⟩ := hrel
    by_cases hlt : k < x.sn
    · obtain ⟨b, off, hA, c0, c1, c2, c3, c4, c5, c6, c7, c8, c9⟩ := sc_cells HS.out hbel k hlt
      have HA := Lib.hid hA
      have hz := hbel.size
      have HBEL := Lib.hid hbel
      clear hbel hA
      rw [HA.out]
      go_wp2
      go_roundw
      case rel => exact ⟨k + 1, _, by omega, by go_num, rfl, HBEL.out.alloc hz _⟩
      case measure => simp [intOf]; omega
    · have HBEL := Lib.hid hbel
      clear hbel
      go_wp2
      go_ret
      exact ⟨_, rfl, HBEL.out⟩
end Go.Proofs.Ytomekiidgdkmiaa
