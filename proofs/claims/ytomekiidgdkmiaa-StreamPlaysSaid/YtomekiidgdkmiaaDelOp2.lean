/-
  clear on a row of structs; slices.DeleteFunc at operations.
-/
import Derived.Test.YtomekiidgdkmiaaDelOp
namespace Go.Proofs.Ytomekiidgdkmiaa
open Go.RowKit
set_option linter.unusedVariables false
set_option linter.unusedSimpArgs false

theorem wpList_clear {P : Program} {ops : Array Oper} {rest : List Oper} {o : Oper} {a : Act} {w w1 : World} {Q : Exit → Act → World → Prop} (hgd : o.guard = none) (x : Operand) (t : TypeId)
    (ho : o.op = .call { callee := .builtin .clear, args := #[x], argTypes := #[t] }) (xv : Value) (hx : a.eval x = xv) (hr : ∀ ty, (Builtin.clear_ #[t] ty #[xv]).run P w = .ok (.tuple #[]) w1)
    (h : wpList P ops Q rest (a.put o.dst (.tuple #[])) w1) : wpList P ops Q (o :: rest) a w := by
  refine wpList_plain hgd fun K hK => ?_
  unfold Oper.wp execOp
  simp only [ho, resolve, invoke, builtin, Sem.run_bind, Sem.run_pure, Result.andThen_ok, List.map_toArray, List.map_cons, List.map_nil, hx, hr]
  exact hK _ _ h

theorem zeroCells_len (z : Array Value) (n : Nat) : (Builtin.zeroCells z n).toList.length = n * z.size := by
  rw [Array.length_toList, size_zeroCells]
theorem run_clear_row {P : Program} (n : Nat) (w : World) (t e ty : TypeId) (z : Value) (ht : P.underlying t = some (.slice e)) (hv : ∀ w, (zeroValue e).run P w = .ok z w) (h1 : ∀ v ∈ (Builtin.zeroCells z.cells n).toList, v.oneCell' = true) (g o c : Nat) (hn : 0 < n)
    (cur : Array Value) (T : TypeId) (hg : w.heap[g]? = some (.cells cur T (0, 0))) (hs : o + n * z.cells.size ≤ cur.size) :
    (Builtin.clear_ #[t] ty #[.slice (some ⟨g, o, none⟩) n c]).run P w = .ok (.tuple #[]) (w.setRow g (cur.toList.take o ++ (Builtin.zeroCells z.cells n).toList ++ cur.toList.drop (o + n * z.cells.size)).toArray) := by
  have hst := run_storeCells_at P g o T (Builtin.zeroCells z.cells n).toList 0 cur w hg (by rw [zeroCells_len]; omega) h1
  rw [zeroCells_len] at hst
  simp only [Nat.add_zero] at hst
  obtain ⟨m, rfl⟩ : ∃ m, n = m + 1 := ⟨n - 1, by omega⟩
  simp [Builtin.clear_, run_underlying ht, hv, hst]

theorem zeroOp (w : World) : (zeroValue 34).run Try.prog w = .ok (.agg #[.int .i64 0, .int .i64 0, .int .i64 0, .int .i64 0, .int .i64 0]) w := by kernel_rfl
theorem zeroCells_one (n : Nat) : ∀ v ∈ (Builtin.zeroCells (Value.agg #[.int .i64 0, .int .i64 0, .int .i64 0, .int .i64 0, .int .i64 0]).cells n).toList, v.oneCell' = true := by
  intro v hv
  rw [Array.mem_toList_iff] at hv
  unfold Builtin.zeroCells at hv
  rw [Array.mem_map] at hv
  obtain ⟨i, _, rfl⟩ := hv
  have hi : i % 5 < 5 := Nat.mod_lt _ (by omega)
  simp only [Value.cells, List.size_toArray, List.length_cons, List.length_nil, Nat.zero_add, Nat.reduceAdd]
  generalize i % 5 = j at hi
  match j, hi with
  | 0, _ => rfl
  | 1, _ => rfl
  | 2, _ => rfl
  | 3, _ => rfl
  | 4, _ => rfl

theorem row_take {w : World} {g : Nat} {cur : Array Value} {T : TypeId} {xs : List Value} (h : w.heap[g]? = some (.cells cur T (0, 0))) (hr : RowAt w g 0 xs) : cur.toList.take xs.length = xs := by
  apply List.ext_getElem?
  intro j
  rw [List.getElem?_take]
  split
  · rename_i hj
    have h1 := hr j xs[j] (by simp [hj])
    rw [Nat.zero_add, cell_of_row _ _ _ _ _ _ h] at h1
    rw [Array.getElem?_toList, h1]; simp [hj]
  · rename_i hj
    rw [List.getElem?_eq_none (by omega)]
theorem row_of {w : World} {g off : Nat} {cur : Array Value} {T : TypeId} {xs : List Value} (h : w.heap[g]? = some (.cells cur T (0, 0))) (hr : ∀ j u, xs[j]? = some u → cur[off + j]? = some u) : RowAt w g off xs := by
  intro j u hj
  rw [cell_of_row _ _ _ _ _ _ h]; exact hr j u hj
theorem row_to {w : World} {g off : Nat} {cur : Array Value} {T : TypeId} {xs : List Value} (h : w.heap[g]? = some (.cells cur T (0, 0))) (hr : RowAt w g off xs) : ∀ j u, xs[j]? = some u → cur[off + j]? = some u := by
  intro j u hj
  have := hr j u hj
  rwa [cell_of_row _ _ _ _ _ _ h] at this

theorem row_head {w : World} {g k : Nat} {l : List OpV} (h : RowAt w g (k * 5) (opVals (l.drop k))) (hk : k < l.length) :
    w.cell? ⟨g, k * 5, none⟩ = some (.int .i64 (opn l k).seq) ∧ w.cell? ⟨g, k * 5 + 1, none⟩ = some (.int .i64 (opn l k).kind) ∧ w.cell? ⟨g, k * 5 + 2, none⟩ = some (.int .i64 (opn l k).time) ∧
    w.cell? ⟨g, k * 5 + 3, none⟩ = some (.int .i64 (opn l k).key) ∧ w.cell? ⟨g, k * 5 + 4, none⟩ = some (.int .i64 (opn l k).val) := by
  rw [drop_op l k hk] at h
  exact ⟨h 0 _ rfl, h 1 _ rfl, h 2 _ rfl, h 3 _ rfl, h 4 _ rfl⟩

theorem blk_some {w : World} {g : Nat} {cur : Array Value} {T : TypeId} {fz : Nat × Nat} (h : w.heap[g]? = some (.cells cur T fz)) (j : Nat) (hj : j < cur.size) : ∃ v, w.cell? ⟨g, j, none⟩ = some v := by
  rw [cell_of_row _ _ _ _ _ _ h]; exact ⟨cur[j], by simp [hj]⟩

/-- one round's store -/
theorem del_store {w : World} {g c m k : Nat} {cur : Array Value} {T : TypeId} {xs : List Value} {l : List OpV} (h : w.heap[g]? = some (.cells cur T (0, 0))) (hs : cur.size = c * 5) (hn : l.length ≤ c) (hk : k < l.length) (hm : m ≤ k)
    (hx : xs.length = m * 5) (h1 : RowAt w g 0 xs) (h2 : RowAt w g (k * 5) (opVals (l.drop k))) :
    ∃ cur', (set5 w g (m * 5) (opn l k)).heap[g]? = some (.cells cur' T (0, 0)) ∧ cur'.size = c * 5 ∧ RowAt (set5 w g (m * 5) (opn l k)) g 0 (xs ++ (opn l k).vals) ∧ RowAt (set5 w g (m * 5) (opn l k)) g ((k + 1) * 5) (opVals (l.drop (k + 1))) := by
  obtain ⟨cur', e1, e2, e3, e4⟩ := set5_heap (pos := m * 5) (o := opn l k) h
  refine ⟨cur', e1, by rw [e2, hs], row_of e1 ?_, row_of e1 ?_⟩
  · intro j u hj
    rw [Nat.zero_add]
    by_cases hlt : j < m * 5
    · rw [e3 j (.inl hlt)]
      rw [List.getElem?_append_left (by omega)] at hj
      have := row_to h h1 j u hj
      rwa [Nat.zero_add] at this
    · rw [List.getElem?_append_right (by omega), hx] at hj
      have hj5 : j - m * 5 < 5 := by
        have := (List.getElem?_eq_some_iff.1 hj).1
        simpa [OpV.vals] using this
      have := e4 (by rw [hs]; omega) (j - m * 5) hj5
      rw [show m * 5 + (j - m * 5) = j from by omega] at this
      rw [this]; exact hj
  · intro j u hj
    rw [e3 _ (.inr (by omega))]
    have h3 : (opVals (l.drop k))[5 + j]? = some u := by
      rw [drop_op l k hk]
      show ((opn l k).vals ++ opVals (l.drop (k + 1)))[5 + j]? = some u
      rw [List.getElem?_append_right (by simp [OpV.vals])]
      simpa [OpV.vals] using hj
    have := row_to h h2 (5 + j) u h3
    rwa [show (k + 1) * 5 + j = k * 5 + (5 + j) from by omega]

set_option maxRecDepth 100000 in
theorem delop_loop (fid : Nat) (hcall : ∀ (args : Array Value) (wx : World), (callFunc fid args).run Try.prog wx = .ok (.enter fid args) wx) (cap : Value) (l : List OpV) (g c B : Nat) (p : Nat → Bool) (w : World) (hl : l.length ≤ 3000000000000)
    (hown : w.ownsRow B 34 5 (.slice (some ⟨g, 0, none⟩) l.length c) l.length (opVals l))
    (hf : ∀ i w1, i < l.length → Keeps (fun k => k = g) w w1 → Calls Try.prog fid #[.agg #[.int .i64 (opn l i).seq, .int .i64 (opn l i).kind, .int .i64 (opn l i).time, .int .i64 (opn l i).key, .int .i64 (opn l i).val], cap] w1 fun e w' => e = .returned (.bool (p i)) ∧ Below w1.heap.size w1 w')
    (i0 : Nat) (hi0 : i0 < l.length) (hp0 : firstAt p l.length 0 = i0) (hpi : p i0 = true) (hpb : ∀ k, k < i0 → p k = false) :
    Calls Try.prog 39 #[.slice (some ⟨g, 0, none⟩) l.length c, .func (.func fid) #[] #[cap]] w
      (SomeV fun v' w' => w'.ownsRow B 34 5 v' (fil p 0 l).length (opVals (fil p 0 l)) ∧ v'.ownBlock = some g ∧ Keeps (fun k => k = g) w w') := by
  have HF := Lib.hid hf
  have HOWN := Lib.hid hown
  have HP0 := Lib.hid hp0
  have HPI := Lib.hid hpi
  have HPB := Lib.hid hpb
  have hgl := (hown.lt g rfl).2
  obtain ⟨cur0, hblk, hsz, hcl⟩ : ∃ cur, w.heap[g]? = some (.cells cur 34 (0, 0)) ∧ cur.size = c * 5 ∧ l.length ≤ c := by
    rcases hown.2 with ⟨h, _⟩ | ⟨g', cap', cur, h, _, hh, h1, _, h2, _⟩
    · simp at h
    · simp only [Value.slice.injEq, Option.some.injEq, Addr.mk.injEq, and_true, true_and] at h
      obtain ⟨rfl, rfl⟩ := h
      exact ⟨cur, hh, h2, h1⟩
  have HROW := Lib.hid (own_row hown)
  clear hf hown hp0 hpi hpb
  have g1 : ((i0 : Int) == -1) = false := by simp
  go_enter Try.func39, Try.ntmps39
  go_wp2_with (go_at_call 57; refine (indexop_any fid hcall cap l g 0 c p _ hl HROW.out (fun i w1 hi hb => HF.out i w1 hi (Keeps.of_below hb _ (fun k hk h2 => by omega)))).mono ?_; rw [HP0.out]; rintro e w1 ⟨rfl, hb1⟩; have HB1 := Lib.hid hb1; clear hb1)
  go_loopw [5, 6] (fun im jk wr => ∃ m k : Nat, m < k ∧ k ≤ l.length ∧ im = .int .i64 m ∧ jk = .int .i64 k ∧ Hid (m = (fil p 0 (l.take k)).length) ∧ (∃ cur, wr.heap[g]? = some (.cells cur 34 (0, 0)) ∧ cur.size = c * 5) ∧
      RowAt wr g 0 (opVals (fil p 0 (l.take k))) ∧ RowAt wr g (k * 5) (opVals (l.drop k)) ∧ Keeps (fun k => k = g) w wr) (fun _ jk _ => l.length - (intOf jk).toNat)
  case atStart =>
    have e1 : fil p 0 (l.take (i0 + 1)) = l.take i0 := by
      rw [fil_step_yes p l i0 hi0 HPI.out]
      exact fil_none p _ 0 (fun k _ hk => HPB.out k (by simp at hk; omega))
    have hrow1 := HROW.out.below HB1.out
    refine ⟨i0, i0 + 1, by omega, by omega, rfl, rfl, ?_, ⟨cur0, (HB1.out.block g hgl).trans hblk, hsz⟩, ?_, ?_, Keeps.of_below HB1.out _ (fun k hk h2 => by omega)⟩
    · show _ = _
      rw [e1, List.length_take]; omega
    · rw [e1]
      intro j u hj
      refine hrow1 j u ?_
      have e2 : opVals l = opVals (l.take i0) ++ opVals (l.drop i0) := by rw [opVals, opVals, opVals, ← List.flatMap_append, List.take_append_drop]
      rw [e2, List.getElem?_append_left (List.getElem?_eq_some_iff.1 hj).1]; exact hj
    · intro j u hj
      have e2 : opVals l = opVals (l.take (i0 + 1)) ++ opVals (l.drop (i0 + 1)) := by rw [opVals, opVals, opVals, ← List.flatMap_append, List.take_append_drop]
      have e3 : (opVals (l.take (i0 + 1))).length = (i0 + 1) * 5 := by rw [opVals_len, List.length_take]; congr 1; omega
      have := hrow1 ((i0 + 1) * 5 + j) u (by rw [e2, List.getElem?_append_right (by omega), e3]; simpa using hj)
      rwa [Nat.zero_add] at this
  case round =>
    obtain ⟨m, k, hmk, hk, rfl, rfl, hm, ⟨cur, hcur, hcs⟩, hr1, hr2, hkeep⟩ := hrel
    by_cases hlt : k < l.length
    · have HCUR := Lib.hid hcur
      have HCS := Lib.hid hcs
      have HR1 := Lib.hid hr1
      have HR2 := Lib.hid hr2
      have HKEEP := Lib.hid hkeep
      obtain ⟨a1, a2, a3, a4, a5⟩ := row_head hr2 hlt
      clear hcur hcs hr1 hr2 hkeep
      cases hp : p k
      · have HP := Lib.hid hp
        clear hp
        have hgr := (Array.getElem?_eq_some_iff.1 HCUR.out).1
        go_wp2_with ((with_reducible refine (HF.out k _ hlt (HKEEP.out.alloc _)).mono ?_); rw [HP.out]; rintro e w2 ⟨rfl, hb2⟩; have HB2 := Lib.hid ((below_alloc wr _).trans (hb2.mono (by simp))); have b0 := old_cell hb2 (box_cell wr _ _ _ 0 _ rfl) (by simp); have b1 := old_cell hb2 (box_cell wr _ _ _ 1 _ rfl) (by simp); have b2 := old_cell hb2 (box_cell wr _ _ _ 2 _ rfl) (by simp); have b3 := old_cell hb2 (box_cell wr _ _ _ 3 _ rfl) (by simp); have b4 := old_cell hb2 (box_cell wr _ _ _ 4 _ rfl) (by simp); have hc2 := (HB2.out.block g hgr).trans HCUR.out; have HC2 := Lib.hid hc2; obtain ⟨v0, s0⟩ := blk_some hc2 (m * 5) (by have := HCS.out; omega); obtain ⟨v1, s1⟩ := blk_some hc2 (m * 5 + 1) (by have := HCS.out; omega); obtain ⟨v2, s2⟩ := blk_some hc2 (m * 5 + 2) (by have := HCS.out; omega); obtain ⟨v3, s3⟩ := blk_some hc2 (m * 5 + 3) (by have := HCS.out; omega); obtain ⟨v4, s4⟩ := blk_some hc2 (m * 5 + 4) (by have := HCS.out; omega); have f0 := blk_frozen hc2 (m * 5); have f1 := blk_frozen hc2 (m * 5 + 1); have f2 := blk_frozen hc2 (m * 5 + 2); have f3 := blk_frozen hc2 (m * 5 + 3); have f4 := blk_frozen hc2 (m * 5 + 4); clear hb2 hc2)
        go_roundw
        case rel =>
          obtain ⟨cur', q1, q2, q3, q4⟩ := del_store HC2.out HCS.out hcl hlt (Nat.le_of_lt hmk) (by rw [opVals_len, ← hm.out]) (HR1.out.below HB2.out) (HR2.out.below HB2.out)
          refine ⟨m + 1, k + 1, by omega, by omega, by go_num, by go_num, ?_, ⟨cur', q1, q2⟩, ?_, q4, ?_⟩
          · show _ = _
            rw [fil_step_no p l k hlt HP.out, List.length_append, ← hm.out]; rfl
          · rw [fil_step_no p l k hlt HP.out, opVals_snoc]; exact q3
          · exact (HKEEP.out.trans (Keeps.of_below HB2.out (fun k => k = g) (fun k hk h2 => by omega)) (fun _ _ h => h)).trans (set5_keeps w2 g (m * 5) (opn l k)) (fun _ _ h => h)
        case measure => simp [intOf]; omega
      · have HP := Lib.hid hp
        clear hp
        have hgr := (Array.getElem?_eq_some_iff.1 HCUR.out).1
        go_wp2_with ((with_reducible refine (HF.out k _ hlt (HKEEP.out.alloc _)).mono ?_); rw [HP.out]; rintro e w2 ⟨rfl, hb2⟩; have HB2 := Lib.hid ((below_alloc wr _).trans (hb2.mono (by simp))); clear hb2)
        go_roundw
        case rel =>
          refine ⟨m, k + 1, by omega, by omega, rfl, by go_num, ?_, ⟨cur, (HB2.out.block g hgr).trans HCUR.out, HCS.out⟩, ?_, ?_, ?_⟩
          · show _ = _
            rw [fil_step_yes p l k hlt HP.out]; exact hm.out
          · rw [fil_step_yes p l k hlt HP.out]; exact HR1.out.below HB2.out
          · have := (HR2.out.below HB2.out)
            intro j u hj
            have h3 : (opVals (l.drop k))[5 + j]? = some u := by
              rw [drop_op l k hlt]
              show ((opn l k).vals ++ opVals (l.drop (k + 1)))[5 + j]? = some u
              rw [List.getElem?_append_right (by simp [OpV.vals])]
              simpa [OpV.vals] using hj
            have := this (5 + j) u h3
            rwa [show (k + 1) * 5 + j = k * 5 + (5 + j) from by omega]
          · exact HKEEP.out.trans (Keeps.of_below HB2.out (fun k => k = g) (fun k hk h2 => by omega)) (fun _ _ h => h)
        case measure => simp [intOf]; omega
    · have e : k = l.length := by omega
      subst e
      rw [List.take_length] at hm hr1
      have hmc : m < c := by omega
      have hclr := fun ty : TypeId => run_clear_row (P := Try.prog) (l.length - m) wr 40 34 ty _ Try.underlying40 zeroOp (zeroCells_one _) g (m * 5) (c - m) (by omega) cur _ hcur (by rw [hcs]; show m * 5 + (l.length - m) * 5 ≤ c * 5; omega)
      have HCLR := Lib.hid hclr
      have HCUR := Lib.hid hcur
      have HCS := Lib.hid hcs
      have HR1 := Lib.hid hr1
      have HKEEP := Lib.hid hkeep
      clear hclr hcur hcs hr1 hr2 hkeep
      go_wp2_with (refine wpList_clear rfl (.tmp 38) 40 rfl (.slice (some ⟨g, m * 5, none⟩) (l.length - m) (c - m)) rfl HCLR.out ?_)
      go_ret
      have hr := row_take HCUR.out HR1.out
      rw [opVals_len, ← hm.out] at hr
      refine ⟨.slice (some ⟨g, 0, none⟩) m c, rfl, ?_, rfl, ?_⟩
      · have hc5 : cur.toList.length = c * 5 := by rw [Array.length_toList]; exact HCS.out
        refine ⟨opVals_len _, .inr ⟨g, c, _, by rw [← hm.out], (HOWN.out.lt g rfl).1, setRow_heap _ _ _ _ _ _ HCUR.out, by rw [← hm.out]; omega, ?_, ?_, ?_⟩⟩
        · rcases HOWN.out.2 with ⟨h, _⟩ | ⟨g', cap', cur', h, _, _, _, h5, _⟩
          · simp at h
          · simp only [Value.slice.injEq, Option.some.injEq, Addr.mk.injEq, and_true, true_and] at h
            rw [h.2]; exact h5
        · simp only [List.size_toArray, List.length_append, List.length_take, List.length_drop, zeroCells_len, hc5]
          simp only [List.length_cons, List.length_nil]
          omega
        · rw [← hm.out, List.toList_toArray, List.take_append_of_le_length (by rw [List.length_take, hc5]; omega), List.take_take, Nat.min_self, hr]
      · exact HKEEP.out.trans ⟨rfl, rfl, rfl, by simp, fun k _ hk => setRow_other _ _ _ _ hk⟩ (fun _ _ h => h)

theorem firstAt_spec (p : Nat → Bool) (n : Nat) : ∀ k, firstAt p n k = -1 ∨ ∃ i : Nat, firstAt p n k = i ∧ k ≤ i ∧ i < n ∧ p i = true ∧ ∀ j, k ≤ j → j < i → p j = false := by
  intro k
  induction h : n - k generalizing k with
  | zero => rw [firstAt, dif_neg (by omega)]; exact .inl rfl
  | succ d ih =>
    rw [firstAt, dif_pos (by omega)]
    split
    · rename_i hp; exact .inr ⟨k, rfl, Nat.le_refl _, by omega, hp, fun j h1 h2 => by omega⟩
    · rename_i hp
      rcases ih (k + 1) (by omega) with h1 | ⟨i, h1, h2, h3, h4, h5⟩
      · exact .inl h1
      · refine .inr ⟨i, h1, by omega, h3, h4, fun j hj1 hj2 => ?_⟩
        rcases Nat.eq_or_lt_of_le hj1 with e | e
        · subst e; simpa using hp
        · exact h5 j (by omega) hj2

set_option maxRecDepth 100000 in
theorem delop_none (fid : Nat) (hcall : ∀ (args : Array Value) (wx : World), (callFunc fid args).run Try.prog wx = .ok (.enter fid args) wx) (cap : Value) (l : List OpV) (g c B : Nat) (p : Nat → Bool) (w : World) (hl : l.length ≤ 3000000000000)
    (hown : w.ownsRow B 34 5 (.slice (some ⟨g, 0, none⟩) l.length c) l.length (opVals l))
    (hf : ∀ i w1, i < l.length → Keeps (fun k => k = g) w w1 → Calls Try.prog fid #[.agg #[.int .i64 (opn l i).seq, .int .i64 (opn l i).kind, .int .i64 (opn l i).time, .int .i64 (opn l i).key, .int .i64 (opn l i).val], cap] w1 fun e w' => e = .returned (.bool (p i)) ∧ Below w1.heap.size w1 w')
    (hp0 : firstAt p l.length 0 = -1) :
    Calls Try.prog 39 #[.slice (some ⟨g, 0, none⟩) l.length c, .func (.func fid) #[] #[cap]] w
      (SomeV fun v' w' => w'.ownsRow B 34 5 v' (fil p 0 l).length (opVals (fil p 0 l)) ∧ v'.ownBlock = some g ∧ Keeps (fun k => k = g) w w') := by
  have hall := (firstAt_any p l.length 0).1 hp0
  have HFIL := Lib.hid (fil_none p l 0 (fun k h1 h2 => hall k h1 (by simpa using h2)))
  have HF := Lib.hid hf
  have HOWN := Lib.hid hown
  have HROW := Lib.hid (own_row hown)
  have HP0 := Lib.hid hp0
  clear hall hf hown hp0
  go_enter Try.func39, Try.ntmps39
  go_wp2_with (go_at_call 57; refine (indexop_any fid hcall cap l g 0 c p _ hl HROW.out (fun i w1 hi hb => HF.out i w1 hi (Keeps.of_below hb _ (fun k hk h2 => by omega)))).mono ?_; rw [HP0.out]; rintro e w1 ⟨rfl, hb1⟩)
  go_ret
  refine ⟨_, rfl, ?_, rfl, Keeps.of_below hb1 _ (fun k hk h2 => by omega)⟩
  rw [HFIL.out]
  exact own_keep HOWN.out (fun k hk => hb1.block k (HOWN.out.lt k hk).2)
theorem delop_nil (f : Value) (w : World) :
    Calls Try.prog 39 #[.slice none 0 0, f] w fun e w' => e = .returned (.slice none 0 0) ∧ w = w' := by
  go_enter Try.func39, Try.ntmps39
  go_wp2_with (go_at_call 57; refine (indexop_nil f _).mono ?_; rintro e w1 ⟨rfl, rfl⟩)
  go_ret
  exact ⟨rfl, rfl⟩

/-- slices.DeleteFunc on a row of one's own -/
theorem delop_any (fid : Nat) (hcall : ∀ (args : Array Value) (wx : World), (callFunc fid args).run Try.prog wx = .ok (.enter fid args) wx) (cap : Value) (l : List OpV) (v : Value) (B : Nat) (p : Nat → Bool) (w : World) (hl : l.length ≤ 3000000000000)
    (hown : w.ownsRow B 34 5 v l.length (opVals l))
    (hf : ∀ i w1, i < l.length → Keeps (fun k => v.ownBlock = some k) w w1 → Calls Try.prog fid #[.agg #[.int .i64 (opn l i).seq, .int .i64 (opn l i).kind, .int .i64 (opn l i).time, .int .i64 (opn l i).key, .int .i64 (opn l i).val], cap] w1 fun e w' => e = .returned (.bool (p i)) ∧ Below w1.heap.size w1 w') :
    Calls Try.prog 39 #[v, .func (.func fid) #[] #[cap]] w
      (SomeV fun v' w' => w'.ownsRow B 34 5 v' (fil p 0 l).length (opVals (fil p 0 l)) ∧ v'.ownBlock = v.ownBlock ∧ Keeps (fun k => v.ownBlock = some k) w w') := by
  have h0 := hown
  rcases hown.2 with ⟨rfl, h2⟩ | ⟨g, c, cur, rfl, _⟩
  · have e : l = [] := List.eq_nil_of_length_eq_zero h2
    subst e
    refine (delop_nil _ w).mono ?_
    rintro e w' ⟨rfl, rfl⟩
    exact ⟨_, rfl, h0, rfl, Keeps.refl _ _⟩
  · have hS : ∀ {a b : World}, Keeps (fun k => k = g) a b → Keeps (fun k => (Value.slice (some ⟨g, 0, none⟩) l.length c).ownBlock = some k) a b :=
      fun h => h.mono (fun i _ e => by subst e; rfl)
    rcases firstAt_spec p l.length 0 with h | ⟨i, h1, _, h3, h4, h5⟩
    · refine (delop_none fid hcall cap l g c B p w hl h0 (fun i w1 hi hk => hf i w1 hi (hS hk)) h).mono ?_
      rintro e w' ⟨v', rfl, q1, q2, q3⟩
      exact ⟨v', rfl, q1, q2, hS q3⟩
    · refine (delop_loop fid hcall cap l g c B p w hl h0 (fun i w1 hi hk => hf i w1 hi (hS hk)) i h3 h1 h4 (fun k hk => h5 k (Nat.zero_le _) hk)).mono ?_
      rintro e w' ⟨v', rfl, q1, q2, q3⟩
      exact ⟨v', rfl, q1, q2, hS q3⟩
end Go.Proofs.Ytomekiidgdkmiaa
