/-
  The document's stream in memory, and contracts of what it tells.
-/
import Derived.Test.YtomekiidgdkmiaaGood14
import Derived.Test.YtomekiidgdkmiaaRef03
namespace Go.Proofs.Ytomekiidgdkmiaa
open Go.RowKit
set_option linter.unusedVariables false
set_option linter.unusedSimpArgs false

def boolVals (l : List Bool) : List Value := l.map .bool
def bon (l : List Bool) (i : Nat) : Bool := l.getD i false
theorem bon_get {l : List Bool} {i : Nat} (h : i < l.length) : l[i] = bon l i := by simp [bon, List.getD_eq_getElem?_getD, h]
theorem RowAt.bool {w : World} {b off : Nat} {l : List Bool} (h : RowAt w b off (boolVals l)) (i : Nat) (hi : i < l.length) : w.cell? ⟨b, off + i, none⟩ = some (.bool (bon l i)) :=
  h i _ (by simp [boolVals, hi, bon, List.getD_eq_getElem?_getD])
structure RfV where
  res : List Int
  shards : Int
  hold : Int
  next : Int
  ops : List OpV
  gone : List Bool
  places : List PlV
structure RfV.ok (r : RfV) : Prop where
  r1 : 1 ≤ r.res.length
  r3 : r.res.length ≤ 3
  rr : ∀ i, i < r.res.length → 1 ≤ nth r.res i ∧ nth r.res i ≤ 9223372036854775807
  s1 : 1 ≤ r.shards
  s4 : r.shards ≤ 4
  n1 : 1 ≤ r.next
  n2 : r.next ≤ 4611686018427387904
  pl : r.places.length = r.res.length * r.shards.toNat
  ol : r.ops.length ≤ 3000000000000
  gl : r.gone.length = r.ops.length
  st : ∀ o ∈ r.ops, I64 o.time ∧ I64 o.key
def RfV.cellsOf (r : RfV) (vr vo vg vp : Value) : Array Value := #[vr, .int .i64 r.shards, .int .i64 r.hold, .int .i64 r.next, vo, vg, vp]
structure RfIs (w : World) (b : Nat) (r : RfV) (vr vo vg vp : Value) : Prop where
  blk : w.heap[b]? = some (.cells (r.cellsOf vr vo vg vp) 71 (0, 0))
  res : w.ownsRow 0 3 1 vr r.res.length (intVals r.res)
  ops : w.ownsRow 0 34 5 vo r.ops.length (opVals r.ops)
  gone : w.ownsRow 0 4 1 vg r.gone.length (boolVals r.gone)
  pla : w.ownsRow 0 49 2 vp r.places.length (plVals r.places)
def rfoot (b : Nat) (vo vg vp : Value) (k : Nat) : Prop := k = b ∨ vo.ownBlock = some k ∨ vg.ownBlock = some k ∨ vp.ownBlock = some k
def Rfm (w : World) (b : Nat) (r : RfV) (G : Nat → Prop) : Prop := r.ok ∧ ∃ vr vo vg vp, RfIs w b r vr vo vg vp ∧ (∀ k, rfoot b vo vg vp k → G k) ∧ ∀ k, vr.ownBlock = some k → G k
theorem RfIs.cell {w : World} {b : Nat} {r : RfV} {vr vo vg vp : Value} (h : RfIs w b r vr vo vg vp) (j : Nat) (v : Value) (hj : (r.cellsOf vr vo vg vp)[j]? = some v) : w.cell? ⟨b, j, none⟩ = some v := by
  rw [cell_of_row _ _ _ _ _ _ h.blk]; exact hj
theorem RfIs.lt {w : World} {b : Nat} {r : RfV} {vr vo vg vp : Value} (h : RfIs w b r vr vo vg vp) : b < w.heap.size := (Array.getElem?_eq_some_iff.1 h.blk).1
theorem RfIs.keep {w w' : World} {b : Nat} {r : RfV} {vr vo vg vp : Value} (h : RfIs w b r vr vo vg vp) {S : Nat → Prop} (hk : Keeps S w w') (hs : ∀ k, rfoot b vo vg vp k ∨ vr.ownBlock = some k → ¬ S k) : RfIs w' b r vr vo vg vp :=
  ⟨(hk.block b h.lt (hs b (.inl (.inl rfl)))).trans h.blk,
   own_keep h.res (fun g hg => hk.block g (h.res.lt g hg).2 (hs g (.inr hg))),
   own_keep h.ops (fun g hg => hk.block g (h.ops.lt g hg).2 (hs g (.inl (.inr (.inl hg))))),
   own_keep h.gone (fun g hg => hk.block g (h.gone.lt g hg).2 (hs g (.inl (.inr (.inr (.inl hg)))))),
   own_keep h.pla (fun g hg => hk.block g (h.pla.lt g hg).2 (hs g (.inl (.inr (.inr (.inr hg))))))⟩
theorem RfIs.below {w w' : World} {b : Nat} {r : RfV} {vr vo vg vp : Value} (h : RfIs w b r vr vo vg vp) (hb : Below w.heap.size w w') : RfIs w' b r vr vo vg vp :=
  h.keep (Keeps.of_below hb (fun _ => False) (fun i hi h2 => by omega)) (fun _ _ h => h)
theorem Rfm.keep {w w' : World} {b : Nat} {r : RfV} {G S : Nat → Prop} (h : Rfm w b r G) (hk : Keeps S w w') (hs : ∀ k, G k → ¬ S k) : Rfm w' b r G := by
  obtain ⟨h0, vr, vo, vg, vp, h1, h2, h3⟩ := h
  exact ⟨h0, vr, vo, vg, vp, h1.keep hk (fun k hk => hs k (hk.elim (h2 k) (h3 k))), h2, h3⟩
theorem Rfm.below {w w' : World} {b : Nat} {r : RfV} {G : Nat → Prop} (h : Rfm w b r G) (hb : Below w.heap.size w w') : Rfm w' b r G := by
  obtain ⟨h0, vr, vo, vg, vp, h1, h2, h3⟩ := h
  exact ⟨h0, vr, vo, vg, vp, h1.below hb, h2, h3⟩

/-- the last mark of a row -/
def lastM : List OpV → Option OpV := fun l => l.foldl (fun acc o => if o.kind = 2 then some o else acc) none
theorem lastM_snoc (l : List OpV) (o : OpV) : lastM (l ++ [o]) = if o.kind = 2 then some o else lastM l := by simp [lastM, List.foldl_append]
theorem lastM_take (l : List OpV) (k : Nat) (h : k < l.length) : lastM (l.take (k + 1)) = if (opn l k).kind = 2 then some (opn l k) else lastM (l.take k) := by
  rw [List.take_succ_eq_append_getElem h, opn_get h, lastM_snoc]
def mop (m : Option OpV) : OpV := m.getD OpV.zero

set_option maxHeartbeats 1000000 in
set_option maxRecDepth 100000 in
theorem rlast_any (b : Nat) (r : RfV) (vr vo vg vp : Value) (w : World) (h : RfIs w b r vr vo vg vp) (hl : r.ops.length ≤ 3000000000000) :
    Calls Try.prog 53 #[.pointer (some ⟨b, 0, none⟩)] w
      fun e w' => e = .returned (.tuple #[.agg #[.int .i64 (mop (lastM r.ops)).seq, .int .i64 (mop (lastM r.ops)).kind, .int .i64 (mop (lastM r.ops)).time, .int .i64 (mop (lastM r.ops)).key, .int .i64 (mop (lastM r.ops)).val], .bool (lastM r.ops).isSome]) ∧ Below w.heap.size w w' := by
  obtain ⟨A, c, rfl⟩ := own_slice h.ops
  have c4 : ∀ ob, (w.alloc ob).cell? ⟨b, 4, none⟩ = some (.slice A r.ops.length c) := fun ob => alloc_old (o := ob) (h.cell 4 _ rfl)
  have hblt := h.lt
  have HSL := Lib.hid (own_sl h.ops)
  clear h
  go_enter Try.func53, Try.ntmps53
  go_wp2
  go_loop [4] (fun i => ∃ (k : Nat) (z : Int), k ≤ r.ops.length ∧ i = .int .i64 z ∧ z = (k : Int) - 1 ∧ Hid (lastM r.ops = lastM (r.ops.take k))) (fun i => (intOf i + 1).toNat)
  case atStart => exact ⟨r.ops.length, _, Nat.le_refl _, rfl, rfl, by show _ = _; rw [List.take_length]⟩
  case round =>
    obtain ⟨k, z, hk, rfl, hz, hlm⟩ := hrel
    rcases k with _ | m
    · have hz0 : z = -1 := by omega
      subst hz0
      have HL : Hid (lastM r.ops = none) := by rw [hlm.out]; rfl
      clear hz
      go_wp2
      rw [HL.out]
      exact bodyPost_ret (v := .tuple #[.agg #[.int .i64 0, .int .i64 0, .int .i64 0, .int .i64 0, .int .i64 0], .bool false]) (by simp [results, Try.results53, go_sem]) rfl ⟨rfl, below_alloc _ _⟩
    · have hzm : z = (m : Int) := by omega
      subst hzm
      clear hz
      obtain ⟨g, off, rfl, hg, hrow⟩ := sl_row HSL.out (by omega)
      obtain ⟨p0, p1, p2, p3, p4⟩ := hrow.op m (by omega)
      have HLM := Lib.hid (lastM_take r.ops m (by omega))
      replace p0 : ∀ ob, (w.alloc ob).cell? ⟨g, off + m * 5, none⟩ = some (.int .i64 (opn r.ops m).seq) := fun ob => alloc_old (o := ob) p0
      replace p1 : ∀ ob, (w.alloc ob).cell? ⟨g, off + m * 5 + 1, none⟩ = some (.int .i64 (opn r.ops m).kind) := fun ob => alloc_old (o := ob) p1
      replace p2 : ∀ ob, (w.alloc ob).cell? ⟨g, off + m * 5 + 2, none⟩ = some (.int .i64 (opn r.ops m).time) := fun ob => alloc_old (o := ob) p2
      replace p3 : ∀ ob, (w.alloc ob).cell? ⟨g, off + m * 5 + 3, none⟩ = some (.int .i64 (opn r.ops m).key) := fun ob => alloc_old (o := ob) p3
      replace p4 : ∀ ob, (w.alloc ob).cell? ⟨g, off + m * 5 + 4, none⟩ = some (.int .i64 (opn r.ops m).val) := fun ob => alloc_old (o := ob) p4
      clear hrow
      generalize opn r.ops m = y at *
      by_cases hk2 : y.kind = 2
      · have g1 : (y.kind == 2) = true := by simp [hk2]
        have HL : Hid (lastM r.ops = some y) := by show _ = _; rw [hlm.out, HLM.out, if_pos hk2]
        clear hk2
        go_wp2
        rw [HL.out]
        exact bodyPost_ret (v := .tuple #[.agg #[.int .i64 y.seq, .int .i64 y.kind, .int .i64 y.time, .int .i64 y.key, .int .i64 y.val], .bool true]) (by simp [results, Try.results53, go_sem]) rfl ⟨rfl, below_alloc _ _⟩
      · have g1 : (y.kind == 2) = false := by simp [hk2]
        have HL : Hid (lastM r.ops = lastM (r.ops.take m)) := by show _ = _; rw [hlm.out, HLM.out, if_neg hk2]
        clear hk2
        go_wp2
        go_round
        case rel => exact ⟨m, (m : Int) - 1, by omega, rfl, rfl, HL.out⟩
        case measure => simp [intOf]

/-- what is held of the first k -/
def heldK (ops : List OpV) (gone : List Bool) (k : Nat) : List OpV := (((ops.zip gone).take k).filter (fun p => decide (p.1.kind = 1) && !p.2)).map (·.1)
def heldR (ops : List OpV) (gone : List Bool) : List OpV := heldK ops gone ops.length
theorem heldK_snoc (ops : List OpV) (gone : List Bool) (k : Nat) (h : k < ops.length) (hg : gone.length = ops.length) :
    heldK ops gone (k + 1) = heldK ops gone k ++ (if (opn ops k).kind = 1 ∧ bon gone k = false then [opn ops k] else []) := by
  unfold heldK
  have hz : k < (ops.zip gone).length := by simp; omega
  rw [List.take_succ_eq_append_getElem hz, List.filter_append, List.map_append, List.getElem_zip, opn_get h, bon_get (by omega)]
  congr 1
  by_cases h1 : (opn ops k).kind = 1
  · cases h2 : bon gone k <;> simp [h1, h2]
  · simp [h1]
theorem heldK_le (ops : List OpV) (gone : List Bool) (k : Nat) : (heldK ops gone k).length ≤ k := by
  unfold heldK
  rw [List.length_map]
  exact Nat.le_trans (List.length_filter_le _ _) (List.length_take_le _ _)

set_option maxHeartbeats 1000000 in
set_option maxRecDepth 100000 in
theorem rheld_any (b : Nat) (r : RfV) (vr vo vg vp : Value) (w : World) (h : RfIs w b r vr vo vg vp) (hl : r.ops.length ≤ 3000000000000) (hgl : r.gone.length = r.ops.length) :
    Calls Try.prog 54 #[.pointer (some ⟨b, 0, none⟩)] w
      (SomeV fun v w' => w'.ownsRow w.heap.size 34 5 v (heldR r.ops r.gone).length (opVals (heldR r.ops r.gone)) ∧ Below w.heap.size w w') := by
  obtain ⟨i0, hi0, hz0, hz9o, hz8⟩ := info_parts infoOp
  obtain ⟨A, c, rfl⟩ := own_slice h.ops
  obtain ⟨Ag, cg, rfl⟩ := own_slice h.gone
  have H := Lib.hid h
  have hblt := h.lt
  have HSL := Lib.hid (own_sl h.ops)
  have HSG := Lib.hid (own_sl h.gone)
  rw [hgl] at H HSG
  clear h
  go_enter Try.func54, Try.ntmps54
  go_wp2
  go_loopw [3, 4] (fun v i wr => ∃ k : Nat, k ≤ r.ops.length ∧ i = .int .i64 k ∧ wr.ownsRow w.heap.size 34 5 v (heldK r.ops r.gone k).length (opVals (heldK r.ops r.gone k)) ∧ Below w.heap.size w wr) (fun _ i _ => r.ops.length - (intOf i).toNat)
  case atStart => exact ⟨0, Nat.zero_le _, rfl, World.ownsRow_nil _ _ _ _, Below.refl _ _⟩
  case round =>
    obtain ⟨k, hk, rfl, hown, hbel⟩ := hrel
    have c4 : wr.cell? ⟨b, 4, none⟩ = some (.slice A r.ops.length c) := (H.out.below hbel).cell 4 _ rfl
    have c5 : wr.cell? ⟨b, 5, none⟩ = some (.slice Ag r.ops.length cg) := (H.out.below hbel).cell 5 _ rfl
    have hz := hbel.size
    have HOWN := Lib.hid hown
    have HBEL := Lib.hid hbel
    have hnm := heldK_le r.ops r.gone k
    by_cases hlt : k < r.ops.length
    · obtain ⟨g, off, rfl, hg, hrow⟩ := sl_row (HSL.out.below hbel) (by omega)
      obtain ⟨g2, o2, rfl, hg2, hrow2⟩ := sl_row (HSG.out.below hbel) (by omega)
      obtain ⟨p0, p1, p2, p3, p4⟩ := hrow.op k hlt
      have q0 := hrow2.bool k (by omega)
      have HNM := Lib.hid (heldK_snoc r.ops r.gone k hlt hgl)
      clear hrow hrow2 hown hbel
      generalize opn r.ops k = y at *
      by_cases hk1 : y.kind = 1
      · have g1 : (y.kind == 1) = true := by simp [hk1]
        have HK1 := Lib.hid hk1
        clear hk1
        cases hgn : bon r.gone k
        · rw [hgn] at q0 HNM
          clear hgn
          go_wp2_with (at_builtin; refine wpList_append_lies _ rfl (.tmp 33) (.tmp 41) 40 rfl w.heap.size 34 i0 (.agg #[.int .i64 0, .int .i64 0, .int .i64 0, .int .i64 0, .int .i64 0]) 5 40 Try.underlying40 hi0 hz0 hz9o hz8 rfl (by decide) _ (heldK r.ops r.gone k).length (opVals (heldK r.ops r.gone k)) rfl (HOWN.out.alloc _) ⟨wr.heap.size, 0, none⟩ 1 1 y.vals rfl rfl (new_row' _ _ _) (by simp [OpV.vals, Value.oneCell']) (by omega) (by unfold maxLen; omega) (by omega) (by simp; omega) _ rfl ?_; intro g3 cap w11 hrow hg3 hat hgl2; have HROW := Lib.hid hrow; have HB11 := Lib.hid ((HBEL.out.alloc hz _).grown hg3 (by simp; omega) (fun k hk => (HOWN.out.lt k hk).1)); clear hrow hg3 hat)
          go_roundw
          case rel => exact ⟨k + 1, (by omega), (by go_num), (by rw [HNM.out, if_pos ⟨HK1.out, rfl⟩, opVals_snoc, List.length_append]; exact HROW.out), HB11.out⟩
          case measure => simp [intOf]; omega
        · rw [hgn] at q0 HNM
          clear hgn
          go_wp2
          go_roundw
          case rel => exact ⟨k + 1, (by omega), (by go_num), (by rw [HNM.out, if_neg (by simp), List.append_nil]; exact HOWN.out), HBEL.out⟩
          case measure => simp [intOf]; omega
      · have g1 : (y.kind == 1) = false := by simp [hk1]
        have HK1 := Lib.hid hk1
        clear hk1
        go_wp2
        go_roundw
        case rel => exact ⟨k + 1, (by omega), (by go_num), (by rw [HNM.out, if_neg (fun h => HK1.out h.1), List.append_nil]; exact HOWN.out), HBEL.out⟩
        case measure => simp [intOf]; omega
    · have e : k = r.ops.length := by omega
      subst e
      clear hown hbel
      go_wp2
      go_ret
      exact ⟨_, rfl, HOWN.out, HBEL.out⟩

def RfV.early (r : RfV) (t : Int) : Bool := (lastM r.ops).isSome && decide (t < (mop (lastM r.ops)).time)
set_option maxRecDepth 100000 in
theorem rearly_any (b : Nat) (r : RfV) (vr vo vg vp : Value) (t : Int) (w : World) (h : RfIs w b r vr vo vg vp) (hl : r.ops.length ≤ 3000000000000) :
    Calls Try.prog 62 #[.pointer (some ⟨b, 0, none⟩), .int .i64 t] w fun e w' => e = .returned (.bool (r.early t)) ∧ Below w.heap.size w w' := by
  have HC := Lib.hid (rlast_any b r vr vo vg vp w h hl)
  unfold RfV.early
  clear h
  cases hs : (lastM r.ops).isSome
  · rw [hs] at HC
    clear hs
    go_enter Try.func62, Try.ntmps62
    go_wp2_with (go_at_call 53; refine HC.out.mono ?_; rintro e w1 ⟨rfl, hb1⟩; have HB1 := Lib.hid hb1; clear hb1)
    go_ret
    exact ⟨rfl, HB1.out.alloc HB1.out.size _⟩
  · rw [hs] at HC
    clear hs
    go_enter Try.func62, Try.ntmps62
    go_wp2_with (go_at_call 53; refine HC.out.mono ?_; rintro e w1 ⟨rfl, hb1⟩; have HB1 := Lib.hid hb1; clear hb1)
    go_ret
    exact ⟨ret_bool (by simp), HB1.out.alloc HB1.out.size _⟩
end Go.Proofs.Ytomekiidgdkmiaa
