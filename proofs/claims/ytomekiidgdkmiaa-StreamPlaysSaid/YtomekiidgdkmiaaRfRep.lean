/-
  The document's stream: Replay.
-/
import Derived.Test.YtomekiidgdkmiaaRf
namespace Go.Proofs.Ytomekiidgdkmiaa
open Go.RowKit
set_option linter.unusedVariables false
set_option linter.unusedSimpArgs false

/-- is an operation replayed? -/
def repB (r : RfV) (f : Int) (o : OpV) (g : Bool) : Bool :=
  decide (f ≤ o.seq) && ((decide (o.kind = 2) && decide (o.seq = (mop (lastM r.ops)).seq)) || (decide (o.kind = 1) && !g))
def repK (r : RfV) (f : Int) (k : Nat) : List OpV := (((r.ops.zip r.gone).take k).filter (fun p => repB r f p.1 p.2)).map (·.1)
theorem repK_snoc (r : RfV) (f : Int) (k : Nat) (h : k < r.ops.length) (hg : r.gone.length = r.ops.length) :
    repK r f (k + 1) = repK r f k ++ (if repB r f (opn r.ops k) (bon r.gone k) = true then [opn r.ops k] else []) := by
  unfold repK
  have hz : k < (r.ops.zip r.gone).length := by simp; omega
  rw [List.take_succ_eq_append_getElem hz, List.filter_append, List.map_append, List.getElem_zip, opn_get h, bon_get (by omega)]
  congr 1
  cases h1 : repB r f (opn r.ops k) (bon r.gone k) <;> simp [h1]
theorem repK_le (r : RfV) (f : Int) (k : Nat) : (repK r f k).length ≤ k := by
  unfold repK
  rw [List.length_map]
  exact Nat.le_trans (List.length_filter_le _ _) (List.length_take_le _ _)
def repA (r : RfV) (f : Int) : List OpV := repK r f r.ops.length
def rrepL (r : RfV) (f m : Int) : List OpV := (repA r f).take m.toNat
def rrepN (r : RfV) (f m : Int) : Int :=
  if (repA r f).length = 0 ∨ ((repA r f).length : Int) ≤ m then r.next - 1 else if m < 1 then (if wrap64 (f - 1) < r.next - 1 then wrap64 (f - 1) else r.next - 1) else (opn (repA r f) (m.toNat - 1)).seq

theorem new_row3 (w : World) (o : Obj) (cs : List Value) (T : TypeId) : ∀ j u, cs[j]? = some u → ((w.alloc o).alloc (.cells cs.toArray T)).cell? ((⟨w.heap.size + 1, 0, none⟩ : Addr).add j) = some u := by
  have := new_row' (w.alloc o) cs T
  simpa using this
theorem ret_pair {v : Value} {a b : Int} (h : a = b) : Ending.returned (.tuple #[v, .int .i64 a]) = .returned (.tuple #[v, .int .i64 b]) := by rw [h]
set_option maxHeartbeats 4000000 in
set_option maxRecDepth 100000 in
theorem rreplay_any (b : Nat) (r : RfV) (vr vo vg vp : Value) (from_ most : Int) (w : World) (h : RfIs w b r vr vo vg vp) (hok : r.ok) :
    Calls Try.prog 52 #[.pointer (some ⟨b, 0, none⟩), .int .i64 from_, .int .i64 most] w
      fun e w' => ∃ v, e = .returned (.tuple #[v, .int .i64 (rrepN r from_ most)]) ∧ SlAt w' v (rrepL r from_ most).length (opVals (rrepL r from_ most)) ∧ Below w.heap.size w w' := by
  obtain ⟨i0, hi0, hz0, hz9o, hz8⟩ := info_parts infoOp
  obtain ⟨A, c, rfl⟩ := own_slice h.ops
  obtain ⟨Ag, cg, rfl⟩ := own_slice h.gone
  have HC := Lib.hid (rlast_any b r vr _ _ vp w h hok.ol)
  have H := Lib.hid h
  have hblt := h.lt
  have HOK := Lib.hid hok
  have hol := hok.ol
  have HSL := Lib.hid (own_sl h.ops)
  have HSG := Lib.hid (own_sl h.gone)
  have hgl := hok.gl
  have hn1 := hok.n1
  have hn2 := hok.n2
  rw [hgl] at H HSG
  have HGL := Lib.hid hgl
  have HMS : Hid (∀ o g, repB r from_ o g = (decide (from_ ≤ o.seq) && ((decide (o.kind = 2) && decide (o.seq = (mop (lastM r.ops)).seq)) || (decide (o.kind = 1) && !g)))) := fun _ _ => rfl
  generalize hM : mop (lastM r.ops) = M at *
  generalize hI : (lastM r.ops).isSome = mi at *
  clear h hok hgl hM hI
  go_enter Try.func52, Try.ntmps52
  go_wp2_with (go_at_call 53; refine HC.out.mono ?_; rintro e w1 ⟨rfl, hb1⟩; have HB1 := Lib.hid hb1; have hz1 := hb1.size; clear hb1)
  go_loopw [10, 11] (fun v i wr => ∃ k : Nat, k ≤ r.ops.length ∧ i = .int .i64 k ∧ wr.ownsRow (w1.heap.size + 1) 34 5 v (repK r from_ k).length (opVals (repK r from_ k)) ∧ Below (w1.heap.size + 1) (w1.alloc (.cells #[.int .i64 M.seq, .int .i64 M.kind, .int .i64 M.time, .int .i64 M.key, .int .i64 M.val] 34)) wr ∧ Below w.heap.size w wr) (fun _ i _ => r.ops.length - (intOf i).toNat)
  case atStart => exact ⟨0, Nat.zero_le _, rfl, World.ownsRow_nil _ _ _ _, Below.refl _ _, HB1.out.alloc hz1 _⟩
  case round =>
    obtain ⟨k, hk, rfl, hown, hbm, hbel⟩ := hrel
    have c4 : wr.cell? ⟨b, 4, none⟩ = some (.slice A r.ops.length c) := (H.out.below hbel).cell 4 _ rfl
    have c5 : wr.cell? ⟨b, 5, none⟩ = some (.slice Ag r.ops.length cg) := (H.out.below hbel).cell 5 _ rfl
    have c3 : wr.cell? ⟨b, 3, none⟩ = some (.int .i64 r.next) := (H.out.below hbel).cell 3 _ rfl
    have mseq : wr.cell? ⟨w1.heap.size, 0, none⟩ = some (.int .i64 M.seq) := old_cell hbm (box_cell w1 _ _ _ 0 _ rfl) (by simp)
    have hz := hbel.size
    have hzm := hbm.size
    simp only [World.size_alloc] at hzm
    have HOWN := Lib.hid hown
    have HBEL := Lib.hid hbel
    have HBM := Lib.hid hbm
    have hnm := repK_le r from_ k
    by_cases hlt : k < r.ops.length
    · obtain ⟨g, off, rfl, hg, hrow⟩ := sl_row (HSL.out.below hbel) (by omega)
      obtain ⟨g2, o2, rfl, hg2, hrow2⟩ := sl_row (HSG.out.below hbel) (by omega)
      obtain ⟨p0, p1, p2, p3, p4⟩ := hrow.op k hlt
      have q0 := hrow2.bool k (by rw [HGL.out]; exact hlt)
      have HNM := Lib.hid (repK_snoc r from_ k hlt HGL.out)
      have HMY := Lib.hid (HMS.out (opn r.ops k) (bon r.gone k))
      clear hrow hrow2 hown hbel hbm
      generalize opn r.ops k = y at *
      generalize bon r.gone k = gn at *
      have mseq' : ∀ ob, (wr.alloc ob).cell? ⟨w1.heap.size, 0, none⟩ = some (.int .i64 M.seq) := fun ob => alloc_old (o := ob) mseq
      have c5' : ∀ ob, (wr.alloc ob).cell? ⟨b, 5, none⟩ = some (.slice (some ⟨g2, o2, none⟩) r.ops.length cg) := fun ob => alloc_old (o := ob) c5
      have q0' : ∀ ob, (wr.alloc ob).cell? ⟨g2, o2 + k, none⟩ = some (.bool gn) := fun ob => alloc_old (o := ob) q0
      cases hB : repB r from_ y gn
      · rw [hB] at HNM HMY
        clear hB
        by_cases hf : from_ ≤ y.seq
        · have b1 : decide (from_ ≤ y.seq) = true := decide_eq_true hf
          by_cases h2 : y.kind = 2
          · have b2 : (y.kind == 2) = true := by simp [h2]
            have b2b : (y.kind == 1) = false := by simp [h2]
            have b3 : (y.seq == M.seq) = false := by
              have := HMY.out; simp [hf, h2] at this; simp [this]
            clear hf h2
            go_wp2
            go_roundw
            case rel => exact ⟨k + 1, (by omega), (by go_num), (by rw [HNM.out, if_neg (by simp), List.append_nil]; exact own_keep HOWN.out (fun g hg => (below_alloc wr _).block g (HOWN.out.lt g hg).2)), HBM.out.alloc hzm _, HBEL.out.alloc hz _⟩
            case measure => simp [intOf]; omega
          · have b2 : (y.kind == 2) = false := by simp [h2]
            by_cases h1 : y.kind = 1
            · have b3 : (y.kind == 1) = true := by simp [h1]
              have b4 : gn = true := by
                have := HMY.out; simp [hf, h2, h1] at this; exact this
              subst b4
              clear hf h2 h1
              go_wp2
              go_roundw
              case rel => exact ⟨k + 1, (by omega), (by go_num), (by rw [HNM.out, if_neg (by simp), List.append_nil]; exact own_keep HOWN.out (fun g hg => (below_alloc wr _).block g (HOWN.out.lt g hg).2)), HBM.out.alloc hzm _, HBEL.out.alloc hz _⟩
              case measure => simp [intOf]; omega
            · have b3 : (y.kind == 1) = false := by simp [h1]
              clear hf h2 h1
              go_wp2
              go_roundw
              case rel => exact ⟨k + 1, (by omega), (by go_num), (by rw [HNM.out, if_neg (by simp), List.append_nil]; exact own_keep HOWN.out (fun g hg => (below_alloc wr _).block g (HOWN.out.lt g hg).2)), HBM.out.alloc hzm _, HBEL.out.alloc hz _⟩
              case measure => simp [intOf]; omega
        · have b1 : decide (from_ ≤ y.seq) = false := decide_eq_false hf
          clear hf
          go_wp2
          go_roundw
          case rel => exact ⟨k + 1, (by omega), (by go_num), (by rw [HNM.out, if_neg (by simp), List.append_nil]; exact own_keep HOWN.out (fun g hg => (below_alloc wr _).block g (HOWN.out.lt g hg).2)), HBM.out.alloc hzm _, HBEL.out.alloc hz _⟩
          case measure => simp [intOf]; omega
      · rw [hB] at HNM HMY
        clear hB
        have hf : from_ ≤ y.seq := by have := HMY.out; simp at this; exact this.1
        have b1 : decide (from_ ≤ y.seq) = true := decide_eq_true hf
        by_cases h2 : y.kind = 2
        · have b2 : (y.kind == 2) = true := by simp [h2]
          have b3 : (y.seq == M.seq) = true := by
            have := HMY.out; simp [hf, h2] at this; simp [this]
          clear hf h2
          go_wp2_with (at_builtin; refine wpList_append_lies _ rfl (.tmp 65) (.tmp 67) 40 rfl (w1.heap.size + 1) 34 i0 (.agg #[.int .i64 0, .int .i64 0, .int .i64 0, .int .i64 0, .int .i64 0]) 5 40 Try.underlying40 hi0 hz0 hz9o hz8 rfl (by decide) _ (repK r from_ k).length (opVals (repK r from_ k)) rfl ((HOWN.out.alloc _).alloc _) ⟨wr.heap.size + 1, 0, none⟩ 1 1 y.vals rfl rfl (new_row3 _ _ _ _) (by simp [OpV.vals, Value.oneCell']) (by omega) (by unfold maxLen; omega) (by omega) (by simp; omega) _ rfl ?_; intro g3 cap w11 hrow hg3 hat hgl2; have HROW := Lib.hid hrow; have HB11 := Lib.hid (((HBEL.out.alloc hz _).alloc (by simp; omega) _).grown hg3 (by simp; omega) (fun k hk => Nat.le_trans (by omega) (HOWN.out.lt k hk).1)); have HM11 := Lib.hid (((HBM.out.alloc hzm _).alloc (by simp; omega) _).grown hg3 (by simp; omega) (fun k hk => (HOWN.out.lt k hk).1)); clear hrow hg3 hat)
          go_roundw
          case rel => exact ⟨k + 1, (by omega), (by go_num), (by rw [HNM.out, if_pos rfl, opVals_snoc, List.length_append]; exact HROW.out), HM11.out, HB11.out⟩
          case measure => simp [intOf]; omega
        · have b2 : (y.kind == 2) = false := by simp [h2]
          have h1 : y.kind = 1 ∧ gn = false := by have := HMY.out; simp [hf, h2] at this; exact this
          have b3 : (y.kind == 1) = true := by simp [h1.1]
          have b4 := h1.2
          subst b4
          clear hf h2 h1
          go_wp2_with (at_builtin; refine wpList_append_lies _ rfl (.tmp 65) (.tmp 67) 40 rfl (w1.heap.size + 1) 34 i0 (.agg #[.int .i64 0, .int .i64 0, .int .i64 0, .int .i64 0, .int .i64 0]) 5 40 Try.underlying40 hi0 hz0 hz9o hz8 rfl (by decide) _ (repK r from_ k).length (opVals (repK r from_ k)) rfl ((HOWN.out.alloc _).alloc _) ⟨wr.heap.size + 1, 0, none⟩ 1 1 y.vals rfl rfl (new_row3 _ _ _ _) (by simp [OpV.vals, Value.oneCell']) (by omega) (by unfold maxLen; omega) (by omega) (by simp; omega) _ rfl ?_; intro g3 cap w11 hrow hg3 hat hgl2; have HROW := Lib.hid hrow; have HB11 := Lib.hid (((HBEL.out.alloc hz _).alloc (by simp; omega) _).grown hg3 (by simp; omega) (fun k hk => Nat.le_trans (by omega) (HOWN.out.lt k hk).1)); have HM11 := Lib.hid (((HBM.out.alloc hzm _).alloc (by simp; omega) _).grown hg3 (by simp; omega) (fun k hk => (HOWN.out.lt k hk).1)); clear hrow hg3 hat)
          go_roundw
          case rel => exact ⟨k + 1, (by omega), (by go_num), (by rw [HNM.out, if_pos rfl, opVals_snoc, List.length_append]; exact HROW.out), HM11.out, HB11.out⟩
          case measure => simp [intOf]; omega
    · have e : k = r.ops.length := by omega
      subst e
      have HAE : Hid (repK r from_ r.ops.length = repA r from_) := rfl
      rw [HAE.out] at hown HOWN
      obtain ⟨A2, c2, rfl⟩ := own_slice hown
      rw [HAE.out] at hnm
      clear hown hbel hbm
      have HRN : Hid (rrepN r from_ most = if (repA r from_).length = 0 ∨ ((repA r from_).length : Int) ≤ most then r.next - 1 else if most < 1 then (if wrap64 (from_ - 1) < r.next - 1 then wrap64 (from_ - 1) else r.next - 1) else (opn (repA r from_) (most.toNat - 1)).seq) := rfl
      have HRL : Hid (rrepL r from_ most = (repA r from_).take most.toNat) := rfl
      generalize repA r from_ = L at *
      generalize hn : L.length = n at *
      have HN := Lib.hid hn
      clear hn
      rcases n with _ | n
      · go_wp2
        go_quiet (fail)
        go_wp2
        go_ret2
        refine ⟨_, ret_pair (by rw [HRN.out]; simp), ?_, below_drewN HBEL.out _⟩
        rw [HRL.out, List.eq_nil_of_length_eq_zero HN.out]
        exact (by simpa [List.eq_nil_of_length_eq_zero HN.out] using (own_sl HOWN.out).below (below_drewN (Below.refl _ _) nq))
      · have g0 : ((n : Int) + 1 == 0) = false := by simp; omega
        by_cases h1 : (n : Int) + 1 ≤ most
        · go_wp2
          go_quiet (fail)
          go_wp2
          go_ret2
          refine ⟨_, ret_pair (by rw [HRN.out, if_pos (.inr (by omega))]), ?_, below_drewN HBEL.out _⟩
          rw [HRL.out, List.take_of_length_le (by rw [HN.out]; omega), HN.out]
          exact (own_sl HOWN.out).below (below_drewN (Below.refl _ _) _)
        · by_cases h2 : most < 1
          · by_cases h3 : wrap64 (from_ - 1) < r.next - 1
            · go_wp2
              go_ret2
              refine ⟨_, ret_pair (by rw [HRN.out, if_neg (by omega), if_pos h2, if_pos h3]), ?_, HBEL.out⟩
              rw [HRL.out, show most.toNat = 0 from by omega]
              exact .inl ⟨rfl, rfl, rfl⟩
            · go_wp2
              go_quiet (fail)
              go_wp2
              go_ret2
              refine ⟨_, ret_pair (by rw [HRN.out, if_neg (by omega), if_pos h2, if_neg (by omega)]), ?_, below_drewN HBEL.out _⟩
              rw [HRL.out, show most.toNat = 0 from by omega]
              exact .inl ⟨rfl, rfl, rfl⟩
          · obtain ⟨m, rfl⟩ : ∃ m : Nat, most = (m : Int) + 1 := ⟨most.toNat - 1, by omega⟩
            have htn : ((m : Int) + 1).toNat = m + 1 := by omega
            rw [htn] at HRL HRN
            obtain ⟨g2, c3, hv3, hg3, hg4⟩ := own_some HOWN.out (by omega)
            simp only [Value.slice.injEq] at hv3
            obtain ⟨rfl, _, rfl⟩ := hv3
            have hc2 : n + 1 ≤ c2 := by
              rcases HOWN.out.2 with ⟨h, _⟩ | ⟨g', cap', cur, h, h0, hh, h1, _⟩
              · simp at h
              · simp only [Value.slice.injEq] at h
                obtain ⟨_, _, rfl⟩ := h; exact h1
            have hmn : m + 1 < n + 1 := by omega
            have q0 := ((own_row HOWN.out).op m (by rw [HN.out]; omega)).1
            simp only [Nat.zero_add] at q0
            have hb2 : (m : Int) + 1 ≤ (c2 : Int) := by omega
            have hb0 : (0 : Int) ≤ (m : Int) + 1 := by omega
            have hw1 : IntKind.i64.wrap (m : Int) = m := by rw [IntKind.wrap_i64]; omega
            have hw2 : IntKind.i64.wrap ((m : Int) + 1 - 1) = m := by rw [IntKind.wrap_i64]; omega
            have hmc : m + 1 ≤ c2 := by omega
            go_wp2
            go_quiet (fail)
            go_wp2
            go_ret2
            refine ⟨_, ret_pair (by rw [HRN.out, if_neg (by omega), if_neg (by omega)]; rfl), ?_, below_drewN HBEL.out _⟩
            have e1 : (L.take (m + 1)).length = m + 1 := by rw [List.length_take, HN.out]; omega
            rw [HRL.out, e1]
            exact .inr ⟨g2, 0, _, rfl, hg4, fun j u hj => ((own_row HOWN.out).below (below_drewN (Below.refl _ _) _)) j u (opVals_pre _ _ j u hj)⟩
end Go.Proofs.Ytomekiidgdkmiaa
