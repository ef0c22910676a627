/-
  What the laws over two streams call beside them: Num, places, Clone.
-/
import Derived.Test.YtomekiidgdkmiaaStmB
import Derived.Test.YtomekiidgdkmiaaNumOps
namespace Go.Proofs.Ytomekiidgdkmiaa
open Go.RowKit
set_option linter.unusedVariables false
set_option linter.unusedSimpArgs false

theorem num_nil (w : World) : Calls Try.prog 24 #[.nilIface] w fun e w' => e = .returned (.int .i64 0) ∧ w = w' := by
  go_enter Try.func24, Try.ntmps24
  go_wp2
  go_ret
  exact ⟨rfl, rfl⟩
theorem assertErr (c : Int) (w : World) : (Instr.typeAssert (.iface 44 (.int .i64 c)) 30 44 true).run Try.prog w = .ok (.tuple #[.int .i64 c, .bool true]) w := by
  simp [Instr.typeAssert, run_underlying Try.underlying44, go_sem, Result.andThen]
set_option maxRecDepth 100000 in
theorem num_err (c : Int) (hc : c ≠ 0) (w : World) : Calls Try.prog 24 #[.iface 44 (.int .i64 c)] w fun e w' => e = .returned (.int .i64 c) ∧ w = w' := by
  have g : (c == 0) = false := by simp [hc]
  have g2 : decide (c = 0) = false := decide_eq_false hc
  clear hc
  have h := assertErr c w
  go_enter Try.func24, Try.ntmps24
  go_wp2
  go_ret
  exact ⟨rfl, rfl⟩
/-- an error's number -/
theorem num_any (c : Int) (w : World) : Calls Try.prog 24 #[errV c] w fun e w' => e = .returned (.int .i64 c) ∧ w = w' := by
  unfold errV
  by_cases h : c = 0
  · subst h; rw [if_pos rfl]; exact num_nil w
  · rw [if_neg h]; exact num_err c h w

set_option maxRecDepth 100000 in
theorem places_same' (l : List PlV) (A1 A2 : Option Addr) (c1 c2 : Nat) (w : World) (h1 : 0 < l.length → SlAt w (.slice A1 l.length c1) l.length (plVals l)) (h2 : 0 < l.length → SlAt w (.slice A2 l.length c2) l.length (plVals l)) (hl : l.length ≤ 1000000000000000000) :
    Calls Try.prog 30 #[.slice A1 l.length c1, .slice A2 l.length c2] w fun e w' => e = .returned (.bool true) ∧ Below w.heap.size w w' := by
  have H1 := Lib.hid h1
  have H2 := Lib.hid h2
  have g0 : ((l.length : Int) != (l.length : Int)) = false := by simp
  clear h1 h2
  go_enter Try.func30, Try.ntmps30
  go_wp2
  go_loopw [13] (fun i wr => ∃ k : Nat, k ≤ l.length ∧ i = .int .i64 k ∧ Below w.heap.size w wr) (fun i _ => l.length - (intOf i).toNat)
  case atStart => exact ⟨0, Nat.zero_le _, rfl, Below.refl _ _⟩
  case round =>
    obtain ⟨k, hk, rfl, hbel⟩ := hrel
    by_cases hlt : k < l.length
    · obtain ⟨b1, o1, e1, hb1, hr1⟩ := sl_row ((H1.out (by omega)).below hbel) (by omega)
      obtain ⟨b2, o2, e2, hb2, hr2⟩ := sl_row ((H2.out (by omega)).below hbel) (by omega)
      obtain ⟨p0, p1⟩ := hr1.pl k hlt
      obtain ⟨q0, q1⟩ := hr2.pl k hlt
      have HBEL := Lib.hid hbel
      clear hr1 hr2 hbel
      subst e1; subst e2
      go_wp2
      go_quiet (fail)
      go_wp2
      go_roundw
      case rel => exact ⟨k + 1, by omega, by go_num, below_drewN HBEL.out _⟩
      case measure => simp [intOf]; omega
    · have HBEL := Lib.hid hbel
      clear hbel
      go_wp2
      go_ret
      exact ⟨rfl, HBEL.out⟩

theorem places_same (l : List PlV) (A1 A2 : Option Addr) (c1 c2 : Nat) (w : World) (h1 : SlAt w (.slice A1 l.length c1) l.length (plVals l)) (h2 : SlAt w (.slice A2 l.length c2) l.length (plVals l)) (hl : l.length ≤ 1000000000000000000) :
    Calls Try.prog 30 #[.slice A1 l.length c1, .slice A2 l.length c2] w fun e w' => e = .returned (.bool true) ∧ Below w.heap.size w w' :=
  places_same' l A1 A2 c1 c2 w (fun _ => h1) (fun _ => h2) hl

theorem clone_fin {W W' : World} {c B B' : Nat} {s : StV} {vr v5 v6 : Value} {cs : Array Value} (hx : W'.heap[c]? = some (.cells (s.cellsOf vr v5 v6) 86 (0, 0))) (hk : Keeps (fun k => k = c) W W')
    (hr : W.ownsRow 0 3 1 vr s.res.length (intVals s.res)) (h5 : W.ownsRow B 34 5 v5 s.samples.length (opVals s.samples)) (h6 : W.ownsRow B' 49 2 v6 s.places.length (plVals s.places))
    (hW : W.heap[c]? = some (.cells cs 86 (0, 0))) : StIs W' c s vr v5 v6 :=
  ⟨hx, own_keep hr (fun k h => hk.block k (hr.lt k h).2 (fun e => by subst e; exact own_ne hr hW (by decide) h)),
    own_down (own_keep h5 (fun k h => hk.block k (h5.lt k h).2 (fun e => by subst e; exact own_ne h5 hW (by decide) h))) (Nat.zero_le _),
    own_down (own_keep h6 (fun k h => hk.block k (h6.lt k h).2 (fun e => by subst e; exact own_ne h6 hW (by decide) h))) (Nat.zero_le _)⟩
set_option maxHeartbeats 1000000 in
set_option maxRecDepth 100000 in
theorem clone_any (a : Nat) (s : StV) (vr vs vp : Value) (w : World) (h : StIs w a s vr vs vp) (hl : s.samples.length ≤ 3000000000000) (hl2 : s.places.length ≤ 1000) :
    Calls Try.prog 25 #[.pointer (some ⟨a, 0, none⟩)] w
      fun e w' => ∃ c vs' vp', e = .returned (.pointer (some ⟨c, 0, none⟩)) ∧ StIs w' c s vr vs' vp' ∧ (∀ k, foot c vs' vp' k → w.heap.size ≤ k) ∧ Below w.heap.size w w' := by
  obtain ⟨Ar, cr, rfl⟩ := own_slice h.res
  obtain ⟨As, cs, rfl⟩ := own_slice h.sam
  obtain ⟨Ap, cp, rfl⟩ := own_slice h.pla
  have H := Lib.hid h
  have hlt := h.lt
  have HS := Lib.hid (own_sl h.sam)
  have HP := Lib.hid (own_sl h.pla)
  have hb := h.blk
  simp only [StV.cellsOf] at hb
  have c0 : w.cell? ⟨a, 0, none⟩ = some (.slice Ar s.res.length cr) := h.cell 0 _ rfl
  have c1 : w.cell? ⟨a, 1, none⟩ = some (.int .i64 s.shards) := h.cell 1 _ rfl
  have c2 : w.cell? ⟨a, 2, none⟩ = some (.int .i64 s.hold) := h.cell 2 _ rfl
  have c3 : w.cell? ⟨a, 3, none⟩ = some (.int .i64 s.next) := h.cell 3 _ rfl
  have c4 : w.cell? ⟨a, 4, none⟩ = some (.int .i64 s.mark.seq) := h.cell 4 _ rfl
  have c5 : w.cell? ⟨a, 5, none⟩ = some (.int .i64 s.mark.kind) := h.cell 5 _ rfl
  have c6 : w.cell? ⟨a, 6, none⟩ = some (.int .i64 s.mark.time) := h.cell 6 _ rfl
  have c7 : w.cell? ⟨a, 7, none⟩ = some (.int .i64 s.mark.key) := h.cell 7 _ rfl
  have c8 : w.cell? ⟨a, 8, none⟩ = some (.int .i64 s.mark.val) := h.cell 8 _ rfl
  have c9 : w.cell? ⟨a, 9, none⟩ = some (.slice As s.samples.length cs) := h.cell 9 _ rfl
  have c10 : w.cell? ⟨a, 10, none⟩ = some (.slice Ap s.places.length cp) := h.cell 10 _ rfl
  clear h hb
  go_enter Try.func25, Try.ntmps25
  go_wp2
  have H1 := Lib.hid (H.out.below (below_alloc w (.cells (s.cellsOf (.slice Ar s.res.length cr) (.slice As s.samples.length cs) (.slice Ap s.places.length cp)) 86)))
  have HX := Lib.hid (heap_alloc_new w (.cells (s.cellsOf (.slice Ar s.res.length cr) (.slice As s.samples.length cs) (.slice Ap s.places.length cp)) 86))
  have HB := Lib.hid (below_alloc w (.cells (s.cellsOf (.slice Ar s.res.length cr) (.slice As s.samples.length cs) (.slice Ap s.places.length cp)) 86))
  simp only [StV.cellsOf] at H1 HX HB
  have hz1 : w.heap.size < (w.alloc (.cells #[.slice Ar s.res.length cr, .int .i64 s.shards, .int .i64 s.hold, .int .i64 s.next, .int .i64 s.mark.seq, .int .i64 s.mark.kind, .int .i64 s.mark.time, .int .i64 s.mark.key, .int .i64 s.mark.val, .slice As s.samples.length cs, .slice Ap s.places.length cp] 86)).heap.size := by simp
  generalize World.alloc w _ = W1 at *
  have d9 : W1.cell? ⟨a, 9, none⟩ = some (.slice As s.samples.length cs) := H1.out.cell 9 _ rfl
  have d10 : W1.cell? ⟨a, 10, none⟩ = some (.slice Ap s.places.length cp) := H1.out.cell 10 _ rfl
  have x9 : W1.cell? ⟨w.heap.size, 9, none⟩ = some (.slice As s.samples.length cs) := blk_cell HX.out 9 _ rfl
  have x10 : W1.cell? ⟨w.heap.size, 10, none⟩ = some (.slice Ap s.places.length cp) := blk_cell HX.out 10 _ rfl
  have HBB : Hid (Below W1.heap.size W1 W1.drew) := (Below.refl _ _).drew
  have H1W := Lib.hid HB.out.size
  go_region_law (first | (go_simp; go_at_call 37; refine (cloneOp_any s.samples (.slice As s.samples.length cs) _ hl (HS.out.below (HB.out.trans (HBB.out.mono H1W.out)))).mono ?_; rintro e w5 ⟨v5, rfl, h5, hb5⟩; obtain ⟨A5, c5, rfl⟩ := own_slice h5; have HV5 := Lib.hid (own_down h5 HBB.out.size); clear h5; have HBB := Lib.hid (HBB.out.trans (hb5.mono HBB.out.size)); have d9 : w5.cell? ⟨a, 9, none⟩ = some (.slice As s.samples.length cs) := (H1.out.below HBB.out).cell 9 _ rfl; have d10 : w5.cell? ⟨a, 10, none⟩ = some (.slice Ap s.places.length cp) := (H1.out.below HBB.out).cell 10 _ rfl; have HX5 := Lib.hid ((HBB.out.block w.heap.size hz1).trans HX.out); have x9 : w5.cell? ⟨w.heap.size, 9, none⟩ = some (.slice As s.samples.length cs) := blk_cell HX5.out 9 _ rfl; have x10 : w5.cell? ⟨w.heap.size, 10, none⟩ = some (.slice Ap s.places.length cp) := blk_cell HX5.out 10 _ rfl; have fx9 := blk_frozen HX5.out 9; have fx10 := blk_frozen HX5.out 10; try (have HV6 := Lib.hid (own_keep HV6.out (fun t ht => hb5.block t (HV6.out.lt t ht).2))); clear hb5) | (go_simp; go_at_call 47; refine (clonePl_any s.places (.slice Ap s.places.length cp) _ (by omega) (HP.out.below (HB.out.trans (HBB.out.mono H1W.out)))).mono ?_; rintro e w5 ⟨v6, rfl, h5, hb5⟩; obtain ⟨A6, c6, rfl⟩ := own_slice h5; have HV6 := Lib.hid (own_down h5 HBB.out.size); clear h5; have HBB := Lib.hid (HBB.out.trans (hb5.mono HBB.out.size)); have d9 : w5.cell? ⟨a, 9, none⟩ = some (.slice As s.samples.length cs) := (H1.out.below HBB.out).cell 9 _ rfl; have d10 : w5.cell? ⟨a, 10, none⟩ = some (.slice Ap s.places.length cp) := (H1.out.below HBB.out).cell 10 _ rfl; have HX5 := Lib.hid ((HBB.out.block w.heap.size hz1).trans HX.out); have x9 : w5.cell? ⟨w.heap.size, 9, none⟩ = some (.slice As s.samples.length cs) := blk_cell HX5.out 9 _ rfl; have x10 : w5.cell? ⟨w.heap.size, 10, none⟩ = some (.slice Ap s.places.length cp) := blk_cell HX5.out 10 _ rfl; have fx9 := blk_frozen HX5.out 9; have fx10 := blk_frozen HX5.out 10; try (have HV5 := Lib.hid (own_keep HV5.out (fun t ht => hb5.block t (HV5.out.lt t ht).2))); clear hb5))
  all_goals
    have kk : Keeps (fun k => k = w.heap.size) w5 _ := ((Keeps.refl _ w5).set 9 (.slice A5 s.samples.length c5)).set 10 (.slice A6 s.places.length c6)
    have kk' : Keeps (fun k => k = w.heap.size) w5 _ := ((Keeps.refl _ w5).set 10 (.slice A6 s.places.length c6)).set 9 (.slice A5 s.samples.length c5)
    have q := clone_fin ((heap_set (heap_set HX5.out)).trans (by simp [StV.cellsOf])) kk ((H1.out.below HBB.out).res) HV5.out HV6.out HX5.out
    have q' := clone_fin ((heap_set (heap_set HX5.out)).trans (by simp [StV.cellsOf])) kk' ((H1.out.below HBB.out).res) HV5.out HV6.out HX5.out
    have hbl := HB.out.trans (HBB.out.mono H1W.out)
    have hsz := hbl.size
    have r := hbl.trans (kk.below hsz (fun i hi => by omega))
    have r' := hbl.trans (kk'.below hsz (fun i hi => by omega))
    have ft : ∀ k, foot w.heap.size (.slice A5 s.samples.length c5) (.slice A6 s.places.length c6) k → w.heap.size ≤ k := by
      intro k hk
      rcases hk with rfl | hk | hk
      · exact Nat.le_refl _
      · have := (HV5.out.lt k hk).1; omega
      · have := (HV6.out.lt k hk).1; omega
    have Q := Lib.hid q
    have Q' := Lib.hid q'
    have R := Lib.hid r
    have R' := Lib.hid r'
    have FT := Lib.hid ft
    clear q q' r r' ft kk kk' hbl hsz
    go_wp2
    go_ret
    first
      | exact ⟨_, _, _, rfl, Q.out, FT.out, R.out⟩
      | exact ⟨_, _, _, rfl, Q'.out, FT.out, R'.out⟩
end Go.Proofs.Ytomekiidgdkmiaa
