/-
  The document's floor and place: Div, Mod, Less, Ids.
-/
import Derived.Test.YtomekiidgdkmiaaStm
namespace Go.Proofs.Ytomekiidgdkmiaa
open Go.RowKit
set_option linter.unusedVariables false
set_option linter.unusedSimpArgs false

theorem tdiv_pos (t r : Int) (hr : 1 ≤ r) (ht : 0 ≤ t) : t.tdiv r = t / r := Int.tdiv_eq_ediv_of_nonneg ht
theorem div_low (t r : Int) (hr : 1 ≤ r) (ht : t < 0) : -((-(t + 1)).tdiv r) - 1 = t / r := by
  rw [tdiv_pos _ r hr (by omega)]
  symm
  rw [Int.ediv_eq_iff_of_pos (by omega)]
  have h1 := Int.mul_ediv_add_emod (-(t + 1)) r
  have h2 := Int.emod_nonneg (-(t + 1)) (show r ≠ 0 by omega)
  have h3 := Int.emod_lt_of_pos (-(t + 1)) (show 0 < r by omega)
  have e1 : (-(-(t + 1) / r) - 1) * r = -(r * (-(t + 1) / r)) - r := by rw [Int.sub_mul, Int.neg_mul, Int.mul_comm r]; omega
  rw [e1]
  constructor <;> omega
theorem mod_low (t r : Int) (hr : 1 ≤ r) (ht : t < 0) : r - 1 - (-(t + 1)).tmod r = t % r := by
  rw [Int.tmod_eq_emod_of_nonneg (show 0 ≤ -(t + 1) by omega)]
  have h1 := Int.mul_ediv_add_emod (-(t + 1)) r
  have h2 := Int.emod_nonneg (-(t + 1)) (show r ≠ 0 by omega)
  have h3 := Int.emod_lt_of_pos (-(t + 1)) (show 0 < r by omega)
  have h4 : t = (r - 1 - (-(t + 1)) % r) + r * (-(-(t + 1) / r) - 1) := by
    rw [Int.mul_sub, Int.mul_neg]; omega
  conv => rhs; rw [h4]
  rw [Int.add_mul_emod_self_left]
  symm
  exact Int.emod_eq_of_lt (by omega) (by omega)
theorem div_low' (t r : Int) (hr : 1 ≤ r) (ht : t < 0) : (t + 1).tdiv r - 1 = t / r := by
  have := div_low t r hr ht
  rw [Int.neg_tdiv] at this; omega
theorem mod_low' (t r : Int) (hr : 1 ≤ r) (ht : t < 0) : r - 1 + (t + 1).tmod r = t % r := by
  have := mod_low t r hr ht
  rw [Int.neg_tmod] at this; omega
theorem tdiv_bd0 (t r : Int) (hr : 1 ≤ r) (h0 : 0 ≤ t) : 0 ≤ t.tdiv r ∧ t.tdiv r ≤ t := by
  rw [tdiv_pos t r hr h0]
  exact ⟨Int.ediv_nonneg h0 (by omega), Int.ediv_le_self _ h0⟩

set_option maxHeartbeats 400000 in
theorem rdiv_any (t r : Int) (w : World) (ht : I64 t) (hr : 1 ≤ r) (hr2 : r ≤ 9223372036854775807) :
    Calls Try.prog 43 #[.int .i64 t, .int .i64 r] w fun e w' => e = .returned (.int .i64 (dv t r)) ∧ w = w' := by
  obtain ⟨ht1, ht2⟩ := ht
  have hne : (r == 0) = false := by simp; omega
  have e0 : dv t r = t / r := by unfold dv; rw [if_neg (by omega)]
  by_cases h : 0 ≤ t
  · have H := Lib.hid (tdiv_pos t r hr h)
    have HE := Lib.hid e0; clear e0
    have hb := tdiv_bd0 t r hr h
    go_enter Try.func43, Try.ntmps43
    go_wp2
    go_ret
    exact ⟨ret_int (H.out.trans HE.out.symm), rfl⟩
  · have H := Lib.hid (div_low' t r hr (by omega))
    have HE := Lib.hid e0; clear e0
    have HB := Lib.hid (dv_bd t r ⟨ht1, ht2⟩)
    go_enter Try.func43, Try.ntmps43
    go_wp2
    go_ret
    exact ⟨ret_int (by have h1 := H.out.trans HE.out.symm; rw [IntWalk.wrap64_in _ (by rw [h1]; exact HB.out)]; exact h1), rfl⟩
set_option maxHeartbeats 400000 in
theorem rmod_any (t r : Int) (w : World) (ht : I64 t) (hr : 1 ≤ r) (hr2 : r ≤ 9223372036854775807) :
    Calls Try.prog 42 #[.int .i64 t, .int .i64 r] w fun e w' => e = .returned (.int .i64 (md t r)) ∧ w = w' := by
  obtain ⟨ht1, ht2⟩ := ht
  have hne : (r == 0) = false := by simp; omega
  have e0 : md t r = t % r := by unfold md; rw [if_neg (by omega)]
  by_cases h : 0 ≤ t
  · have H := Lib.hid (Int.tmod_eq_emod_of_nonneg (b := r) h)
    have HE := Lib.hid e0; clear e0
    go_enter Try.func42, Try.ntmps42
    go_wp2
    go_ret
    exact ⟨ret_int HE.out.symm, rfl⟩
  · have H := Lib.hid (mod_low' t r hr (by omega))
    have HE := Lib.hid e0; clear e0
    have hb := md_bd t r hr
    have HB : Hid (I64 (md t r)) := ⟨by omega, by omega⟩
    clear hb
    go_enter Try.func42, Try.ntmps42
    go_wp2
    go_ret
    exact ⟨ret_int (by have h1 := H.out.trans HE.out.symm; rw [IntWalk.wrap64_in _ (by rw [h1]; exact HB.out)]; exact h1), rfl⟩
theorem rless_eq (a b c d : Int) (h : a = c) : lessP a b c d = decide (b < d) := by
  unfold lessP; subst h; simp
theorem rless_ne (a b c d : Int) (h : a ≠ c) : lessP a b c d = decide (a < c) := by
  unfold lessP
  by_cases h1 : a < c
  · simp [h1]
  · simp [h1, show a > c by omega]
theorem rless_any (a b c d : Int) (w : World) :
    Calls Try.prog 18 #[.agg #[.int .i64 a, .int .i64 b], .agg #[.int .i64 c, .int .i64 d]] w fun e w' => e = .returned (.bool (lessP a b c d)) ∧ Below w.heap.size w w' := by
  by_cases h : a = c
  · have H := Lib.hid (rless_eq a b c d h)
    have g : (a == c) = true := by simp [h]
    clear h
    go_enter Try.func18, Try.ntmps18
    go_wp2
    go_ret
    exact ⟨ret_bool H.out.symm, (below_alloc w _).alloc (by simp) _⟩
  · have H := Lib.hid (rless_ne a b c d h)
    have g : (a == c) = false := by simp [h]
    clear h
    go_enter Try.func18, Try.ntmps18
    go_wp2
    go_ret
    exact ⟨ret_bool H.out.symm, (below_alloc w _).alloc (by simp) _⟩

theorem new_row2 (w : World) (o : Obj) (cs : List Value) (T : TypeId) : ∀ j u, cs[j]? = some u → ((w.alloc o).alloc (.cells cs.toArray T)).drew.cell? ((⟨w.heap.size + 1, 0, none⟩ : Addr).add j) = some u := by
  have := new_row (w.alloc o) cs T
  simpa using this
set_option maxHeartbeats 1000000 in
set_option maxRecDepth 100000 in
theorem rids_any (o : OpV) (b off c : Nat) (res : List Int) (sh : Int) (w : World) (hn : res.length ≤ 100)
    (hres : ∀ i, i < res.length → w.cell? ⟨b, off + i, none⟩ = some (.int .i64 (nth res i))) (hr : ∀ i, i < res.length → 1 ≤ nth res i ∧ nth res i ≤ 9223372036854775807)
    (ho : I64 o.time) (hk : I64 o.key) (hs : 1 ≤ sh) (hs2 : sh ≤ 100) :
    Calls Try.prog 17 #[.agg #[.int .i64 o.seq, .int .i64 o.kind, .int .i64 o.time, .int .i64 o.key, .int .i64 o.val], .slice (some ⟨b, off, none⟩) res.length c, .int .i64 sh] w
      (SomeV fun v w' => w'.ownsRow w.heap.size 51 3 v res.length (idVals (idsOf o res sh)) ∧ Below w.heap.size w w') := by
  obtain ⟨i0, hi, hz0, hz1, hz2⟩ := info_parts infoId
  have HR := Lib.hid hres; clear hres
  have HR2 := Lib.hid hr; clear hr
  have HO := Lib.hid ho; clear ho
  have HKY := Lib.hid hk; clear hk
  have hmd := md_bd o.key sh hs
  go_enter Try.func17, Try.ntmps17
  go_wp2
  go_loopw [7, 8] (fun v i wr => ∃ k : Nat, k ≤ res.length ∧ i = .int .i64 k ∧ wr.ownsRow (w.heap.size + 1) 51 3 v k (idVals (idsOf o (res.take k) sh)) ∧ Below (w.heap.size + 1) (w.alloc (.cells #[.int .i64 o.seq, .int .i64 o.kind, .int .i64 o.time, .int .i64 o.key, .int .i64 o.val] 34)) wr) (fun _ i _ => res.length - (intOf i).toNat)
  case atStart => exact ⟨0, Nat.zero_le _, rfl, World.ownsRow_nil _ _ _ _, Below.refl _ _⟩
  case round =>
    obtain ⟨k, hk, rfl, hown, hbel⟩ := hrel
    have hall : Below w.heap.size w wr := (below_alloc w _).trans (hbel.mono (by omega))
    have hsz := hbel.size
    simp only [World.size_alloc] at hsz
    have c2 : wr.cell? ⟨w.heap.size, 2, none⟩ = some (.int .i64 o.time) := old_cell hbel (box_cell w _ _ _ 2 _ rfl) (by simp)
    have c3 : wr.cell? ⟨w.heap.size, 3, none⟩ = some (.int .i64 o.key) := old_cell hbel (box_cell w _ _ _ 3 _ rfl) (by simp)
    by_cases hlt : k < res.length
    · have hc0 := HR.out k hlt
      have hcell := old_cell hall hc0 (cell_lt hc0)
      have hr1 := (HR2.out k hlt).1
      have hr2 := (HR2.out k hlt).2
      have HOWN := Lib.hid hown
      have HBEL := Lib.hid hbel
      have HALL := Lib.hid hall
      clear hown hbel hall hc0
      have h1 : 0 ≤ (k : Int) * sh := Int.mul_nonneg (by omega) (by omega)
      have h2 : (k : Int) * sh ≤ 10000 := Int.le_trans (Int.mul_le_mul (show (k : Int) ≤ 100 by omega) hs2 (by omega) (by omega)) (by omega)
      go_wp2_with (first | (go_at_call 42; refine (rmod_any _ _ _ HKY.out hs (by omega)).mono ?_; rintro e w' ⟨rfl, rfl⟩))
      have X0 : Hid ((wr.alloc (.cells #[.int .i64 ((k : Int) * sh + md o.key sh), .int .i64 0, .int .i64 0] 51)).heap[wr.heap.size]? = some (.cells #[.int .i64 ((k : Int) * sh + md o.key sh), .int .i64 0, .int .i64 0] 51 (0, 0))) := heap_alloc_new wr _
      have z0 := blk_cell X0.out 0 _ rfl
      have f1 := blk_frozen X0.out 1
      have f2 := blk_frozen X0.out 2
      go_region_held3 (fun w' => w'.cell? ⟨w.heap.size, 2, none⟩ = some (.int .i64 o.time) ∧ w'.cell? ⟨b, off + k, none⟩ = some (.int .i64 (nth res k))) (first | exact ⟨‹_›, ‹_›⟩ | go_keep) ((go_at_call 43; refine (rdiv_any _ _ _ HO.out hr1 hr2).mono ?_; rintro e w' ⟨rfl, rfl⟩))
      have d3 : ∀ ob, ((wr.alloc ob).drew).cell? ⟨w.heap.size, 3, none⟩ = some (.int .i64 o.key) := fun ob => alloc_old (o := ob) c3
      go_wp2_with (at_builtin; refine wpList_append_lies _ rfl (.tmp 38) (.tmp 40) 46 rfl (w.heap.size + 1) 51 i0 (.agg #[.int .i64 0, .int .i64 0, .int .i64 0]) 3 24 Try.underlying46 hi hz0 hz1 hz2 rfl (by decide) _ k _ rfl ((HOWN.out.alloc _).alloc _).drew ⟨wr.heap.size + 1, 0, none⟩ 1 1 (idOf o sh k (nth res k)).vals rfl rfl (new_row2 _ _ _ _) (by simp [IdV.vals, Value.oneCell']) (by omega) (by unfold maxLen; omega) (by omega) (by simp; omega) _ rfl ?_; intro g cap w1 hrow hg hat hgl; have hb1 := (((HBEL.out.alloc (by omega) _).alloc (by simp; omega) _).drew.grown hg (by simp; omega) (fun k hk => (HOWN.out.lt k hk).1)))
      go_roundw
      case rel => exact ⟨k + 1, by omega, by go_num, by rw [ids_snoc o res sh k hlt, idVals_snoc]; exact hrow, hb1⟩
      case measure => simp [intOf]; omega
    · have e : k = res.length := by omega
      subst e
      have HOWN := Lib.hid hown
      have HALL := Lib.hid hall
      clear hown hall
      go_wp2
      go_ret
      have ho1 := HOWN.out
      rw [List.take_length] at ho1
      exact ⟨_, rfl, own_down ho1 (by omega), HALL.out⟩
end Go.Proofs.Ytomekiidgdkmiaa
