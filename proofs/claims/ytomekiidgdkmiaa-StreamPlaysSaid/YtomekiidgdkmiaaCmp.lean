/-
  Contracts of cmp, floor and place's small functions.
-/
import Derived.Test.YtomekiidgdkmiaaProg
import Derived.Test.YtomekiidgdkmiaaBase
namespace Go.Proofs.Ytomekiidgdkmiaa
open Go.RowKit

theorem isnan_any (a : Int) (w : World) :
    Calls Try.prog 64 #[.int .i64 a] w fun e w' => e = .returned (.bool false) ∧ w = w' := by
  go_enter Try.func64, Try.ntmps64
  go_wp2
  go_ret
  exact ⟨by simp, rfl⟩

set_option maxHeartbeats 400000 in
theorem cmp_any (a b : Int) (w : World) :
    Calls Try.prog 56 #[.int .i64 a, .int .i64 b] w fun e w' => e = .returned (.int .i64 (cmpI a b)) ∧ w = w' := by
  unfold cmpI
  by_cases h1 : a < b
  · rw [if_pos h1]
    go_enter Try.func56, Try.ntmps56
    go_wp2_with (go_at_call 64; refine (isnan_any _ _).mono ?_; rintro e w' ⟨rfl, rfl⟩)
    go_ret
    exact ⟨rfl, rfl⟩
  · rw [if_neg h1]
    by_cases h2 : a > b
    · rw [if_pos h2]
      go_enter Try.func56, Try.ntmps56
      go_wp2_with (go_at_call 64; refine (isnan_any _ _).mono ?_; rintro e w' ⟨rfl, rfl⟩)
      go_ret
      exact ⟨rfl, rfl⟩
    · rw [if_neg h2]
      go_enter Try.func56, Try.ntmps56
      go_wp2_with (go_at_call 64; refine (isnan_any _ _).mono ?_; rintro e w' ⟨rfl, rfl⟩)
      go_ret
      exact ⟨rfl, rfl⟩

set_option maxHeartbeats 400000 in
theorem or_any (l : List Int) (g o c : Nat) (w : World) (hl : l.length ≤ 100) (hc : ∀ i, i < l.length → w.cell? ⟨g, o + i, none⟩ = some (.int .i64 (nth l i))) :
    Calls Try.prog 55 #[.slice (some ⟨g, o, none⟩) l.length c] w fun e w' => e = .returned (.int .i64 (firstNZ l)) ∧ w = w' := by
  have HC := Lib.hid hc; clear hc
  go_enter Try.func55, Try.ntmps55
  go_wp2
  go_loop [5, 8] (fun _ i => ∃ k : Nat, k ≤ l.length ∧ i = .int .i64 k ∧ Hid (∀ j, j < k → nth l j = 0)) (fun _ i => l.length - (intOf i).toNat)
  case atStart => exact ⟨0, Nat.zero_le _, rfl, fun j hj => by omega⟩
  case round =>
    obtain ⟨k, hk, rfl, hz⟩ := hrel
    by_cases hlt : k < l.length
    · have hcell := HC.out k hlt
      by_cases hx : nth l k = 0
      · have hb : (nth l k != 0) = false := by simp [hx]
        have HX := Lib.hid hx; clear hx
        go_wp2
        go_round
        case rel => exact ⟨k + 1, by omega, by go_num, fun j hj => by rcases Nat.lt_succ_iff_lt_or_eq.1 hj with h | h; exact hz.out j h; subst h; exact HX.out⟩
        case measure => simp [intOf]; omega
      · have hb : (nth l k != 0) = true := by simp [hx]
        have HX := Lib.hid hx; clear hx
        go_wp2
        go_ret
        exact ⟨ret_int (firstNZ_at l k hz.out hlt HX.out).symm, rfl⟩
    · go_wp2
      go_ret
      exact ⟨ret_int (firstNZ_none l k hz.out (by omega)).symm, rfl⟩
theorem or2_any (a b : Int) (g c : Nat) (w : World) (h0 : w.cell? ⟨g, 0, none⟩ = some (.int .i64 a)) (h1 : w.cell? ⟨g, 1, none⟩ = some (.int .i64 b)) :
    Calls Try.prog 55 #[.slice (some ⟨g, 0, none⟩) 2 c] w fun e w' => e = .returned (.int .i64 (firstNZ [a, b])) ∧ w = w' := by
  refine or_any [a, b] g 0 c w (by simp) fun i hi => ?_
  match i, hi with
  | 0, _ => exact h0
  | 1, _ => exact h1
theorem or3_any (a b d : Int) (g c : Nat) (w : World) (h0 : w.cell? ⟨g, 0, none⟩ = some (.int .i64 a)) (h1 : w.cell? ⟨g, 1, none⟩ = some (.int .i64 b)) (h2 : w.cell? ⟨g, 2, none⟩ = some (.int .i64 d)) :
    Calls Try.prog 55 #[.slice (some ⟨g, 0, none⟩) 3 c] w fun e w' => e = .returned (.int .i64 (firstNZ [a, b, d])) ∧ w = w' := by
  refine or_any [a, b, d] g 0 c w (by simp) fun i hi => ?_
  match i, hi with
  | 0, _ => exact h0
  | 1, _ => exact h1
  | 2, _ => exact h2

set_option maxHeartbeats 1000000 in
theorem less_any (a b c d : Int) (w : World) :
    Calls Try.prog 38 #[.agg #[.int .i64 a, .int .i64 b], .agg #[.int .i64 c, .int .i64 d]] w fun e w' => e = .returned (.bool (lessP a b c d)) ∧ Below w.heap.size w w' := by
  go_enter Try.func38, Try.ntmps38
  go_wp2
  go_region_held3 (fun w' => w'.cell? ⟨w.heap.size, 0, none⟩ = some (.int .i64 a) ∧ w'.cell? ⟨w.heap.size, 1, none⟩ = some (.int .i64 b) ∧ w'.cell? ⟨w.heap.size + 1, 0, none⟩ = some (.int .i64 c) ∧ w'.cell? ⟨w.heap.size + 1, 1, none⟩ = some (.int .i64 d)) (go_simp) (first | (go_at_call 56; refine (cmp_any _ _ _).mono ?_; rintro e w' ⟨rfl, rfl⟩) | (go_at_call 55; refine (or2_any (cmpI a c) (cmpI b d) _ _ _ (by go_simp) (by go_simp)).mono ?_; rintro e w' ⟨rfl, rfl⟩))
  go_wp2
  go_ret
  refine ⟨ret_bool (lessP_or a b c d), ?_⟩
  exact ((((Below.refl _ _).alloc (Nat.le_refl _) _).alloc (by simp) _).alloc (by simp; omega) _).drew

theorem least_any (w : World) :
    Calls Try.prog 35 #[] w fun e w' => e = .returned (.agg #[.int .i64 (-9223372036854775808), .int .i64 (-9223372036854775808)]) ∧ Below w.heap.size w w' := by
  go_enter Try.func35, Try.ntmps35
  go_wp2
  exact bodyPost_ret (v := .agg #[.int .i64 (-9223372036854775808), .int .i64 (-9223372036854775808)]) (by simp [results, Try.results35, go_sem]) rfl ⟨rfl, (Below.refl _ _).alloc (Nat.le_refl _) _⟩

set_option maxHeartbeats 400000 in
theorem div_any (t r : Int) (w : World) (ht : I64 t) (hr : 1 ≤ r) (hr2 : r ≤ 9223372036854775807) :
    Calls Try.prog 72 #[.int .i64 t, .int .i64 r] w fun e w' => e = .returned (.int .i64 (dv t r)) ∧ w = w' := by
  have hb := tdiv_bd t r hr ht
  obtain ⟨hb1, hb2⟩ := hb
  obtain ⟨ht1, ht2⟩ := ht
  have hm := tmod_bd t r hr
  have hne : (r == 0) = false := by simp; omega
  by_cases h : t.tmod r < 0
  · have H := Lib.hid (tdiv_neg t r hr h)
    go_enter Try.func72, Try.ntmps72
    go_wp2
    go_ret
    exact ⟨ret_int (by unfold dv; rw [if_neg (by omega), IntWalk.wrap64_in _ (by have := dv_bd t r ⟨ht1, ht2⟩; unfold dv at this; rw [if_neg (by omega), ← H.out] at this; exact this)]; exact H.out), rfl⟩
  · have H := Lib.hid (tdiv_nonneg t r hr h)
    go_enter Try.func72, Try.ntmps72
    go_wp2
    go_ret
    exact ⟨ret_int (by unfold dv; rw [if_neg (by omega)]; exact H.out), rfl⟩

set_option maxHeartbeats 400000 in
theorem mod_any (t r : Int) (w : World) (hr : 1 ≤ r) (hr2 : r ≤ 9223372036854775807) :
    Calls Try.prog 75 #[.int .i64 t, .int .i64 r] w fun e w' => e = .returned (.int .i64 (md t r)) ∧ w = w' := by
  have hne : (r == 0) = false := by simp; omega
  go_enter Try.func75, Try.ntmps75
  go_wp2
  go_ret
  exact ⟨ret_int (mod_bits t r hr hr2), rfl⟩
theorem shard_any (k s : Int) (w : World) (hr : 1 ≤ s) (hr2 : s ≤ 9223372036854775807) :
    Calls Try.prog 71 #[.int .i64 k, .int .i64 s] w fun e w' => e = .returned (.int .i64 (md k s)) ∧ w = w' := by
  go_enter Try.func71, Try.ntmps71
  go_wp2_with (go_at_call 75; refine (mod_any _ _ _ hr hr2).mono ?_; rintro e w' ⟨rfl, rfl⟩)
  go_ret
  exact ⟨rfl, rfl⟩
theorem lane_any (i s n : Int) (w : World) (hi : 0 ≤ i) (hi2 : i ≤ 100) (hn : 1 ≤ n) (hn2 : n ≤ 100) (hs : 0 ≤ s) (hs2 : s ≤ 100) :
    Calls Try.prog 70 #[.int .i64 i, .int .i64 s, .int .i64 n] w fun e w' => e = .returned (.int .i64 (i * n + s)) ∧ w = w' := by
  have h1 : 0 ≤ i * n := Int.mul_nonneg hi (by omega)
  have h2 : i * n ≤ 10000 := Int.le_trans (Int.mul_le_mul hi2 hn2 (by omega) (by omega)) (by omega)
  go_enter Try.func70, Try.ntmps70
  go_wp2
  go_ret
  exact ⟨rfl, rfl⟩
end Go.Proofs.Ytomekiidgdkmiaa
