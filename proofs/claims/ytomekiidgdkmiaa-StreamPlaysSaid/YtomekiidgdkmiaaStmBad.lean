/-
  stream.New where it refuses.
-/
import Derived.Test.YtomekiidgdkmiaaStmNew
namespace Go.Proofs.Ytomekiidgdkmiaa
open Go.RowKit
set_option linter.unusedVariables false
set_option linter.unusedSimpArgs false

set_option maxRecDepth 100000 in
theorem new_len (A : Option Addr) (n c : Nat) (sh hold : Int) (w : World) (h : n < 1 ∨ 3 < n) :
    Calls Try.prog 11 #[.slice A n c, .int .i64 sh, .int .i64 hold] w
      fun e w' => e = .returned (.tuple #[.pointer none, .iface 44 (.int .i64 2)]) ∧ w = w' := by
  rcases h with h | h
  · have g1 : decide (n < 1) = true := decide_eq_true h
    have g2 : decide ((n : Int) < 1) = true := decide_eq_true (by omega)
    go_enter Try.func11, Try.ntmps11
    go_wp2
    go_ret2
    exact ⟨rfl, rfl⟩
  · have g1 : decide (n < 1) = false := decide_eq_false (by omega)
    have g2 : decide ((n : Int) < 1) = false := decide_eq_false (by omega)
    have g3 : decide (3 < n) = true := decide_eq_true h
    have g4 : decide (3 < (n : Int)) = true := decide_eq_true (by omega)
    go_enter Try.func11, Try.ntmps11
    go_wp2
    go_ret2
    exact ⟨rfl, rfl⟩

set_option maxRecDepth 100000 in
theorem new_min (res : List Int) (b off c : Nat) (sh hold : Int) (w : World) (hres : RowAt w b off (intVals res)) (h1 : 1 ≤ res.length) (h2 : res.length ≤ 3) (h : ¬ (1 ≤ minL res ∧ 1 ≤ sh ∧ sh ≤ 4 ∧ 1 ≤ hold ∧ hold ≤ 64)) :
    Calls Try.prog 11 #[.slice (some ⟨b, off, none⟩) res.length c, .int .i64 sh, .int .i64 hold] w
      fun e w' => e = .returned (.tuple #[.pointer none, .iface 44 (.int .i64 2)]) ∧ w = w' := by
  have g1 : decide (res.length < 1) = false := decide_eq_false (by omega)
  have g2 : decide (3 < res.length) = false := decide_eq_false (by omega)
  have HRES := Lib.hid hres
  clear hres
  by_cases k1 : minL res < 1
  · have g3 : decide (minL res < 1) = true := decide_eq_true k1
    clear k1 h
    go_enter Try.func11, Try.ntmps11
    go_wp2_with (go_at_call 32; refine (min_any res b off c _ h1 (by omega) HRES.out).mono ?_; rintro e w' ⟨rfl, rfl⟩)
    go_ret2
    exact ⟨rfl, rfl⟩
  · have g3 : decide (minL res < 1) = false := decide_eq_false k1
    by_cases k2 : sh < 1
    · have g4 : decide (sh < 1) = true := decide_eq_true k2
      clear k1 k2 h
      go_enter Try.func11, Try.ntmps11
      go_wp2_with (go_at_call 32; refine (min_any res b off c _ h1 (by omega) HRES.out).mono ?_; rintro e w' ⟨rfl, rfl⟩)
      go_ret2
      exact ⟨rfl, rfl⟩
    · have g4 : decide (sh < 1) = false := decide_eq_false k2
      by_cases k3 : 4 < sh
      · have g5 : decide (4 < sh) = true := decide_eq_true k3
        clear k1 k2 k3 h
        go_enter Try.func11, Try.ntmps11
        go_wp2_with (go_at_call 32; refine (min_any res b off c _ h1 (by omega) HRES.out).mono ?_; rintro e w' ⟨rfl, rfl⟩)
        go_ret2
        exact ⟨rfl, rfl⟩
      · have g5 : decide (4 < sh) = false := decide_eq_false k3
        by_cases k4 : hold < 1
        · have g6 : decide (hold < 1) = true := decide_eq_true k4
          clear k1 k2 k3 k4 h
          go_enter Try.func11, Try.ntmps11
          go_wp2_with (go_at_call 32; refine (min_any res b off c _ h1 (by omega) HRES.out).mono ?_; rintro e w' ⟨rfl, rfl⟩)
          go_ret2
          exact ⟨rfl, rfl⟩
        · have g6 : decide (hold < 1) = false := decide_eq_false k4
          have k5 : 64 < hold := by omega
          have g7 : decide (64 < hold) = true := decide_eq_true k5
          clear k1 k2 k3 k4 k5 h
          go_enter Try.func11, Try.ntmps11
          go_wp2_with (go_at_call 32; refine (min_any res b off c _ h1 (by omega) HRES.out).mono ?_; rintro e w' ⟨rfl, rfl⟩)
          go_ret2
          exact ⟨rfl, rfl⟩

theorem new_bad (res : List Int) (v : Value) (sh hold : Int) (w : World) (hv : SlAt w v res.length (intVals res)) (h : ¬ newOk res sh hold) :
    Calls Try.prog 11 #[v, .int .i64 sh, .int .i64 hold] w
      fun e w' => e = .returned (.tuple #[.pointer none, .iface 44 (.int .i64 2)]) ∧ w = w' := by
  rcases hv with ⟨rfl, h0, _⟩ | ⟨b, off, c, rfl, hb, hr⟩
  · exact new_len none 0 0 sh hold w (.inl (by omega))
  · by_cases h1 : res.length < 1 ∨ 3 < res.length
    · exact new_len _ _ _ sh hold w h1
    · exact new_min res b off c sh hold w hr (by omega) (by omega) (fun hn => h ⟨by omega, by omega, hn⟩)
end Go.Proofs.Ytomekiidgdkmiaa
