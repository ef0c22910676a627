/-
  estuarynum.Ops: rows of the same operations are the same.
-/
import Derived.Test.YtomekiidgdkmiaaSlices
namespace Go.Proofs.Ytomekiidgdkmiaa
open Go.RowKit
set_option linter.unusedVariables false
set_option linter.unusedSimpArgs false

theorem sl_val {w : World} {v : Value} {n : Nat} {vs : List Value} (h : SlAt w v n vs) : ∃ A c, v = .slice A n c := by
  rcases h with ⟨h1, h2, _⟩ | ⟨b, off, c, h1, _⟩
  · exact ⟨none, 0, by rw [h1, h2]⟩
  · exact ⟨_, _, h1⟩
theorem sl_row {w : World} {A : Option Addr} {n c : Nat} {vs : List Value} (h : SlAt w (.slice A n c) n vs) (hn : 0 < n) : ∃ b off, A = some ⟨b, off, none⟩ ∧ b < w.heap.size ∧ RowAt w b off vs := by
  rcases h with ⟨_, h2, _⟩ | ⟨b, off, c', h1, h2, h3⟩
  · omega
  · simp only [Value.slice.injEq] at h1
    exact ⟨b, off, h1.1, h2, h3⟩

set_option maxRecDepth 100000 in
theorem ops_same (l : List OpV) (A1 A2 : Option Addr) (c1 c2 : Nat) (w : World) (h1 : SlAt w (.slice A1 l.length c1) l.length (opVals l)) (h2 : SlAt w (.slice A2 l.length c2) l.length (opVals l)) (hl : l.length ≤ 3000000000000) :
    Calls Try.prog 16 #[.slice A1 l.length c1, .slice A2 l.length c2] w fun e w' => e = .returned (.bool true) ∧ Below w.heap.size w w' := by
  have H1 := Lib.hid h1
  have H2 := Lib.hid h2
  have g0 : ((l.length : Int) != (l.length : Int)) = false := by simp
  clear h1 h2
  go_enter Try.func16, Try.ntmps16
  go_wp2
  go_loopw [13] (fun i wr => ∃ k : Nat, k ≤ l.length ∧ i = .int .i64 k ∧ Below w.heap.size w wr) (fun i _ => l.length - (intOf i).toNat)
  case atStart => exact ⟨0, Nat.zero_le _, rfl, Below.refl _ _⟩
  case round =>
    obtain ⟨k, hk, rfl, hbel⟩ := hrel
    by_cases hlt : k < l.length
    · obtain ⟨b1, o1, e1, hb1, hr1⟩ := sl_row (H1.out.below hbel) (by omega)
      obtain ⟨b2, o2, e2, hb2, hr2⟩ := sl_row (H2.out.below hbel) (by omega)
      obtain ⟨p0, p1, p2, p3, p4⟩ := hr1.op k hlt
      obtain ⟨q0, q1, q2, q3, q4⟩ := hr2.op k hlt
      have HBEL := Lib.hid hbel
      clear hr1 hr2 hbel
      subst e1; subst e2
      go_wp2
      go_quiet (fail)
      go_wp2
      go_roundw
      case rel => exact ⟨k + 1, by omega, by go_num, below_drewN HBEL.out _⟩
      case measure => simp [intOf]; omega
    · have HBEL := Lib.hid hbel
      clear hbel
      go_wp2
      go_ret
      exact ⟨rfl, HBEL.out⟩
end Go.Proofs.Ytomekiidgdkmiaa
