/-
  append of a slice, whatever its length, to a row of the call's own.
-/
import Derived.Test.YtomekiidgdkmiaaBase
import Derived.Deep.Upon
import Derived.Deep.AppendLies
import Derived.Lib.AppendZeros
namespace Go.Proofs.Ytomekiidgdkmiaa
open Go.RowKit
set_option linter.unusedVariables false

theorem append_sl {P : Program} {α : Type} (f : α → List Value) (k : Nat) (hfk : ∀ x, (f x).length = k) (h1c : ∀ x, ∀ u ∈ f x, u.oneCell' = true) (t e : TypeId) (i : TypeInfo) (z : Value) (bytes : Nat)
    (ht : P.underlying t = some (.slice e)) (hi : P.info? e = some i) (hz : i.zero = some z) (hsize : i.size = k) (hby : i.bytes = bytes) (hzs : z.cells.size = k) (hk : 0 < k)
    (w : World) (B : Nat) (v : Value) (n : Nat) (xs : List α) (hown : w.ownsRow B e k v n (xs.flatMap f)) (v2 : Value) (ys : List α) (hsl : SlAt w v2 ys.length (ys.flatMap f))
    (h63 : n + ys.length ≤ maxLen) (hbytes : (n + ys.length) * bytes ≤ 140737488355328) (hB : B ≤ w.heap.size) (ty : TypeId) :
    ∃ v' w', (Builtin.append_ #[t, t] ty #[v, v2]).run P w = .ok v' w' ∧ w'.ownsRow B e k v' (n + ys.length) ((xs ++ ys).flatMap f) ∧ w.grownBy w' v.ownBlock := by
  by_cases h0 : ys = []
  · subst h0
    have hr : (Builtin.append_ #[t, t] ty #[v, v2]).run P w = .ok v w := by
      have hs2 : Src P i.size t v2 0 [] w := by
        rcases hsl with ⟨rfl, _, _⟩ | ⟨b, off, c, rfl, _, _⟩
        · exact Src.ofNil w ht 0
        · exact Src.ofSlice w ht _ 0 _ [] (by simp) (fun j u hj => by simp at hj) (fun u hu => by simp at hu)
      rcases hown.2 with ⟨rfl, rfl⟩ | ⟨g, cap, cur, rfl, _, _, hc, _⟩
      · exact run_append_nothing w t t ty e i ht hi none 0 0 (Nat.le_refl _) v2 hs2
      · exact run_append_nothing w t t ty e i ht hi _ _ _ hc v2 hs2
    refine ⟨v, w, hr, ?_, ⟨rfl, rfl, rfl, Nat.le_refl _, fun _ _ _ => rfl⟩⟩
    simpa using hown
  · have hpos : 0 < ys.length := List.length_pos_iff.2 h0
    rcases hsl with ⟨_, h, _⟩ | ⟨b, off, c, rfl, _, hrow⟩
    · omega
    · obtain ⟨g, cap, w', hr, h2, h3, h4, h5⟩ := run_append_lies (P := P) w t ty B e i z k bytes ht hi hz hsize hby hzs hk v n (xs.flatMap f) hown ⟨b, off, none⟩ ys.length c (ys.flatMap f) (flat_len f k hfk ys) hrow.add
        (fun u hu => by obtain ⟨x, _, hx⟩ := List.mem_flatMap.1 hu; exact h1c x u hx) hpos h63 hbytes hB w.heap.size rfl
      refine ⟨_, w', hr, ?_, h3⟩
      rw [List.flatMap_append]
      exact h2
end Go.Proofs.Ytomekiidgdkmiaa
