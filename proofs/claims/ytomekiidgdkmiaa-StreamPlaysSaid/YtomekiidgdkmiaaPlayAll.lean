/-
  The law's play, whatever the call; a clone beside the two.
-/
import Derived.Test.YtomekiidgdkmiaaPlay3
import Derived.Test.YtomekiidgdkmiaaSame
namespace Go.Proofs.Ytomekiidgdkmiaa
open Go.RowKit
set_option linter.unusedVariables false
set_option linter.unusedSimpArgs false
theorem play_any {F : Nat → Prop} {w : World} {a b : Nat} {s : StV} {r : RfV} (o : ScV) (h : Duo F w a s b r) (hs : Sim s r) (hF : ∀ i, w.heap.size ≤ i → F i) (ho : o.okIn w) (hoF : ∀ g off, o.pA = some ⟨g, off, none⟩ → 0 < o.pn → ¬ F g) (hn2 : s.next ≤ 3000000000000000000) (hol : r.ops.length ≤ 2000000000000) :
    Calls Try.prog 26 #[.pointer (some ⟨a, 0, none⟩), .pointer (some ⟨b, 0, none⟩), .agg #[.int .i64 o.kind, .int .i64 o.time, .int .i64 o.key, .int .i64 o.val, .int .i64 o.op.seq, .int .i64 o.op.kind, .int .i64 o.op.time, .int .i64 o.op.key, .int .i64 o.op.val, .slice o.pA o.pn o.pc]] w (PlayEnd F a b s r w) := by
  by_cases k0 : o.kind = 0
  · exact play_sample o h hs hF ho hoF hn2 hol k0
  by_cases k1 : o.kind = 1
  · exact play_mark o h hs hF ho hoF hn2 hol k1
  by_cases k2 : o.kind = 2
  · exact play_put o h hs hF ho hoF hn2 hol k2
  by_cases k3 : o.kind = 3
  · have hl := ho.pls.len
    have hz := ho.pls.size
    have hrow := ho.pls.row
    have e : (plVals o.pls).length = o.pls.length * 2 := plVals_len _
    have hz2 : o.pls.length * 16 ≤ 140737488355328 := by
      have h2 : (plVals o.pls).length * 8 ≤ reachBytes := hz
      rw [e] at h2
      unfold reachBytes at h2
      omega
    rw [← hl]
    exact play_cut3 o.kind o.time o.key o.val o.op o.pA o.pc o.pls h hs hF hrow hz2 (fun g off e hp => hoF g off e (by omega)) k3
  · exact play_rep o h hs hF ho hoF hn2 hol k0 k1 k2 k3
theorem clone_d {F : Nat → Prop} {w : World} {a b : Nat} {s : StV} {r : RfV} (h : Duo F w a s b r) :
    Calls Try.prog 25 #[.pointer (some ⟨a, 0, none⟩)] w
      fun e w' => ∃ c, e = .returned (.pointer (some ⟨c, 0, none⟩)) ∧ SB w.heap.size w' c s ∧ (∀ G : Nat → Prop, (∀ k, w.heap.size ≤ k → G k) → (∀ k, F k → G k) → Duo G w' c s b r) ∧ Below w.heap.size w w' := by
  obtain ⟨h0, h1, vr, vs, vp, ur, uo, ug, up, h2⟩ := h
  have h3 := Nat.mul_le_mul h0.r3 (show s.shards.toNat ≤ 4 by have := h0.s4; omega)
  refine (clone_any a s vr vs vp w h2.st h0.sl (by rw [h0.pl]; omega)).mono ?_
  rintro e w' ⟨c, vs', vp', rfl, h4, h5, hb⟩
  refine ⟨c, rfl, ⟨h0, vr, vs', vp', h4, h5⟩, fun G hG hFG => ⟨h0, h1, vr, vs', vp', ur, uo, ug, up, h4, h2.rf.below hb, ?_, ?_, fun k hk => hG k (h5 k hk), fun k hk => hFG k (h2.rF k hk)⟩, hb⟩
  · intro g hg e
    have := h5 g (.inr (.inl hg))
    have := (h2.rf.ops.lt g e).2
    omega
  · intro g hg e
    have := h5 g (.inr (.inr hg))
    have := (h2.rf.pla.lt g e).2
    omega
/-- the clone's put of a mark -/
theorem clone_put {N : Nat} {c : Nat} {s : StV} {w : World} (h : SB N w c s) (hn2 : s.next ≤ 3000000000000000000) :
    Calls Try.prog 13 #[.pointer (some ⟨c, 0, none⟩), .agg #[.int .i64 s.next, .int .i64 2, .int .i64 4611686018427387904, .int .i64 0, .int .i64 0]] w
      fun e w' => ∃ v s', e = .returned v ∧ SB N w' c s' ∧ s'.res = s.res ∧ s'.shards = s.shards ∧ Below N w w' := by
  have hl := h.lt
  cases he : s.early 4611686018427387904
  · refine (put_mark_b s.next 4611686018427387904 h rfl he ⟨by decide, by decide⟩ (by omega)).mono ?_
    rintro e w' ⟨rfl, h3, hb⟩
    exact ⟨_, _, rfl, h3, rfl, rfl, hb⟩
  · obtain ⟨vr, vs, vp, h1⟩ := h.is
    refine (put_regress c s vr vs vp ⟨s.next, 2, 4611686018427387904, 0, 0⟩ w h1 rfl rfl he).mono ?_
    rintro e w' ⟨rfl, hb⟩
    exact ⟨_, s, rfl, h.below hb, rfl, rfl, hb.mono (by omega)⟩
end Go.Proofs.Ytomekiidgdkmiaa
