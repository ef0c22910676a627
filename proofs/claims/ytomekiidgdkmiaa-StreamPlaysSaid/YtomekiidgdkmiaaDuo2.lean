/-
  Cut, Replay, Last .. of a stream and the document's side by side.
-/
import Derived.Test.YtomekiidgdkmiaaDuo
namespace Go.Proofs.Ytomekiidgdkmiaa
open Go.RowKit
set_option linter.unusedVariables false
set_option linter.unusedSimpArgs false

def cutM (r : RfV) (pl : List PlV) : Int := ((heldR r.ops r.gone).length : Int) - (heldR (cutQ r pl).ops (cutQ r pl).gone).length
section
variable {F : Nat → Prop} {w : World} {a b : Nat} {s : StV} {r : RfV}
theorem sl_at {w : World} {A : Option Addr} {pls : List PlV} {c : Nat} (hp : 0 < pls.length → SlAt w (.slice A pls.length c) pls.length (plVals pls)) (h : 0 < pls.length) :
    ∃ g off, A = some ⟨g, off, none⟩ ∧ g < w.heap.size ∧ RowAt w g off (plVals pls) := sl_row (hp h) h
theorem cut_d (h : Duo F w a s b r) (hF : ∀ i, w.heap.size ≤ i → F i) (pls : List PlV) (A : Option Addr) (c : Nat) (hp : 0 < pls.length → SlAt w (.slice A pls.length c) pls.length (plVals pls))
    (hnF : ∀ g off, A = some ⟨g, off, none⟩ → 0 < pls.length → ¬ F g) (hn : pls.length ≤ 9223372036854775807) :
    Calls Try.prog 15 #[.pointer (some ⟨a, 0, none⟩), .slice A pls.length c] w
      fun e w' => e = .returned (.tuple #[.int .i64 (cutN s pls), errV (cutE pls.length s.places.length)]) ∧ Duo F w' a (cutS s pls) b r ∧ Keeps F w w' := by
  obtain ⟨h0, hr, vr, vs, vp, ur, uo, ug, up, h1⟩ := h
  unfold cutN cutS cutE
  by_cases hl : pls.length = s.places.length
  · rw [if_pos hl, if_pos hl]
    have hpos : 0 < pls.length := by
      rw [hl, h0.pl]
      have := Nat.mul_le_mul h0.r1 (show 1 ≤ s.shards.toNat by have := h0.s1; omega)
      omega
    obtain ⟨g, off, rfl, hg, hrow⟩ := sl_at hp hpos
    refine (cut_ok a s vr vs vp pls g off c w h1.st h0 (by rw [hl, h0.pl]) hrow (fun e => hnF g off rfl hpos (h1.sF g (.inr (.inr e))))).mono ?_
    rintro e w' ⟨rfl, vs', h3, h4, hk⟩
    refine ⟨rfl, ⟨{ h0 with pl := ?_, sl := ?_, st := ?_ }, hr, vr, vs', vp, ur, uo, ug, up, h1.sstep hF h3 hk (fun k hk => .inl (by rw [← h4]; exact hk))⟩, hk.mono (fun i _ hi => h1.sF i hi)⟩
    · show (raiseP s.places pls).length = _
      rw [raiseP_len]; exact h0.pl
    · exact Nat.le_trans (List.length_filter_le _ _) h0.sl
    · intro o ho
      exact h0.st o (List.mem_filter.1 ho).1
  · rw [if_neg hl, if_neg hl, Int.sub_self]
    refine (cut_bad a s vr vs vp A pls.length c w h1.st h0 (by rw [← h0.pl]; exact hl) hn).mono ?_
    rintro e w' ⟨rfl, hb⟩
    exact ⟨rfl, ⟨h0, hr, vr, vs, vp, ur, uo, ug, up, h1.below hb⟩, Keeps.of_below hb F (fun i hi h2 => by omega)⟩
theorem rcut_d (h : Duo F w a s b r) (hF : ∀ i, w.heap.size ≤ i → F i) (pls : List PlV) (A : Option Addr) (c : Nat) (hp : 0 < pls.length → SlAt w (.slice A pls.length c) pls.length (plVals pls))
    (hnF : ∀ g off, A = some ⟨g, off, none⟩ → 0 < pls.length → ¬ F g) (hn : pls.length ≤ 9223372036854775807) :
    Calls Try.prog 51 #[.pointer (some ⟨b, 0, none⟩), .slice A pls.length c] w
      fun e w' => e = .returned (.tuple #[.int .i64 (cutM r pls), .int .i64 (cutE pls.length r.places.length)]) ∧ Duo F w' a s b (cutQ r pls) ∧ Keeps F w w' := by
  obtain ⟨h0, hr, vr, vs, vp, ur, uo, ug, up, h1⟩ := h
  unfold cutM cutQ cutE
  by_cases hl : pls.length = r.places.length
  · rw [if_pos hl, if_pos hl]
    have hpos : 0 < pls.length := by
      rw [hl, hr.pl]
      have := Nat.mul_le_mul hr.r1 (show 1 ≤ r.shards.toNat by have := hr.s1; omega)
      omega
    obtain ⟨g, off, rfl, hg, hrow⟩ := sl_at hp hpos
    have hnf := hnF g off rfl hpos
    refine (rcut_ok b r ur uo ug up pls g off c w h1.rf hr hl hrow (fun e => hnf (h1.rF g (.inr (.inr (.inr e))))) (fun e => hnf (h1.rF g (.inr (.inr (.inl e)))))).mono ?_
    rintro e w' ⟨rfl, h3, hk⟩
    have hk2 : Keeps (rfoot b uo ug up) w w' := hk.mono (fun i _ hi => hi.elim (fun h => .inr (.inr (.inl h))) (fun h => .inr (.inr (.inr h))))
    refine ⟨rfl, ⟨h0, { hr with pl := ?_, gl := ?_ }, vr, vs, vp, ur, uo, ug, up, h1.rstep hF h3 hk2 (fun k hk => .inl hk) (fun k hk => .inl hk)⟩, hk2.mono (fun i _ hi => h1.rF i hi)⟩
    · show (raiseP r.places pls).length = _
      rw [raiseP_len]; exact hr.pl
    · show (goneC _ _ _).length = _
      rw [goneC_len]; exact hr.gl
  · rw [if_neg hl, if_neg hl, Int.sub_self]
    refine (rcut_bad b r ur uo ug up A pls.length c w h1.rf hl hn).mono ?_
    rintro e w' ⟨rfl, hb⟩
    exact ⟨rfl, ⟨h0, hr, vr, vs, vp, ur, uo, ug, up, h1.below hb⟩, Keeps.of_below hb F (fun i hi h2 => by omega)⟩
theorem replay_d (h : Duo F w a s b r) (from_ most : Int) (hl : s.samples.length ≤ 2000000000000) (hf : Fine s) :
    Calls Try.prog 22 #[.pointer (some ⟨a, 0, none⟩), .int .i64 from_, .int .i64 most] w
      fun e w' => ∃ v, e = .returned (.tuple #[v, .int .i64 (repN s from_ most)]) ∧ SlAt w' v (repL s from_ most).length (opVals (repL s from_ most)) ∧ Below w.heap.size w w' := by
  obtain ⟨vr, vs, vp, h1⟩ := h.getS
  exact replay_any a s vr vs vp from_ most w h1 hl (hf.rising h.sok.n2) h.sok.n1 h.sok.n2
theorem rreplay_d (h : Duo F w a s b r) (from_ most : Int) :
    Calls Try.prog 52 #[.pointer (some ⟨b, 0, none⟩), .int .i64 from_, .int .i64 most] w
      fun e w' => ∃ v, e = .returned (.tuple #[v, .int .i64 (rrepN r from_ most)]) ∧ SlAt w' v (rrepL r from_ most).length (opVals (rrepL r from_ most)) ∧ Below w.heap.size w w' := by
  obtain ⟨vr, vo, vg, vp, h1⟩ := h.getR
  exact rreplay_any b r vr vo vg vp from_ most w h1 h.rok
def lastT (m : OpV) : Int := if m.seq = 0 then 0 else m.time
theorem last_d (h : Duo F w a s b r) :
    Calls Try.prog 21 #[.pointer (some ⟨a, 0, none⟩)] w
      fun e w' => e = .returned (.tuple #[.int .i64 s.mark.seq, .int .i64 (lastT s.mark), .bool (decide (s.mark.seq ≠ 0))]) ∧ Below w.heap.size w w' := by
  obtain ⟨vr, vs, vp, h1⟩ := h.getS
  unfold lastT
  by_cases hm : s.mark.seq = 0
  · rw [if_pos hm, hm]; exact last_none a s vr vs vp w h1 hm
  · rw [if_neg hm, decide_eq_true hm]; exact last_some a s vr vs vp w h1 hm
theorem rlast_d (h : Duo F w a s b r) :
    Calls Try.prog 53 #[.pointer (some ⟨b, 0, none⟩)] w
      fun e w' => e = .returned (.tuple #[(mop (lastM r.ops)).agg, .bool (lastM r.ops).isSome]) ∧ Below w.heap.size w w' := by
  obtain ⟨vr, vo, vg, vp, h1⟩ := h.getR
  exact rlast_any b r vr vo vg vp w h1 h.rok.ol
theorem next_d (h : Duo F w a s b r) :
    Calls Try.prog 19 #[.pointer (some ⟨a, 0, none⟩)] w fun e w' => e = .returned (.int .i64 s.next) ∧ w = w' := by
  obtain ⟨vr, vs, vp, h1⟩ := h.getS
  exact next_any a s vr vs vp w h1
theorem held_d (h : Duo F w a s b r) :
    Calls Try.prog 14 #[.pointer (some ⟨a, 0, none⟩)] w
      (SomeV fun v' w' => w'.ownsRow w.heap.size 34 5 v' s.samples.length (opVals s.samples) ∧ Below w.heap.size w w') := by
  obtain ⟨vr, vs, vp, h1⟩ := h.getS
  exact held_any a s vr vs vp w h1 h.sok.sl
theorem rheld_d (h : Duo F w a s b r) :
    Calls Try.prog 54 #[.pointer (some ⟨b, 0, none⟩)] w
      (SomeV fun v w' => w'.ownsRow w.heap.size 34 5 v (heldR r.ops r.gone).length (opVals (heldR r.ops r.gone)) ∧ Below w.heap.size w w') := by
  obtain ⟨vr, vo, vg, vp, h1⟩ := h.getR
  exact rheld_any b r vr vo vg vp w h1 h.rok.ol h.rok.gl
theorem places_d (h : Duo F w a s b r) :
    Calls Try.prog 31 #[.pointer (some ⟨a, 0, none⟩)] w
      (SomeV fun v' w' => w'.ownsRow w.heap.size 49 2 v' s.places.length (plVals s.places) ∧ Below w.heap.size w w') := by
  obtain ⟨vr, vs, vp, h1⟩ := h.getS
  refine places_any a s vr vs vp w h1 ?_
  have h2 := Nat.mul_le_mul h.sok.r3 (show s.shards.toNat ≤ 4 by have := h.sok.s4; omega)
  rw [h.sok.pl]; omega
end
theorem Sim.cutS {s : StV} {r : RfV} (h : Sim s r) (pl : List PlV) : Sim (cutS s pl) (cutQ r pl) ∧ cutM r pl = cutN s pl ∧ cutE pl.length r.places.length = cutE pl.length s.places.length := by
  have h1 : Sim (Go.Proofs.Ytomekiidgdkmiaa.cutS s pl) (cutQ r pl) := by
    unfold Go.Proofs.Ytomekiidgdkmiaa.cutS cutQ
    rw [h.pl]
    by_cases hl : pl.length = s.places.length
    · rw [if_pos hl, if_pos hl]; exact h.cut pl
    · rw [if_neg hl, if_neg hl]; exact h
  refine ⟨h1, ?_, by rw [h.pl]⟩
  unfold cutM cutN
  rw [h1.he, h.he]
end Go.Proofs.Ytomekiidgdkmiaa
