/-
  A stream and the document's side by side in memory, apart from one another; the contracts of their methods, each in one.
-/
import Derived.Test.YtomekiidgdkmiaaSim
import Derived.Test.YtomekiidgdkmiaaLaw14
namespace Go.Proofs.Ytomekiidgdkmiaa
open Go.RowKit
set_option linter.unusedVariables false
set_option linter.unusedSimpArgs false

structure DuoIs (F : Nat → Prop) (w : World) (a : Nat) (s : StV) (b : Nat) (r : RfV) (vr vs vp ur uo ug up : Value) : Prop where
  st : StIs w a s vr vs vp
  rf : RfIs w b r ur uo ug up
  so : ∀ g, vs.ownBlock = some g → uo.ownBlock ≠ some g
  po : ∀ g, vp.ownBlock = some g → up.ownBlock ≠ some g
  sF : ∀ k, foot a vs vp k → F k
  rF : ∀ k, rfoot b uo ug up k → F k
structure Duo (F : Nat → Prop) (w : World) (a : Nat) (s : StV) (b : Nat) (r : RfV) : Prop where
  sok : s.ok
  rok : r.ok
  ist : ∃ vr vs vp ur uo ug up, DuoIs F w a s b r vr vs vp ur uo ug up

section
variable {F : Nat → Prop} {w w' : World} {a b : Nat} {s : StV} {r : RfV} {vr vs vp ur uo ug up : Value}
theorem DuoIs.sr (h : DuoIs F w a s b r vr vs vp ur uo ug up) : ∀ k, foot a vs vp k → ¬ (rfoot b uo ug up k ∨ ur.ownBlock = some k) := by
  intro k hk hr
  have ba := h.st.blk
  have bb := h.rf.blk
  rcases hk with rfl | hk | hk
  · rcases hr with (rfl | hr | hr | hr) | hr
    · rw [ba] at bb; simp at bb
    · exact own_ne h.rf.ops ba (by decide) hr
    · exact own_ne h.rf.gone ba (by decide) hr
    · exact own_ne h.rf.pla ba (by decide) hr
    · exact own_ne h.rf.res ba (by decide) hr
  · rcases hr with (rfl | hr | hr | hr) | hr
    · exact own_ne h.st.sam bb (by decide) hk
    · exact h.so k hk hr
    · exact own_ne2 h.st.sam h.rf.gone (by decide) k hk hr
    · exact own_ne2 h.st.sam h.rf.pla (by decide) k hk hr
    · exact own_ne2 h.st.sam h.rf.res (by decide) k hk hr
  · rcases hr with (rfl | hr | hr | hr) | hr
    · exact own_ne h.st.pla bb (by decide) hk
    · exact own_ne2 h.st.pla h.rf.ops (by decide) k hk hr
    · exact own_ne2 h.st.pla h.rf.gone (by decide) k hk hr
    · exact h.po k hk hr
    · exact own_ne2 h.st.pla h.rf.res (by decide) k hk hr
theorem DuoIs.rs (h : DuoIs F w a s b r vr vs vp ur uo ug up) : ∀ k, rfoot b uo ug up k → ¬ (foot a vs vp k ∨ vr.ownBlock = some k) := by
  intro k hk hs
  rcases hs with hs | hs
  · exact h.sr k hs (.inl hk)
  · have bb := h.rf.blk
    rcases hk with rfl | hk | hk | hk
    · exact own_ne h.st.res bb (by decide) hs
    · exact own_ne2 h.st.res h.rf.ops (by decide) k hs hk
    · exact own_ne2 h.st.res h.rf.gone (by decide) k hs hk
    · exact own_ne2 h.st.res h.rf.pla (by decide) k hs hk
theorem rfoot_lt (h : RfIs w b r ur uo ug up) {k : Nat} (hk : rfoot b uo ug up k) : k < w.heap.size := by
  rcases hk with rfl | hk | hk | hk
  · exact h.lt
  · exact (h.ops.lt k hk).2
  · exact (h.gone.lt k hk).2
  · exact (h.pla.lt k hk).2
theorem DuoIs.below (h : DuoIs F w a s b r vr vs vp ur uo ug up) (hb : Below w.heap.size w w') : DuoIs F w' a s b r vr vs vp ur uo ug up :=
  ⟨h.st.below hb, h.rf.below hb, h.so, h.po, h.sF, h.rF⟩
theorem Duo.below (h : Duo F w a s b r) (hb : Below w.heap.size w w') : Duo F w' a s b r := by
  obtain ⟨h0, h1, vr, vs, vp, ur, uo, ug, up, h2⟩ := h
  exact ⟨h0, h1, vr, vs, vp, ur, uo, ug, up, h2.below hb⟩
/-- the blocks that may be written: as few as one likes of those that are yet to come, and no others than these -/
theorem Duo.mono {G : Nat → Prop} (h : Duo F w a s b r) (hG : ∀ k, k < w.heap.size → F k → G k) : Duo G w a s b r := by
  obtain ⟨h0, h1, vr, vs, vp, ur, uo, ug, up, h2⟩ := h
  exact ⟨h0, h1, vr, vs, vp, ur, uo, ug, up, h2.st, h2.rf, h2.so, h2.po, fun k hk => hG k (h2.st.foot_lt hk) (h2.sF k hk), fun k hk => hG k (rfoot_lt h2.rf hk) (h2.rF k hk)⟩
theorem DuoIs.sstep {s' : StV} {vs' : Value} (h : DuoIs F w a s b r vr vs vp ur uo ug up) (hF : ∀ i, w.heap.size ≤ i → F i) (h2 : StIs w' a s' vr vs' vp) (hk : Keeps (foot a vs vp) w w')
    (hn : ∀ k, vs'.ownBlock = some k → vs.ownBlock = some k ∨ w.heap.size ≤ k) : DuoIs F w' a s' b r vr vs' vp ur uo ug up := by
  refine ⟨h2, h.rf.keep hk (fun k hk hf => h.sr k hf hk), ?_, h.po, ?_, h.rF⟩
  · intro g hg e
    rcases hn g hg with h3 | h3
    · exact h.so g h3 e
    · have := (h.rf.ops.lt g e).2; omega
  · intro k hk
    rcases hk with hk | hk | hk
    · exact h.sF k (.inl hk)
    · rcases hn k hk with h3 | h3
      · exact h.sF k (.inr (.inl h3))
      · exact hF k h3
    · exact h.sF k (.inr (.inr hk))
theorem DuoIs.rstep {r' : RfV} {uo' ug' : Value} (h : DuoIs F w a s b r vr vs vp ur uo ug up) (hF : ∀ i, w.heap.size ≤ i → F i) (h2 : RfIs w' b r' ur uo' ug' up) (hk : Keeps (rfoot b uo ug up) w w')
    (hn : ∀ k, uo'.ownBlock = some k → uo.ownBlock = some k ∨ w.heap.size ≤ k) (hn2 : ∀ k, ug'.ownBlock = some k → ug.ownBlock = some k ∨ w.heap.size ≤ k) : DuoIs F w' a s b r' vr vs vp ur uo' ug' up := by
  refine ⟨h.st.keep hk (fun k hk hf => h.rs k hf hk), h2, ?_, h.po, h.sF, ?_⟩
  · intro g hg e
    rcases hn g e with h3 | h3
    · exact h.so g hg h3
    · have := (h.st.sam.lt g hg).2; omega
  · intro k hk
    rcases hk with hk | hk | hk | hk
    · exact h.rF k (.inl hk)
    · rcases hn k hk with h3 | h3
      · exact h.rF k (.inr (.inl h3))
      · exact hF k h3
    · rcases hn2 k hk with h3 | h3
      · exact h.rF k (.inr (.inr (.inl h3)))
      · exact hF k h3
    · exact h.rF k (.inr (.inr (.inr hk)))
end

/-! ### what is answered -/
def sampE (ea : Bool) (hold n : Int) : Int := if ea = true then 8 else if hold ≤ n then 10 else 0
def sampO (next : Int) (ea : Bool) (hold n t k x : Int) : OpV := if ea = true then OpV.zero else if hold ≤ n then OpV.zero else ⟨next, 1, t, k, x⟩
def markE (ea : Bool) : Int := if ea = true then 9 else 0
def markO (next : Int) (ea : Bool) (t : Int) : OpV := if ea = true then OpV.zero else ⟨next, 2, t, 0, 0⟩
def putE (next : Int) (ea : Bool) (o : OpV) : Int :=
  if o.seq ≠ next then 2 else if o.kind = 1 then (if ea = true then 8 else 0) else if o.kind = 2 then (if ea = true then 9 else if o.key ≠ 0 ∨ o.val ≠ 0 then 2 else 0) else 2
def putS (s : StV) (o : OpV) : StV := if putE s.next (s.early o.time) o = 0 then (if o.kind = 1 then sampled s o else marked s o) else s
def putR (r : RfV) (o : OpV) : RfV := if putE r.next (r.early o.time) o = 0 then rtook r o else r
def cutE (n m : Nat) : Int := if n = m then 0 else 2
def cutS (s : StV) (pl : List PlV) : StV := if pl.length = s.places.length then cutSt s pl else s
def cutQ (r : RfV) (pl : List PlV) : RfV := if pl.length = r.places.length then cutR r pl else r
def cutN (s : StV) (pl : List PlV) : Int := (s.samples.length : Int) - (cutS s pl).samples.length

def OpV.agg (o : OpV) : Value := .agg #[.int .i64 o.seq, .int .i64 o.kind, .int .i64 o.time, .int .i64 o.key, .int .i64 o.val]

section
variable {F : Nat → Prop} {w : World} {a b : Nat} {s : StV} {r : RfV}
theorem Duo.getS (h : Duo F w a s b r) : ∃ vr vs vp, StIs w a s vr vs vp := by
  obtain ⟨_, _, vr, vs, vp, _, _, _, _, h2⟩ := h; exact ⟨vr, vs, vp, h2.st⟩
theorem Duo.getR (h : Duo F w a s b r) : ∃ vr vo vg vp, RfIs w b r vr vo vg vp := by
  obtain ⟨_, _, _, _, _, vr, vo, vg, vp, h2⟩ := h; exact ⟨vr, vo, vg, vp, h2.rf⟩
theorem sample_d (h : Duo F w a s b r) (t k x : Int) :
    Calls Try.prog 12 #[.pointer (some ⟨a, 0, none⟩), .int .i64 t, .int .i64 k, .int .i64 x] w
      fun e w' => e = .returned (.tuple #[(sampO s.next (s.early t) s.hold s.samples.length t k x).agg, errV (sampE (s.early t) s.hold s.samples.length)]) ∧ Below w.heap.size w w' := by
  obtain ⟨vr, vs, vp, h1⟩ := h.getS
  unfold sampO sampE
  cases he : s.early t
  · rw [if_neg (show ¬ (false = true) by decide), if_neg (show ¬ (false = true) by decide)]
    by_cases hf : s.hold ≤ (s.samples.length : Int)
    · rw [if_pos hf, if_pos hf]; exact sample_full a s vr vs vp t k x w h1 he hf
    · rw [if_neg hf, if_neg hf]; exact sample_ok a s vr vs vp t k x w h1 he hf
  · rw [if_pos rfl, if_pos rfl]; exact sample_late a s vr vs vp t k x w h1 he
theorem rsample_d (h : Duo F w a s b r) (t k x : Int) :
    Calls Try.prog 48 #[.pointer (some ⟨b, 0, none⟩), .int .i64 t, .int .i64 k, .int .i64 x] w
      fun e w' => e = .returned (.tuple #[(sampO r.next (r.early t) r.hold (heldR r.ops r.gone).length t k x).agg, .int .i64 (sampE (r.early t) r.hold (heldR r.ops r.gone).length)]) ∧ Below w.heap.size w w' := by
  obtain ⟨vr, vo, vg, vp, h1⟩ := h.getR
  unfold sampO sampE
  cases he : r.early t
  · rw [if_neg (show ¬ (false = true) by decide), if_neg (show ¬ (false = true) by decide)]
    by_cases hf : r.hold ≤ ((heldR r.ops r.gone).length : Int)
    · rw [if_pos hf, if_pos hf]; exact rsample_full b r vr vo vg vp t k x w h1 h.rok he hf
    · rw [if_neg hf, if_neg hf]; exact rsample_ok b r vr vo vg vp t k x w h1 h.rok he hf
  · rw [if_pos rfl, if_pos rfl]; exact rsample_late b r vr vo vg vp t k x w h1 h.rok he
theorem mark_d (h : Duo F w a s b r) (t : Int) :
    Calls Try.prog 20 #[.pointer (some ⟨a, 0, none⟩), .int .i64 t] w
      fun e w' => e = .returned (.tuple #[(markO s.next (s.early t) t).agg, errV (markE (s.early t))]) ∧ Below w.heap.size w w' := by
  obtain ⟨vr, vs, vp, h1⟩ := h.getS
  unfold markO markE
  cases he : s.early t
  · rw [if_neg (show ¬ (false = true) by decide), if_neg (show ¬ (false = true) by decide)]; exact mark_ok a s vr vs vp t w h1 he
  · rw [if_pos rfl, if_pos rfl]; exact mark_back a s vr vs vp t w h1 he
theorem rmark_d (h : Duo F w a s b r) (t : Int) :
    Calls Try.prog 49 #[.pointer (some ⟨b, 0, none⟩), .int .i64 t] w
      fun e w' => e = .returned (.tuple #[(markO r.next (r.early t) t).agg, .int .i64 (markE (r.early t))]) ∧ Below w.heap.size w w' := by
  obtain ⟨vr, vo, vg, vp, h1⟩ := h.getR
  unfold markO markE
  cases he : r.early t
  · rw [if_neg (show ¬ (false = true) by decide), if_neg (show ¬ (false = true) by decide)]; exact rmark_ok b r vr vo vg vp t w h1 h.rok he
  · rw [if_pos rfl, if_pos rfl]; exact rmark_back b r vr vo vg vp t w h1 h.rok he

theorem put_d (h : Duo F w a s b r) (hF : ∀ i, w.heap.size ≤ i → F i) (o : OpV) (hn2 : s.next ≤ 4000000000000000000) (hsl : s.samples.length ≤ 2000000000000) (ho : I64 o.time) :
    Calls Try.prog 13 #[.pointer (some ⟨a, 0, none⟩), o.agg] w
      fun e w' => e = .returned (errV (putE s.next (s.early o.time) o)) ∧ Duo F w' a (putS s o) b r ∧ Keeps F w w' := by
  obtain ⟨h0, hr, vr, vs, vp, ur, uo, ug, up, h1⟩ := h
  have hD : ∀ w', Below w.heap.size w w' → Duo F w' a s b r ∧ Keeps F w w' := fun w' hb => ⟨⟨h0, hr, vr, vs, vp, ur, uo, ug, up, h1.below hb⟩, Keeps.of_below hb F (fun i hi h2 => by omega)⟩
  unfold putS putE
  by_cases hq : o.seq = s.next
  · rw [if_neg (by simpa using hq)]
    have hn1 := h0.n1
    by_cases k1 : o.kind = 1
    · rw [if_pos k1, if_pos k1]
      cases he : s.early o.time
      · rw [if_neg (show ¬ (false = true) by decide), if_pos rfl]
        refine (put_sample a s vr vs vp o w h1.st hq k1 he hn1 (by omega) (by omega)).mono ?_
        rintro e w' ⟨rfl, vs', h3, hk, h5⟩
        refine ⟨rfl, ⟨{ h0 with n1 := by show 1 ≤ s.next + 1; omega, n2 := by show s.next + 1 ≤ 4611686018427387904; omega, sl := (by show (s.samples ++ [_]).length ≤ 3000000000000; rw [List.length_append]; simp; omega), st := ?_ }, hr, vr, vs', vp, ur, uo, ug, up, h1.sstep hF h3 (hk.mono (fun i _ hi => hi.elim .inl (fun h => .inr (.inl h)))) h5⟩, hk.mono (fun i _ hi => h1.sF i (hi.elim .inl (fun h => .inr (.inl h))))⟩
        intro y hy
        rcases List.mem_append.1 hy with hy | hy
        · exact h0.st y hy
        · rw [List.mem_singleton.1 hy]; exact ho
      · rw [if_pos rfl, if_neg (by decide)]
        refine (put_late a s vr vs vp o w h1.st hq k1 he).mono ?_
        rintro e w' ⟨rfl, hb⟩
        exact ⟨rfl, hD w' hb⟩
    · rw [if_neg k1, if_neg k1]
      by_cases k2 : o.kind = 2
      · rw [if_pos k2]
        cases he : s.early o.time
        · rw [if_neg (show ¬ (false = true) by decide)]
          by_cases hz : o.key ≠ 0 ∨ o.val ≠ 0
          · rw [if_pos hz, if_neg (by decide)]
            refine (put_markform a s vr vs vp o w h1.st hq k2 he hz).mono ?_
            rintro e w' ⟨rfl, hb⟩
            exact ⟨rfl, hD w' hb⟩
          · rw [if_neg hz, if_pos rfl]
            refine (put_mark a s vr vs vp o w h1.st hq k2 he (by omega) (by omega) hn1 (by omega)).mono ?_
            rintro e w' ⟨rfl, h3, hk⟩
            exact ⟨rfl, ⟨{ h0 with n1 := by show 1 ≤ s.next + 1; omega, n2 := by show s.next + 1 ≤ 4611686018427387904; omega, mt := ho }, hr, vr, vs, vp, ur, uo, ug, up, h1.sstep hF h3 (hk.mono (fun i _ hi => .inl hi)) (fun k hk => .inl hk)⟩, hk.mono (fun i _ hi => h1.sF i (.inl hi))⟩
        · rw [if_pos rfl, if_neg (by decide)]
          refine (put_regress a s vr vs vp o w h1.st hq k2 he).mono ?_
          rintro e w' ⟨rfl, hb⟩
          exact ⟨rfl, hD w' hb⟩
      · rw [if_neg k2, if_neg (by decide)]
        refine (put_kind a s vr vs vp o w h1.st hq k1 k2).mono ?_
        rintro e w' ⟨rfl, hb⟩
        exact ⟨rfl, hD w' hb⟩
  · rw [if_pos hq, if_neg (by decide)]
    refine (put_seq a s vr vs vp o w h1.st hq).mono ?_
    rintro e w' ⟨rfl, hb⟩
    exact ⟨rfl, hD w' hb⟩
theorem rtook_ok {r : RfV} (h : r.ok) (o : OpV) (ho : I64 o.time) (ho2 : I64 o.key) (hn : r.next ≤ 4000000000000000000) (hl : r.ops.length ≤ 2000000000000) : (rtook r o).ok :=
  { h with
    n1 := by show 1 ≤ r.next + 1; have := h.n1; omega
    n2 := by show r.next + 1 ≤ 4611686018427387904; omega
    ol := by show (r.ops ++ [o]).length ≤ 3000000000000; rw [List.length_append]; simp; omega
    gl := by show (r.gone ++ [false]).length = (r.ops ++ [o]).length; simp [h.gl]
    st := by
      intro y hy
      rcases List.mem_append.1 hy with hy | hy
      · exact h.st y hy
      · rw [List.mem_singleton.1 hy]; exact ⟨ho, ho2⟩ }
theorem rput_d (h : Duo F w a s b r) (hF : ∀ i, w.heap.size ≤ i → F i) (o : OpV) (hn2 : r.next ≤ 4000000000000000000) (hsl : r.ops.length ≤ 2000000000000) (ho : I64 o.time) (ho2 : I64 o.key) :
    Calls Try.prog 50 #[.pointer (some ⟨b, 0, none⟩), o.agg] w
      fun e w' => e = .returned (.int .i64 (putE r.next (r.early o.time) o)) ∧ Duo F w' a s b (putR r o) ∧ Keeps F w w' := by
  obtain ⟨h0, hr, vr, vs, vp, ur, uo, ug, up, h1⟩ := h
  have hD : ∀ w', Below w.heap.size w w' → Duo F w' a s b r ∧ Keeps F w w' := fun w' hb => ⟨⟨h0, hr, vr, vs, vp, ur, uo, ug, up, h1.below hb⟩, Keeps.of_below hb F (fun i hi h2 => by omega)⟩
  unfold putR putE
  by_cases hq : o.seq = r.next
  · rw [if_neg (by simpa using hq)]
    by_cases k1 : o.kind = 1
    · rw [if_pos k1]
      cases he : r.early o.time
      · rw [if_neg (show ¬ (false = true) by decide), if_pos rfl]
        refine (rput_sample b r ur uo ug up o w h1.rf hr hsl hn2 hq k1 he).mono ?_
        rintro e w' ⟨rfl, uo', ug', h3, hk, h5, h6⟩
        exact ⟨rfl, ⟨h0, rtook_ok hr o ho ho2 hn2 hsl, vr, vs, vp, ur, uo', ug', up, h1.rstep hF h3 (hk.mono (fun i _ hi => hi.elim .inl (fun h => .inr (h.elim .inl (fun h => .inr (.inl h)))))) h5 h6⟩, hk.mono (fun i _ hi => h1.rF i (hi.elim .inl (fun h => .inr (h.elim .inl (fun h => .inr (.inl h))))))⟩
      · rw [if_pos rfl, if_neg (by decide)]
        refine (rput_late b r ur uo ug up o w h1.rf hr hq k1 he).mono ?_
        rintro e w' ⟨rfl, hb⟩
        exact ⟨rfl, hD w' hb⟩
    · rw [if_neg k1]
      by_cases k2 : o.kind = 2
      · rw [if_pos k2]
        cases he : r.early o.time
        · rw [if_neg (show ¬ (false = true) by decide)]
          by_cases hz : o.key ≠ 0 ∨ o.val ≠ 0
          · rw [if_pos hz, if_neg (by decide)]
            refine (rput_markform b r ur uo ug up o w h1.rf hr hq k2 he hz).mono ?_
            rintro e w' ⟨rfl, hb⟩
            exact ⟨rfl, hD w' hb⟩
          · rw [if_neg hz, if_pos rfl]
            refine (rput_mark b r ur uo ug up o w h1.rf hr hsl hn2 hq k2 he (by omega) (by omega)).mono ?_
            rintro e w' ⟨rfl, uo', ug', h3, hk, h5, h6⟩
            exact ⟨rfl, ⟨h0, rtook_ok hr o ho ho2 hn2 hsl, vr, vs, vp, ur, uo', ug', up, h1.rstep hF h3 (hk.mono (fun i _ hi => hi.elim .inl (fun h => .inr (h.elim .inl (fun h => .inr (.inl h)))))) h5 h6⟩, hk.mono (fun i _ hi => h1.rF i (hi.elim .inl (fun h => .inr (h.elim .inl (fun h => .inr (.inl h))))))⟩
        · rw [if_pos rfl, if_neg (by decide)]
          refine (rput_back b r ur uo ug up o w h1.rf hr hq k2 he).mono ?_
          rintro e w' ⟨rfl, hb⟩
          exact ⟨rfl, hD w' hb⟩
      · rw [if_neg k2, if_neg (by decide)]
        refine (rput_kind b r ur uo ug up o w h1.rf hq k1 k2).mono ?_
        rintro e w' ⟨rfl, hb⟩
        exact ⟨rfl, hD w' hb⟩
  · rw [if_pos hq, if_neg (by decide)]
    refine (rput_seq b r ur uo ug up o w h1.rf hq).mono ?_
    rintro e w' ⟨rfl, hb⟩
    exact ⟨rfl, hD w' hb⟩
end
theorem Sim.put {s : StV} {r : RfV} (h : Sim s r) (o : OpV) (hn : 1 ≤ s.next) : Sim (putS s o) (putR r o) ∧ putE r.next (r.early o.time) o = putE s.next (s.early o.time) o := by
  have e : putE r.next (r.early o.time) o = putE s.next (s.early o.time) o := by rw [h.nx, h.early]
  refine ⟨?_, e⟩
  unfold putS putR
  rw [e]
  by_cases h0 : putE s.next (s.early o.time) o = 0
  · rw [if_pos h0, if_pos h0]
    unfold putE at h0
    by_cases hq : o.seq = s.next
    · rw [if_neg (by simpa using hq)] at h0
      by_cases k1 : o.kind = 1
      · rw [if_pos k1]; exact h.sample o hq k1 hn
      · rw [if_neg k1] at h0 ⊢
        by_cases k2 : o.kind = 2
        · rw [if_pos k2] at h0
          by_cases he : s.early o.time = true
          · rw [if_pos he] at h0; omega
          · rw [if_neg he] at h0
            by_cases hz : o.key ≠ 0 ∨ o.val ≠ 0
            · rw [if_pos hz] at h0; omega
            · exact h.marked o hq k2 (by omega) (by omega) hn
        · rw [if_neg k2] at h0; omega
    · rw [if_pos hq] at h0; omega
  · rw [if_neg h0, if_neg h0]; exact h
end Go.Proofs.Ytomekiidgdkmiaa
