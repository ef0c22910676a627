/-
  A stream whose memory lies at or above a block B: the contracts of its methods in that spelling.
-/
import Derived.Test.YtomekiidgdkmiaaStmPut
import Derived.Test.YtomekiidgdkmiaaStmGet
import Derived.Test.YtomekiidgdkmiaaStmBad
import Derived.Test.YtomekiidgdkmiaaStmCut2
import Derived.Test.YtomekiidgdkmiaaStmAll
import Derived.Test.YtomekiidgdkmiaaStmReplay
namespace Go.Proofs.Ytomekiidgdkmiaa
open Go.RowKit
set_option linter.unusedVariables false
set_option linter.unusedSimpArgs false

def SB (B : Nat) (w : World) (a : Nat) (s : StV) : Prop := Stm w a s (fun k => B ≤ k)
theorem SB.ok {B : Nat} {w : World} {a : Nat} {s : StV} (h : SB B w a s) : s.ok := h.1
theorem SB.is {B : Nat} {w : World} {a : Nat} {s : StV} (h : SB B w a s) : ∃ vr vs vp, StIs w a s vr vs vp := by
  obtain ⟨_, vr, vs, vp, h1, _⟩ := h; exact ⟨vr, vs, vp, h1⟩
theorem SB.below {B : Nat} {w w' : World} {a : Nat} {s : StV} (h : SB B w a s) (hb : Below w.heap.size w w') : SB B w' a s := Stm.below h hb
theorem SB.keep {B B2 : Nat} {w w' : World} {a : Nat} {s : StV} (h : SB B w a s) (hb : Below B2 w w') (hB : w.heap.size ≤ B2) : SB B w' a s := h.below (hb.mono hB)

theorem sample_late_b {B : Nat} {a : Nat} {s : StV} {w : World} (t k x : Int) (h : SB B w a s) (he : s.early t = true) :
    Calls Try.prog 12 #[.pointer (some ⟨a, 0, none⟩), .int .i64 t, .int .i64 k, .int .i64 x] w
      fun e w' => e = .returned (.tuple #[.agg #[.int .i64 0, .int .i64 0, .int .i64 0, .int .i64 0, .int .i64 0], .iface 44 (.int .i64 8)]) ∧ Below w.heap.size w w' := by
  obtain ⟨vr, vs, vp, h1⟩ := h.is
  exact sample_late a s vr vs vp t k x w h1 he
theorem sample_full_b {B : Nat} {a : Nat} {s : StV} {w : World} (t k x : Int) (h : SB B w a s) (he : s.early t = false) (hf : s.hold ≤ s.samples.length) :
    Calls Try.prog 12 #[.pointer (some ⟨a, 0, none⟩), .int .i64 t, .int .i64 k, .int .i64 x] w
      fun e w' => e = .returned (.tuple #[.agg #[.int .i64 0, .int .i64 0, .int .i64 0, .int .i64 0, .int .i64 0], .iface 44 (.int .i64 10)]) ∧ Below w.heap.size w w' := by
  obtain ⟨vr, vs, vp, h1⟩ := h.is
  exact sample_full a s vr vs vp t k x w h1 he hf
theorem sample_ok_b {B : Nat} {a : Nat} {s : StV} {w : World} (t k x : Int) (h : SB B w a s) (he : s.early t = false) (hf : ¬ s.hold ≤ s.samples.length) :
    Calls Try.prog 12 #[.pointer (some ⟨a, 0, none⟩), .int .i64 t, .int .i64 k, .int .i64 x] w
      fun e w' => e = .returned (.tuple #[.agg #[.int .i64 s.next, .int .i64 1, .int .i64 t, .int .i64 k, .int .i64 x], .nilIface]) ∧ Below w.heap.size w w' := by
  obtain ⟨vr, vs, vp, h1⟩ := h.is
  exact sample_ok a s vr vs vp t k x w h1 he hf
theorem mark_back_b {B : Nat} {a : Nat} {s : StV} {w : World} (t : Int) (h : SB B w a s) (he : s.early t = true) :
    Calls Try.prog 20 #[.pointer (some ⟨a, 0, none⟩), .int .i64 t] w
      fun e w' => e = .returned (.tuple #[.agg #[.int .i64 0, .int .i64 0, .int .i64 0, .int .i64 0, .int .i64 0], .iface 44 (.int .i64 9)]) ∧ Below w.heap.size w w' := by
  obtain ⟨vr, vs, vp, h1⟩ := h.is
  exact mark_back a s vr vs vp t w h1 he
theorem mark_ok_b {B : Nat} {a : Nat} {s : StV} {w : World} (t : Int) (h : SB B w a s) (he : s.early t = false) :
    Calls Try.prog 20 #[.pointer (some ⟨a, 0, none⟩), .int .i64 t] w
      fun e w' => e = .returned (.tuple #[.agg #[.int .i64 s.next, .int .i64 2, .int .i64 t, .int .i64 0, .int .i64 0], .nilIface]) ∧ Below w.heap.size w w' := by
  obtain ⟨vr, vs, vp, h1⟩ := h.is
  exact mark_ok a s vr vs vp t w h1 he

/-- a stream that took a mark, a sample -/
def marked (s : StV) (o : OpV) : StV := { s with mark := o, next := s.next + 1 }
def sampled (s : StV) (o : OpV) : StV := { s with samples := s.samples ++ [o], next := s.next + 1 }

theorem StIs.foot_lt {w : World} {a : Nat} {s : StV} {vr vs vp : Value} (h : StIs w a s vr vs vp) {k : Nat} (hk : foot a vs vp k) : k < w.heap.size := by
  rcases hk with rfl | hk | hk
  · exact h.lt
  · exact (h.sam.lt k hk).2
  · exact (h.pla.lt k hk).2
theorem Stm.to {w w' : World} {a : Nat} {s : StV} {F G : Nat → Prop} (h : Stm w a s F) (hb : Below w.heap.size w w') (hG : ∀ k, k < w.heap.size → F k → G k) : Stm w' a s G := by
  obtain ⟨h0, vr, vs, vp, h1, h2⟩ := h
  exact ⟨h0, vr, vs, vp, h1.below hb, fun k hk => hG k (h1.foot_lt hk) (h2 k hk)⟩
theorem put_mark_f {F : Nat → Prop} {a : Nat} {s : StV} {w : World} (q t : Int) (h : Stm w a s F) (hq : q = s.next) (he : s.early t = false) (ht : I64 t) (hn2 : s.next ≤ 4000000000000000000) :
    Calls Try.prog 13 #[.pointer (some ⟨a, 0, none⟩), .agg #[.int .i64 q, .int .i64 2, .int .i64 t, .int .i64 0, .int .i64 0]] w
      fun e w' => e = .returned .nilIface ∧ Stm w' a (marked s ⟨q, 2, t, 0, 0⟩) F ∧ Keeps F w w' := by
  obtain ⟨h0, vr, vs, vp, h1, h2⟩ := h
  have hn1 := h0.n1
  refine (put_mark a s vr vs vp ⟨q, 2, t, 0, 0⟩ w h1 hq rfl he rfl rfl hn1 (by omega)).mono ?_
  rintro e w' ⟨rfl, h3, hk⟩
  refine ⟨rfl, ⟨{ h0 with n1 := by show 1 ≤ s.next + 1; omega, n2 := by show s.next + 1 ≤ 4611686018427387904; omega, mt := ht }, vr, vs, vp, h3, h2⟩, hk.mono (fun i _ hi => ?_)⟩
  exact h2 i (.inl hi)
theorem put_sample_f {F : Nat → Prop} {a : Nat} {s : StV} {w : World} (q t k x : Int) (h : Stm w a s F) (hF : ∀ i, w.heap.size ≤ i → F i) (hq : q = s.next) (he : s.early t = false) (ht : I64 t) (hn2 : s.next ≤ 4000000000000000000) (hsl : s.samples.length ≤ 2000000000000) :
    Calls Try.prog 13 #[.pointer (some ⟨a, 0, none⟩), .agg #[.int .i64 q, .int .i64 1, .int .i64 t, .int .i64 k, .int .i64 x]] w
      fun e w' => e = .returned .nilIface ∧ Stm w' a (sampled s ⟨q, 1, t, k, x⟩) F ∧ Keeps F w w' := by
  obtain ⟨h0, vr, vs, vp, h1, h2⟩ := h
  have hn1 := h0.n1
  refine (put_sample a s vr vs vp ⟨q, 1, t, k, x⟩ w h1 hq rfl he hn1 (by omega) (by omega)).mono ?_
  rintro e w' ⟨rfl, vs', h3, hk, h5⟩
  refine ⟨rfl, ⟨{ h0 with n1 := by show 1 ≤ s.next + 1; omega, n2 := by show s.next + 1 ≤ 4611686018427387904; omega, sl := (by show (s.samples ++ [_]).length ≤ 3000000000000; rw [List.length_append]; simp; omega), st := ?_ }, vr, vs', vp, h3, ?_⟩, hk.mono (fun i _ hi => ?_)⟩
  · intro o ho
    rcases List.mem_append.1 ho with ho | ho
    · exact h0.st o ho
    · rw [List.mem_singleton.1 ho]; exact ht
  · intro i hi
    rcases hi with hi | hi | hi
    · exact h2 i (.inl hi)
    · rcases h5 i hi with h | h
      · exact h2 i (.inr (.inl h))
      · exact hF i h
    · exact h2 i (.inr (.inr hi))
  · rcases hi with hi | hi
    · exact h2 i (.inl hi)
    · exact h2 i (.inr (.inl hi))
theorem SB.lt {B : Nat} {w : World} {a : Nat} {s : StV} (h : SB B w a s) : B ≤ a ∧ a < w.heap.size := by
  obtain ⟨_, vr, vs, vp, h1, h2⟩ := h; exact ⟨h2 a (.inl rfl), h1.lt⟩
theorem SB.down {B B' : Nat} {w : World} {a : Nat} {s : StV} (h : SB B w a s) (hB : B' ≤ B) : SB B' w a s := by
  obtain ⟨h0, vr, vs, vp, h1, h2⟩ := h; exact ⟨h0, vr, vs, vp, h1, fun k hk => Nat.le_trans hB (h2 k hk)⟩
theorem put_mark_b {B : Nat} {a : Nat} {s : StV} {w : World} (q t : Int) (h : SB B w a s) (hq : q = s.next) (he : s.early t = false) (ht : I64 t) (hn2 : s.next ≤ 4000000000000000000) :
    Calls Try.prog 13 #[.pointer (some ⟨a, 0, none⟩), .agg #[.int .i64 q, .int .i64 2, .int .i64 t, .int .i64 0, .int .i64 0]] w
      fun e w' => e = .returned .nilIface ∧ SB B w' a (marked s ⟨q, 2, t, 0, 0⟩) ∧ Below B w w' := by
  have hB := h.lt
  refine (put_mark_f q t h hq he ht hn2).mono ?_
  rintro e w' ⟨rfl, h3, hk⟩
  exact ⟨rfl, h3, hk.below (by omega) (fun i hi => hi)⟩
theorem put_sample_b {B : Nat} {a : Nat} {s : StV} {w : World} (q t k x : Int) (h : SB B w a s) (hq : q = s.next) (he : s.early t = false) (ht : I64 t) (hn2 : s.next ≤ 4000000000000000000) (hsl : s.samples.length ≤ 2000000000000) :
    Calls Try.prog 13 #[.pointer (some ⟨a, 0, none⟩), .agg #[.int .i64 q, .int .i64 1, .int .i64 t, .int .i64 k, .int .i64 x]] w
      fun e w' => e = .returned .nilIface ∧ SB B w' a (sampled s ⟨q, 1, t, k, x⟩) ∧ Below B w w' := by
  have hB := h.lt
  refine (put_sample_f q t k x h (fun i hi => by show B ≤ i; omega) hq he ht hn2 hsl).mono ?_
  rintro e w' ⟨rfl, h3, hk⟩
  exact ⟨rfl, h3, hk.below (by omega) (fun i hi => hi)⟩
theorem put_seq_b {B : Nat} {a : Nat} {s : StV} {w : World} (q n t k x : Int) (h : SB B w a s) (hq : q ≠ s.next) :
    Calls Try.prog 13 #[.pointer (some ⟨a, 0, none⟩), .agg #[.int .i64 q, .int .i64 n, .int .i64 t, .int .i64 k, .int .i64 x]] w
      fun e w' => e = .returned (.iface 44 (.int .i64 2)) ∧ Below w.heap.size w w' := by
  obtain ⟨vr, vs, vp, h1⟩ := h.is
  exact put_seq a s vr vs vp ⟨q, n, t, k, x⟩ w h1 hq

theorem cut_ok_f {F : Nat → Prop} {a : Nat} {s : StV} {w0 w : World} (pl : List PlV) (b off c : Nat) (h : Stm w0 a s F) (hb : Below w0.heap.size w0 w) (hn : pl.length = s.res.length * s.shards.toNat) (hpl : RowAt w b off (plVals pl)) (hr : w0.heap.size ≤ b ∨ ¬ F b) :
    Calls Try.prog 15 #[.pointer (some ⟨a, 0, none⟩), .slice (some ⟨b, off, none⟩) pl.length c] w
      fun e w' => e = .returned (.tuple #[.int .i64 ((s.samples.length : Int) - (cutSt s pl).samples.length), .nilIface]) ∧ Stm w' a (cutSt s pl) F ∧ Keeps F w w' := by
  obtain ⟨h0, vr, vs, vp, h1, h2⟩ := h
  refine (cut_ok a s vr vs vp pl b off c w (h1.below hb) h0 hn hpl (fun e => ?_)).mono ?_
  · have q1 := (h1.pla.lt b e).2
    rcases hr with hr | hr
    · omega
    · exact hr (h2 b (.inr (.inr e)))
  · rintro e w' ⟨rfl, vs', h3, h4, hk⟩
    refine ⟨rfl, ⟨{ h0 with pl := ?_, sl := ?_, st := ?_ }, vr, vs', vp, h3, ?_⟩, hk.mono (fun i _ hi => h2 i hi)⟩
    · show (raiseP s.places pl).length = _
      rw [raiseP_len]; exact h0.pl
    · exact Nat.le_trans (List.length_filter_le _ _) h0.sl
    · intro o ho
      exact h0.st o (List.mem_filter.1 ho).1
    · intro i hi
      apply h2 i
      rcases hi with hi | hi | hi
      · exact .inl hi
      · rw [h4] at hi; exact .inr (.inl hi)
      · exact .inr (.inr hi)
theorem cut_ok_b {B : Nat} {a : Nat} {s : StV} {w0 w : World} (pl : List PlV) (b off c : Nat) (h : SB B w0 a s) (hb : Below w0.heap.size w0 w) (hn : pl.length = s.res.length * s.shards.toNat) (hpl : RowAt w b off (plVals pl)) (hr : w0.heap.size ≤ b ∨ b < B) :
    Calls Try.prog 15 #[.pointer (some ⟨a, 0, none⟩), .slice (some ⟨b, off, none⟩) pl.length c] w
      fun e w' => e = .returned (.tuple #[.int .i64 ((s.samples.length : Int) - (cutSt s pl).samples.length), .nilIface]) ∧ SB B w' a (cutSt s pl) ∧ Below B w w' := by
  have hs := hb.size
  have hB := h.lt
  refine (cut_ok_f pl b off c h hb hn hpl (hr.imp id (fun h => by omega))).mono ?_
  rintro e w' ⟨rfl, h3, hk⟩
  exact ⟨rfl, h3, hk.below (by omega) (fun i hi => hi)⟩
theorem cut_bad_b {B : Nat} {a : Nat} {s : StV} {w : World} (A : Option Addr) (n c : Nat) (h : SB B w a s) (hn : n ≠ s.res.length * s.shards.toNat) (hn2 : n ≤ 9223372036854775807) :
    Calls Try.prog 15 #[.pointer (some ⟨a, 0, none⟩), .slice A n c] w
      fun e w' => e = .returned (.tuple #[.int .i64 0, .iface 44 (.int .i64 2)]) ∧ Below w.heap.size w w' := by
  obtain ⟨vr, vs, vp, h1⟩ := h.is
  exact cut_bad a s vr vs vp A n c w h1 h.ok hn hn2
theorem next_b {B : Nat} {a : Nat} {s : StV} {w : World} (h : SB B w a s) :
    Calls Try.prog 19 #[.pointer (some ⟨a, 0, none⟩)] w fun e w' => e = .returned (.int .i64 s.next) ∧ w = w' := by
  obtain ⟨vr, vs, vp, h1⟩ := h.is
  exact next_any a s vr vs vp w h1
theorem held_b {B : Nat} {a : Nat} {s : StV} {w : World} (h : SB B w a s) :
    Calls Try.prog 14 #[.pointer (some ⟨a, 0, none⟩)] w
      (SomeV fun v' w' => w'.ownsRow w.heap.size 34 5 v' s.samples.length (opVals s.samples) ∧ Below w.heap.size w w') := by
  obtain ⟨vr, vs, vp, h1⟩ := h.is
  exact held_any a s vr vs vp w h1 h.ok.sl
theorem last_some_b {B : Nat} {a : Nat} {s : StV} {w : World} (h : SB B w a s) (hm : s.mark.seq ≠ 0) :
    Calls Try.prog 21 #[.pointer (some ⟨a, 0, none⟩)] w
      fun e w' => e = .returned (.tuple #[.int .i64 s.mark.seq, .int .i64 s.mark.time, .bool true]) ∧ Below w.heap.size w w' := by
  obtain ⟨vr, vs, vp, h1⟩ := h.is
  exact last_some a s vr vs vp w h1 hm
theorem last_none_b {B : Nat} {a : Nat} {s : StV} {w : World} (h : SB B w a s) (hm : s.mark.seq = 0) :
    Calls Try.prog 21 #[.pointer (some ⟨a, 0, none⟩)] w
      fun e w' => e = .returned (.tuple #[.int .i64 0, .int .i64 0, .bool false]) ∧ Below w.heap.size w w' := by
  obtain ⟨vr, vs, vp, h1⟩ := h.is
  exact last_none a s vr vs vp w h1 hm
theorem new_b (res : List Int) (b off c : Nat) (sh hold : Int) (w : World) (hres : RowAt w b off (intVals res)) (hok : newOk res sh hold) (hrr : ∀ i, i < res.length → I64 (nth res i)) :
    Calls Try.prog 11 #[.slice (some ⟨b, off, none⟩) res.length c, .int .i64 sh, .int .i64 hold] w
      fun e w' => ∃ a, e = .returned (.tuple #[.pointer (some ⟨a, 0, none⟩), .nilIface]) ∧ SB w.heap.size w' a (newSt res sh hold (res.length * sh.toNat)) ∧ Below w.heap.size w w' :=
  new_ok res b off c sh hold w hres hok hrr
end Go.Proofs.Ytomekiidgdkmiaa
