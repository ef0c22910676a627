/-
  StreamFull's walk.
-/
import Derived.Test.YtomekiidgdkmiaaAlive14
namespace Go.Proofs.Ytomekiidgdkmiaa
open Go.RowKit
set_option linter.unusedVariables false
set_option linter.unusedSimpArgs false

structure FullSt (s : StV) (ho : Int) : Prop where
  hold : s.hold = ho
  mark : s.mark = OpV.zero
  res : s.res = [10]
  sh : s.shards = 1
  len : (s.samples.length : Int) ≤ ho
theorem FullSt.early {s : StV} {hold : Int} (h : FullSt s hold) (t : Int) : s.early t = false := by
  unfold StV.early; rw [h.mark]; rfl

theorem full_cut {B a : Nat} {s : StV} {hold : Int} {w : World} (h : SB B w a s) (hf : FullSt s hold) (cut : Int) (T : TypeId) :
    Calls Try.prog 15 #[.pointer (some ⟨a, 0, none⟩), .slice (some ⟨w.heap.size, 0, none⟩) 1 1] (w.alloc (.cells #[.int .i64 cut, .int .i64 (-9223372036854775808)] T))
      fun e w' => ∃ (k : Nat) (s' : StV), e = .returned (.tuple #[.int .i64 k, .nilIface]) ∧ SB B w' a s' ∧ Below B w w' ∧ FullSt s' hold ∧ s'.next = s.next ∧ s'.samples.length + k = s.samples.length := by
  have hB := h.lt
  have q := cut_ok_b (w := w.alloc (.cells #[.int .i64 cut, .int .i64 (-9223372036854775808)] T)) [⟨cut, -9223372036854775808⟩] w.heap.size 0 1 h (below_alloc _ _) (by rw [hf.res, hf.sh]; rfl) (row_new w (PlV.vals ⟨cut, -9223372036854775808⟩) T) (.inl (Nat.le_refl _))
  refine q.mono ?_
  rintro e w' ⟨rfl, h3, h4⟩
  have hl : (cutSt s [⟨cut, -9223372036854775808⟩]).samples.length ≤ s.samples.length := List.length_filter_le _ _
  refine ⟨s.samples.length - (cutSt s [⟨cut, -9223372036854775808⟩]).samples.length, cutSt s [⟨cut, -9223372036854775808⟩], ?_, h3, ((below_alloc w _).mono (by omega)).trans h4, ⟨hf.hold, hf.mark, hf.res, hf.sh, by have := hf.len; omega⟩, rfl, by omega⟩
  rw [Int.ofNat_sub hl]

theorem zero64 : I64 0 := by constructor <;> decide
theorem hold_bd (hold : Int) : 1 ≤ wrap64 (1 + wrap64 ((IntKind.u64.wrap hold).tmod 64)) ∧ wrap64 (1 + wrap64 ((IntKind.u64.wrap hold).tmod 64)) ≤ 64 := by
  have h0 : 0 ≤ IntKind.u64.wrap hold := by simp only [IntKind.wrap_u64]; omega
  have h1 := Int.tmod_nonneg 64 h0
  have h2 := Int.tmod_lt_of_pos (IntKind.u64.wrap hold) (show (0 : Int) < 64 by decide)
  unfold wrap64
  omega
theorem full_new (ho : Int) (h : 1 ≤ ho) : FullSt (newSt [10] 1 ho 1) ho := ⟨rfl, rfl, rfl, rfl, by show (0 : Int) ≤ ho; omega⟩
theorem full_sampled {s : StV} {ho : Int} (h : FullSt s ho) (o : OpV) (hl : (s.samples.length : Int) < ho) : FullSt (sampled s o) ho :=
  ⟨h.hold, h.mark, h.res, h.sh, by show ((s.samples ++ [o]).length : Int) ≤ ho; rw [List.length_append]; simp; omega⟩
theorem sampled_len (s : StV) (o : OpV) : (sampled s o).samples.length = s.samples.length + 1 := by simp [sampled]

set_option maxHeartbeats 2000000 in
set_option maxRecDepth 100000 in
theorem full_any (hold cut : Int) (l : List Int) (A : Option Addr) (c : Nat) (w : World) (hl : 0 < l.length → SlAt w (.slice A l.length c) l.length (intVals l)) (hh : I64 hold) (h64 : ∀ x ∈ l, I64 x) :
    Calls Try.prog 4 #[.int .i64 hold, .slice A l.length c, .int .i64 cut] w fun e w' => e = .returned (.bool true) ∧ Below w.heap.size w w' := by
  have hlo := hh.lo
  have hhi := hh.hi
  have HL := Lib.hid hl
  have H64 := Lib.hid h64
  clear hl h64 hh
  by_cases hlen : 200 < l.length
  · go_enter Try.func4, Try.ntmps4
    go_wp2_with (go_at_call 9; refine (alive_any _).mono ?_; rintro e w1 ⟨rfl, hb1⟩; have HB1 := Lib.hid hb1; clear hb1)
    go_ret
    exact ⟨rfl, HB1.out⟩
  go_enter Try.func4, Try.ntmps4
  obtain ⟨ho1, ho2⟩ := hold_bd hold
  go_wp2_with (first
    | (go_at_call 9; refine (alive_any _).mono ?_; rintro e w1 ⟨rfl, hb1⟩; have HB1 := Lib.hid hb1; clear hb1)
    | (go_at_call 11; generalize wrap64 (1 + wrap64 ((IntKind.u64.wrap hold).tmod 64)) = ho at *; refine (new_ten w1.heap.size ho _ ho1 ho2 (box_cell w1 #[.int .i64 10] 3 (0, 0) 0 _ rfl)).mono ?_; rintro e w2 ⟨a, rfl, hs2, hb2⟩; have hz := HB1.out.size; have HB2 := Lib.hid (HB1.out.trans ((below_alloc _ _).mono hz |>.trans (hb2.mono (by simp; omega)))); replace hs2 := hs2.down (B' := w.heap.size) (by simp; omega); clear hb2 HB1 hz))
  go_loopw [9, 38] (fun n i wr => ∃ (k : Nat) (s : StV), k ≤ l.length ∧ i = .int .i64 k ∧ n = .int .i64 s.samples.length ∧ SB w.heap.size wr a s ∧ FullSt s ho ∧ s.next = 1 + s.samples.length ∧ Below w.heap.size w wr) (fun _ i _ => l.length - (intOf i).toNat)
  case atStart => exact ⟨0, newSt [10] 1 ho 1, Nat.zero_le _, rfl, rfl, hs2, full_new ho ho1, rfl, HB2.out⟩
  case round =>
    obtain ⟨k, s, hk, rfl, rfl, hs, hf, hnx, hbel⟩ := hrel
    by_cases hlt : k < l.length
    · obtain ⟨b, off, hA, hrow⟩ : ∃ b off, A = some ⟨b, off, none⟩ ∧ wr.cell? ⟨b, off + k, none⟩ = some (.int .i64 (nth l k)) := by
        rcases HL.out (by omega) with ⟨_, h0, _⟩ | ⟨b, off, c', hv, hbl, hr⟩
        · omega
        · simp only [Value.slice.injEq] at hv
          exact ⟨b, off, hv.1, old_cell hbel (hr.int k hlt) hbl⟩
      subst hA
      have hx := H64.out _ (nth_mem hlt)
      have HS := Lib.hid hs
      have HF := Lib.hid hf
      have HBEL := Lib.hid hbel
      have HNX := Lib.hid hnx
      have hfl := hf.len
      have hz := hbel.size
      clear hs hf hbel hs2 hnx
      by_cases hfull : (s.samples.length : Int) = ho
      · have g1 : ((s.samples.length : Int) == ho) = true := by simp [hfull]
        go_wp2_with (first
          | (go_at_call 12; refine (sample_full_b (nth l k) 0 (nth l k) HS.out (HF.out.early _) (by rw [HF.out.hold]; omega)).mono ?_; rintro e w3 ⟨rfl, hb3⟩; have HB3 := Lib.hid hb3; clear hb3))
        go_roundw
        case rel => exact ⟨k + 1, s, by omega, by go_num, by rw [hfull], (HS.out.below HB3.out).below (below_alloc _ _), HF.out, HNX.out, (HBEL.out.trans (HB3.out.mono hz)).alloc (by have := HB3.out.size; omega) _⟩
        case measure => simp [intOf]; omega
      · have g1 : ((s.samples.length : Int) == ho) = false := by simp [hfull]
        have hkk : s.samples.length < 64 := by omega
        go_wp2_with (first
          | (go_at_call 12; refine (sample_ok_b (nth l k) 0 (nth l k) HS.out (HF.out.early _) (by rw [HF.out.hold]; omega)).mono ?_; rintro e w3 ⟨rfl, hb3⟩; have HB3 := Lib.hid hb3; clear hb3)
          | (go_at_call 13; refine (put_sample_b s.next (nth l k) 0 (nth l k) ((HS.out.below HB3.out).below (below_alloc _ _)) rfl (HF.out.early _) hx (by have := HNX.out; omega) (by omega)).mono ?_; rintro e w4 ⟨rfl, hs4, hb4⟩; have HB4 := Lib.hid hb4; have HS4 := Lib.hid hs4; clear hb4 hs4))
        go_roundw
        case rel => exact ⟨k + 1, _, by omega, by go_num, by rw [sampled_len]; go_num, HS4.out, full_sampled HF.out _ (by omega), by rw [sampled_len]; show s.next + 1 = _; have := HNX.out; omega, ((HBEL.out.trans (HB3.out.mono hz)).alloc (by have := HB3.out.size; omega) _).trans HB4.out⟩
        case measure => simp [intOf]; omega
    · have HS := Lib.hid hs
      have HF := Lib.hid hf
      have HBEL := Lib.hid hbel
      have HNX := Lib.hid hnx
      have hfl := hf.len
      have hz := hbel.size
      clear hs hf hbel hs2 hnx
      go_wp2_with (go_at_call 15; go_loud (refine (full_cut HS.out HF.out cut _).mono ?_; rintro e w3 ⟨m, s3, rfl, hs3, hb3, hf3, hn3, hl3⟩; have HB3 := Lib.hid (HBEL.out.trans hb3); have HS3 := Lib.hid hs3; have HF3 := Lib.hid hf3; have HN3 := Lib.hid hn3; have g9 : decide (s.samples.length < m) = false := decide_eq_false (by omega); have g8 : decide ((m : Int) < 0) = false := decide_eq_false (by omega); clear hs3 hb3 hf3 hn3))
      have hl3' : m ≤ s.samples.length := by omega
      go_loopw [15] (fun i wq => ∃ (j : Nat) (q : StV), j ≤ m ∧ i = .int .i64 j ∧ q.samples.length = s3.samples.length + j ∧ q.next = s3.next + j ∧ SB w.heap.size wq a q ∧ FullSt q ho ∧ Below w.heap.size w wq) (fun i _ => m - (intOf i).toNat)
      case atStart => exact ⟨0, s3, Nat.zero_le _, rfl, rfl, by simp, HS3.out, HF3.out, HB3.out⟩
      case round =>
        obtain ⟨j, q, hj, rfl, hql, hqn, hq, hqf, hbq⟩ := hrel
        have HQ := Lib.hid hq
        have HQF := Lib.hid hqf
        have HBQ := Lib.hid hbq
        have hqf2 := hqf.len
        have hz2 := hbq.size
        have hz9 := HBEL.out.size
        have k0 : q.next ≤ 900000 := by have := HNX.out; have := HN3.out; omega
        have k5 : j < m → ¬ ho ≤ (q.samples.length : Int) := by omega
        have k9 : q.samples.length ≤ 90000 := by omega
        have k8 : (q.samples.length : Int) + m = s.samples.length + j := by omega
        have HQL := Lib.hid hql
        have HQN := Lib.hid hqn
        have HK8 := Lib.hid k8
        have HL3 := Lib.hid hl3
        clear hql hqn k8
        clear hq hqf hbq
        by_cases hjm : j < m
        · go_wp2_with (first
            | (go_at_call 12; refine (sample_ok_b 0 0 0 HQ.out (HQF.out.early _) (by rw [HQF.out.hold]; exact k5 hjm)).mono ?_; rintro e w4 ⟨rfl, hb4⟩; have HB4 := Lib.hid hb4; clear hb4)
            | (go_at_call 13; refine (put_sample_b q.next 0 0 0 ((HQ.out.below HB4.out).below (below_alloc _ _)) rfl (HQF.out.early _) zero64 k0 k9).mono ?_; rintro e w5 ⟨rfl, hs5, hb5⟩; have HB5 := Lib.hid hb5; have HS5 := Lib.hid hs5; clear hb5 hs5))
          go_roundw
          case rel =>
            have hz4 := HB4.out.size
            have k1 : (sampled q ⟨q.next, 1, 0, 0, 0⟩).samples.length = s3.samples.length + (j + 1) := by have := HQL.out; rw [sampled_len]; omega
            have k2 : (sampled q ⟨q.next, 1, 0, 0, 0⟩).next = s3.next + ((j + 1 : Nat) : Int) := by have := HQN.out; show q.next + 1 = _; omega
            refine ⟨j + 1, sampled q ⟨q.next, 1, 0, 0, 0⟩, by omega, ?_, k1, k2, HS5.out, full_sampled HQF.out _ (by have := k5 hjm; omega), ((HBQ.out.trans (HB4.out.mono hz2)).alloc (by omega) _).trans HB5.out⟩
            go_num
          case measure => simp [intOf]; omega
        · have hqs : (q.samples.length : Int) = s.samples.length := by have := HK8.out; omega
          have HQS := Lib.hid hqs
          have g2 : ((q.samples.length : Int) == (s.samples.length : Int)) = true := by simp [hqs]
          clear hqs
          by_cases hfull : (s.samples.length : Int) = ho
          · have g1 : ((s.samples.length : Int) == ho) = true := by simp [hfull]
            have HFU := Lib.hid hfull
            clear hfull
            go_wp2_with (first
              | (go_at_call 12; refine (sample_full_b 0 0 0 HQ.out (HQF.out.early _) (by rw [HQF.out.hold]; have := HQS.out; have := HFU.out; omega)).mono ?_; rintro e w4 ⟨rfl, hb4⟩; have HB4 := Lib.hid hb4; clear hb4)
              | (go_at_call 14; refine (held_b (HQ.out.below HB4.out)).mono ?_; rintro e w5 ⟨v5, rfl, h5, hb5⟩; obtain ⟨A5, c5, hv5⟩ := own_slice h5; subst hv5; have HB5 := Lib.hid hb5; clear hb5 h5))
            go_ret
            exact ⟨rfl, (HBQ.out.trans (HB4.out.mono hz2)).trans (HB5.out.mono (by have := HB4.out.size; omega))⟩
          · have g1 : ((s.samples.length : Int) == ho) = false := by simp [hfull]
            have HFU := Lib.hid hfull
            clear hfull
            go_wp2_with (first
              | (go_at_call 12; refine (sample_ok_b 0 0 0 HQ.out (HQF.out.early _) (by rw [HQF.out.hold]; have := HQS.out; have := HFU.out; omega)).mono ?_; rintro e w4 ⟨rfl, hb4⟩; have HB4 := Lib.hid hb4; clear hb4)
              | (go_at_call 14; refine (held_b (HQ.out.below HB4.out)).mono ?_; rintro e w5 ⟨v5, rfl, h5, hb5⟩; obtain ⟨A5, c5, hv5⟩ := own_slice h5; subst hv5; have HB5 := Lib.hid hb5; clear hb5 h5))
            go_ret
            exact ⟨rfl, (HBQ.out.trans (HB4.out.mono hz2)).trans (HB5.out.mono (by have := HB4.out.size; omega))⟩
end Go.Proofs.Ytomekiidgdkmiaa
