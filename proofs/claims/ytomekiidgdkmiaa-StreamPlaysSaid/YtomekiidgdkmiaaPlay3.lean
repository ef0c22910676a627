/-
  The law's play: Cut.
-/
import Derived.Test.YtomekiidgdkmiaaPlay2
import Derived.Test.YtomekiidgdkmiaaAppSl
import Derived.Lib.AppendZeros
namespace Go.Proofs.Ytomekiidgdkmiaa
open Go.RowKit
set_option linter.unusedVariables false
set_option linter.unusedSimpArgs false
theorem append_pl (w : World) (B : Nat) (v : Value) (n : Nat) (xs : List PlV) (hown : w.ownsRow B 49 2 v n (plVals xs)) (A : Option Addr) (c : Nat) (ys : List PlV) (hsl : 0 < ys.length → SlAt w (.slice A ys.length c) ys.length (plVals ys)) (h : (n + ys.length) * 16 ≤ 140737488355328) (hB : B ≤ w.heap.size) (ty : TypeId) :
    ∃ v' w', (Builtin.append_ #[26, 26] ty #[v, .slice A ys.length c]).run Try.prog w = .ok v' w' ∧ w'.ownsRow B 49 2 v' (n + ys.length) (plVals (xs ++ ys)) ∧ w.grownBy w' v.ownBlock := by
  obtain ⟨i0, hi, hz0, hz1, hz2⟩ := info_parts infoPl
  by_cases h0 : 0 < ys.length
  · exact append_sl PlV.vals 2 (fun _ => rfl) (fun x u hu => by simp [PlV.vals] at hu; rcases hu with rfl | rfl <;> rfl) 26 49 i0 _ 16 Try.underlying26 hi hz0 hz1 hz2 rfl (by decide) w B v n xs hown _ ys (hsl h0) (by unfold maxLen; omega) (by omega) hB ty
  · have e : ys = [] := List.eq_nil_of_length_eq_zero (by omega)
    subst e
    have hs2 : Src Try.prog i0.size 26 (.slice A 0 c) 0 [] w := by
      cases A with
      | none => exact Src.ofNil w Try.underlying26 c
      | some a => exact Src.ofSlice w Try.underlying26 a 0 c [] (by simp) (fun j u hj => by simp at hj) (fun u hu => by simp at hu)
    have hr : (Builtin.append_ #[26, 26] ty #[v, .slice A 0 c]).run Try.prog w = .ok v w := by
      rcases hown.2 with ⟨rfl, rfl⟩ | ⟨g, cap, cur, rfl, _, _, hc, _⟩
      · exact run_append_nothing w _ _ ty _ i0 Try.underlying26 hi none 0 0 (Nat.le_refl _) _ hs2
      · exact run_append_nothing w _ _ ty _ i0 Try.underlying26 hi _ _ _ hc _ hs2
    refine ⟨v, w, hr, ?_, ⟨rfl, rfl, rfl, Nat.le_refl _, fun _ _ _ => rfl⟩⟩
    simpa using hown
theorem Duo.keepPl {F : Nat → Prop} {w w' : World} {a b : Nat} {s : StV} {r : RfV} (h : Duo F w a s b r) {B n : Nat} {xs : List Value} {v : Value} (hv : w.ownsRow B 49 2 v n xs) (hk : Keeps (fun k => v.ownBlock = some k) w w') (hn : ∀ k, F k → v.ownBlock ≠ some k) : Duo F w' a s b r := by
  obtain ⟨h0, h1, vr, vs, vp, ur, uo, ug, up, h2⟩ := h
  refine ⟨h0, h1, vr, vs, vp, ur, uo, ug, up, h2.st.keep hk ?_, h2.rf.keep hk ?_, h2.so, h2.po, h2.sF, h2.rF⟩
  · rintro k (hk | hk)
    · exact hn k (h2.sF k hk)
    · exact fun e => own_ne2 h2.st.res hv (by decide) k hk e
  · rintro k (hk | hk)
    · exact hn k (h2.rF k hk)
    · exact fun e => own_ne2 h2.rf.res hv (by decide) k hk e
theorem cut_w {F : Nat → Prop} {w : World} {a b : Nat} {s : StV} {r : RfV} (pls : List PlV) (A : Option Addr) (c : Nat) (N f : Int) (hN : cutN s pls = N) (hf : cutE pls.length s.places.length = f) (h : Duo F w a s b r) (hF : ∀ i, w.heap.size ≤ i → F i) (hp : 0 < pls.length → SlAt w (.slice A pls.length c) pls.length (plVals pls))
    (hnF : ∀ g off, A = some ⟨g, off, none⟩ → 0 < pls.length → ¬ F g) (hn : pls.length ≤ 9223372036854775807) :
    Calls Try.prog 15 #[.pointer (some ⟨a, 0, none⟩), .slice A pls.length c] w
      fun e w' => e = .returned (.tuple #[.int .i64 N, errV f]) ∧ Duo F w' a (cutS s pls) b r ∧ Keeps F w w' := by
  subst hN; subst hf; exact cut_d h hF pls A c hp hnF hn
theorem rcut_w {F : Nat → Prop} {w : World} {a b : Nat} {s : StV} {r : RfV} (pls : List PlV) (A : Option Addr) (c : Nat) (N f : Int) (hN : cutM r pls = N) (hf : cutE pls.length r.places.length = f) (h : Duo F w a s b r) (hF : ∀ i, w.heap.size ≤ i → F i) (hp : 0 < pls.length → SlAt w (.slice A pls.length c) pls.length (plVals pls))
    (hnF : ∀ g off, A = some ⟨g, off, none⟩ → 0 < pls.length → ¬ F g) (hn : pls.length ≤ 9223372036854775807) :
    Calls Try.prog 51 #[.pointer (some ⟨b, 0, none⟩), .slice A pls.length c] w
      fun e w' => e = .returned (.tuple #[.int .i64 N, .int .i64 f]) ∧ Duo F w' a s b (cutQ r pls) ∧ Keeps F w w' := by
  subst hN; subst hf; exact rcut_d h hF pls A c hp hnF hn
theorem sl_keep {F : Nat → Prop} {w w' : World} {A : Option Addr} {pls : List PlV} {c : Nat} (h : 0 < pls.length → SlAt w (.slice A pls.length c) pls.length (plVals pls)) (hk : Keeps F w w') (hn : ∀ g off, A = some ⟨g, off, none⟩ → 0 < pls.length → ¬ F g) : 0 < pls.length → SlAt w' (.slice A pls.length c) pls.length (plVals pls) := by
  intro hp
  obtain ⟨g, off, rfl, hg, hr⟩ := sl_at h hp
  exact .inr ⟨g, off, c, rfl, Nat.lt_of_lt_of_le hg hk.size, hr.block (hk.block g hg (hn g off rfl hp))⟩
set_option maxHeartbeats 4000000 in
set_option maxRecDepth 100000 in
theorem play_cut3 {F : Nat → Prop} {w : World} {a b : Nat} {s : StV} {r : RfV} (kd t k x : Int) (op : OpV) (pA : Option Addr) (pc : Nat) (pls : List PlV) (h : Duo F w a s b r) (hs : Sim s r) (hF : ∀ i, w.heap.size ≤ i → F i)
    (hsl : 0 < pls.length → SlAt w (.slice pA pls.length pc) pls.length (plVals pls)) (hsz : pls.length * 16 ≤ 140737488355328) (hoF : ∀ g off, pA = some ⟨g, off, none⟩ → 0 < pls.length → ¬ F g) (hk : kd = 3) :
    Calls Try.prog 26 #[.pointer (some ⟨a, 0, none⟩), .pointer (some ⟨b, 0, none⟩), .agg #[.int .i64 kd, .int .i64 t, .int .i64 k, .int .i64 x, .int .i64 op.seq, .int .i64 op.kind, .int .i64 op.time, .int .i64 op.key, .int .i64 op.val, .slice pA pls.length pc]] w (PlayEnd F a b s r w) := by
  have HSC := Lib.hid (hs.cutS pls)
  obtain ⟨N, hN⟩ : ∃ N, cutN s pls = N := ⟨_, rfl⟩
  obtain ⟨f, hf⟩ : ∃ f, cutE pls.length s.places.length = f := ⟨_, rfl⟩
  have HN := Lib.hid hN
  have HFS := Lib.hid hf
  have HN2 : Hid (cutM r pls = N) := (hs.cutS pls).2.1.trans hN
  have HF2 : Hid (cutE pls.length r.places.length = f) := (hs.cutS pls).2.2.trans hf
  have HSL := Lib.hid hsl
  have HOF := Lib.hid hoF
  have HF := Lib.hid hF
  have HD := Lib.hid h
  have k0 : (kd == 0) = false := by simp [hk]
  have k1 : (kd == 1) = false := by simp [hk]
  have k2 : (kd == 2) = false := by simp [hk]
  have k3 : (kd == 3) = true := by simp [hk]
  have g1 : (f == f) = true := by simp
  have g2 : (N == N) = true := by simp
  have ho4 : ((w.alloc (.cells #[.int .i64 kd, .int .i64 t, .int .i64 k, .int .i64 x, .int .i64 op.seq, .int .i64 op.kind, .int .i64 op.time, .int .i64 op.key, .int .i64 op.val, .slice pA pls.length pc] 36)).alloc (.cells #[] 49)).ownsRow (w.heap.size + 1) 49 2 (.slice (some ⟨w.heap.size + 1, 0, none⟩) 0 0) 0 (plVals []) := by
    have := World.ownsRow_made (w.alloc (.cells #[.int .i64 kd, .int .i64 t, .int .i64 k, .int .i64 x, .int .i64 op.seq, .int .i64 op.kind, .int .i64 op.time, .int .i64 op.key, .int .i64 op.val, .slice pA pls.length pc] 36)) (e := 49) (size := 2) (base := w.heap.size + 1) #[] 0 (by simp) (by decide) rfl
    simpa [plVals] using this
  have hb0 : Below w.heap.size w ((w.alloc (.cells #[.int .i64 kd, .int .i64 t, .int .i64 k, .int .i64 x, .int .i64 op.seq, .int .i64 op.kind, .int .i64 op.time, .int .i64 op.key, .int .i64 op.val, .slice pA pls.length pc] 36)).alloc (.cells #[] 49)) := (below_alloc w _).alloc (by simp) _
  obtain ⟨v6, w6, hr6, ho6, hg6⟩ := append_pl _ (w.heap.size + 1) _ 0 [] ho4 pA pc pls (fun hp => (hsl hp).below hb0) (by omega) (by simp) 26
  rw [Nat.zero_add, List.nil_append] at ho6
  obtain ⟨A1, c1, rfl⟩ := own_slice ho6
  have hb6 : Below w.heap.size w w6 := hb0.grown hg6 (by simp; omega) (fun k hk => Nat.le_trans (by omega) (ho4.lt k hk).1)
  have X6 : w6.heap[w.heap.size]? = some (.cells #[.int .i64 kd, .int .i64 t, .int .i64 k, .int .i64 x, .int .i64 op.seq, .int .i64 op.kind, .int .i64 op.time, .int .i64 op.key, .int .i64 op.val, .slice pA pls.length pc] 36) := (hg6.block w.heap.size (by simp; omega) (fun e => by have := (ho4.lt _ e.symm).1; omega)).trans ((Below.heap_alloc _ _ _ (by simp)).trans (heap_alloc_new w _))
  have hs6 : w.heap.size < w6.heap.size := (Array.getElem?_eq_some_iff.1 X6).1
  have HR6 := Lib.hid hr6
  have HO6 := Lib.hid ho6
  have HB6 := Lib.hid hb6
  have HX6 := Lib.hid X6
  obtain ⟨F1, hF1⟩ : ∃ F1 : Nat → Prop, F1 = fun i => F i ∧ i ≠ w.heap.size ∧ (Value.slice A1 pls.length c1).ownBlock ≠ some i := ⟨_, rfl⟩
  have HFF : Hid (∀ W : World, w6.heap.size ≤ W.heap.size → ∀ i, W.heap.size ≤ i → F1 i) := by
    intro W hW i hi
    subst hF1
    exact ⟨hF i (by omega), by omega, fun e => by have := (ho6.lt i e).2; omega⟩
  have HP1 : Hid (∀ i, F1 i → (Value.slice A1 pls.length c1).ownBlock ≠ some i) := by intro i hi; subst hF1; exact hi.2.2
  have HP2 : Hid (¬ F1 w.heap.size) := by subst hF1; exact fun h => h.2.1 rfl
  have HP3 : Hid (∀ i, F1 i → F i) := by intro i hi; subst hF1; exact hi.1
  have HP4 : Hid (∀ g off, A1 = some ⟨g, off, none⟩ → 0 < pls.length → ¬ F1 g) := by
    intro g off e _ hh
    exact HP1.out g hh (by rw [e]; rfl)
  have HD6 : Hid (Duo F1 w6 a s b r) := by
    show Duo F1 w6 a s b r
    refine (h.mono (G := F1) (fun i hi hh => ?_)).below hb6
    subst hF1
    exact ⟨hh, by omega, fun e => by have := (ho6.lt i e).1; omega⟩
  have hnl : pls.length ≤ 9223372036854775807 := by omega
  clear hN hf h hs hsl hoF hF hk hr6 ho6 hg6 hb6 X6 ho4 hb0 hF1
  go_enter Try.func26, Try.ntmps26
  go_wp2_with (first
    | (at_builtin; refine Lib.wpList_append_run _ rfl (.tmp 106) (.tmp 108) _ _ rfl _ _ rfl rfl _ _ HR6.out ?_)
    | (go_at_call 15; refine (cut_w pls A1 c1 N f HN.out HFS.out HD6.out (HFF.out _ (Nat.le_refl _)) (fun _ => own_sl HO6.out) HP4.out hnl).mono ?_; rintro e w7 ⟨rfl, hd7, hk7⟩; have HD7 := Lib.hid hd7; have HK7 := Lib.hid hk7; have HX7 := Lib.hid ((hk7.block w.heap.size hs6 HP2.out).trans HX6.out); have HO7 := Lib.hid (own_keep HO6.out (fun t ht => hk7.block t (HO6.out.lt t ht).2 (fun hh => HP1.out t hh ht))); have HSL7 := Lib.hid (sl_keep (sl_keep HSL.out (Keeps.of_below' (F := F) HB6.out) HOF.out) (hk7.mono (fun i _ hi => HP3.out i hi)) HOF.out); clear hd7 hk7; have x9 : w7.cell? ⟨w.heap.size, 9, none⟩ = some (.slice pA pls.length pc) := blk_cell HX7.out 9 _ rfl)
    | (go_at_call 51; refine (rcut_w pls pA pc N f HN2.out HF2.out HD7.out (HFF.out _ HK7.out.size) HSL7.out (fun g off e hp hh => HOF.out g off e hp (HP3.out g hh)) hnl).mono ?_; rintro e w8 ⟨rfl, hd8, hk8⟩; have HD8 := Lib.hid hd8; have HK8 := Lib.hid (HK7.out.trans hk8 (fun i _ h => h)); have HX8 := Lib.hid ((hk8.block w.heap.size (Nat.lt_of_lt_of_le hs6 HK7.out.size) HP2.out).trans HX7.out); have HO8 := Lib.hid (own_keep HO7.out (fun t ht => hk8.block t (HO7.out.lt t ht).2 (fun hh => HP1.out t hh ht))); have HSL8 := Lib.hid (sl_keep HSL7.out (hk8.mono (fun i _ hi => HP3.out i hi)) HOF.out); clear hd8 hk8; have y9 : w8.cell? ⟨w.heap.size, 9, none⟩ = some (.slice pA pls.length pc) := blk_cell HX8.out 9 _ rfl)
    | (go_at_call 24; refine (num_any f _).mono ?_; rintro e w9 ⟨rfl, rfl⟩)
    | (go_at_call 30; refine (places_same' pls A1 pA c1 pc _ (fun _ => own_sl HO8.out) HSL8.out (by omega)).mono ?_; rintro e w10 ⟨rfl, hb10⟩; have HD10 := Lib.hid (HD8.out.below hb10); have HK10 := Lib.hid (HK8.out.trans (Keeps.of_below' (F := F1) hb10) (fun i _ h => h)); have HO10 := Lib.hid (own_keep HO8.out (fun t ht => hb10.block t (HO8.out.lt t ht).2)); clear hb10))
  go_loopw [141] (fun i wr => ∃ (j : Nat) (xs : List Value), j ≤ pls.length ∧ i = .int .i64 j ∧ xs.length = pls.length * 2 ∧ wr.ownsRow (w.heap.size + 1) 49 2 (.slice A1 pls.length c1) pls.length xs ∧ Keeps (fun k => (Value.slice A1 pls.length c1).ownBlock = some k) w10 wr) (fun i _ => pls.length - (intOf i).toNat)
  case atStart => exact ⟨0, _, Nat.zero_le _, rfl, HO10.out.1, HO10.out, Keeps.refl _ _⟩
  case round =>
    rename World => wz
    obtain ⟨j, xs, hj, rfl, hxl, hown, hkz⟩ := hrel
    have HKZ := Lib.hid hkz
    by_cases hlt : j < pls.length
    · obtain ⟨g, cap, hv, hg, hg2⟩ := own_some hown (by omega)
      simp only [Value.slice.injEq] at hv
      obtain ⟨rfl, _, rfl⟩ := hv
      have cell : ∀ i, i < 2 → ∃ u, wz.cell? ⟨g, j * 2 + i, none⟩ = some u := fun i hi => by
        have hx : j * 2 + i < xs.length := by omega
        refine ⟨xs[j * 2 + i], ?_⟩
        have := own_row hown (j * 2 + i) _ (List.getElem?_eq_getElem hx)
        simpa using this
      obtain ⟨u0, p0⟩ := cell 0 (by omega)
      obtain ⟨u1, p1⟩ := cell 1 (by omega)
      simp only [Nat.add_zero] at p0
      have f0 := own_frozen hown (j * 2)
      have f1 := own_frozen hown (j * 2 + 1)
      have HOWN := Lib.hid hown
      clear hown hkz cell
      go_wp2
      go_roundw
      case rel =>
        have h1 := (HOWN.out.stored (j * 2) (.int .i64 4611686018427387904)).1
        have h2 := (h1.stored (j * 2 + 1) (.int .i64 0)).1
        exact ⟨j + 1, _, by omega, by go_num, by simp; omega, h2, (HKZ.out.trans (keeps_set _ g (j * 2) _) (fun i _ h => by rw [h]; rfl)).trans (keeps_set _ g (j * 2 + 1) _) (fun i _ h => by rw [h]; rfl)⟩
      case measure => simp [intOf]; omega
    · have e : j = pls.length := by omega
      subst e
      clear hown hkz
      go_wp2
      go_ret
      refine ⟨rfl, ⟨cutS s pls, cutQ r pls, (HD10.out.keepPl HO10.out HKZ.out HP1.out).mono (fun i _ h => HP3.out i h), HSC.out.1, ?_, ?_⟩, ?_⟩
      · unfold cutQ; split
        · exact Nat.le_succ _
        · exact Nat.le_succ _
      · unfold Go.Proofs.Ytomekiidgdkmiaa.cutS; split
        · show s.next ≤ s.next + 1; omega
        · show s.next ≤ s.next + 1; omega
      · exact ((Keeps.of_below' (F := F) HB6.out).trans HK10.out (fun i _ h => HP3.out i h)).trans HKZ.out (fun i hi h => by have := (HO10.out.lt i h).1; omega)
end Go.Proofs.Ytomekiidgdkmiaa
