/-
  Contract of a stream's Cut: the places are raised, the samples thinned out.
-/
import Derived.Test.YtomekiidgdkmiaaStmCut
import Derived.Deep.RegionLaw
namespace Go.Proofs.Ytomekiidgdkmiaa
open Go.RowKit
set_option linter.unusedVariables false
set_option linter.unusedSimpArgs false

def cutSt (s : StV) (pl : List PlV) : StV := { s with places := raiseP s.places pl, samples := s.samples.filter (fun o => !covered (idsOf o s.res s.shards) (raiseP s.places pl)) }

theorem StIs.setPl {w : World} {a : Nat} {s : StV} {vr vs : Value} {gp cp n : Nat} (h : StIs w a s vr vs (.slice (some ⟨gp, 0, none⟩) n cp)) (hn : n = s.places.length) (k : Nat) (q : PlV) (hk : k < s.places.length) :
    StIs ((w.setCell ⟨gp, k * 2, none⟩ (.int .i64 q.win)).setCell ⟨gp, k * 2 + 1, none⟩ (.int .i64 q.key)) a { s with places := s.places.set k q } vr vs (.slice (some ⟨gp, 0, none⟩) n cp) := by
  subst hn
  have kk : Keeps (fun i => i = gp) w ((w.setCell ⟨gp, k * 2, none⟩ (.int .i64 q.win)).setCell ⟨gp, k * 2 + 1, none⟩ (.int .i64 q.key)) := ((Keeps.refl _ w).set _ _).set _ _
  have n1 : gp ≠ a := fun e => own_ne h.pla h.blk (by decide) (by rw [← e]; rfl)
  refine ⟨(kk.block a h.lt (fun e => n1 e.symm)).trans h.blk, own_keep h.res (fun g hg => kk.block g (h.res.lt g hg).2 (fun e => own_ne2 h.res h.pla (by decide) g hg (by rw [e]; rfl))),
    own_keep h.sam (fun g hg => kk.block g (h.sam.lt g hg).2 (fun e => own_ne2 h.sam h.pla (by decide) g hg (by rw [e]; rfl))), ?_⟩
  obtain ⟨h1, h2⟩ := h.pla.stored (k * 2) (.int .i64 q.win)
  obtain ⟨h3, h4⟩ := h1.stored (k * 2 + 1) (.int .i64 q.key)
  have e : ((plVals s.places).set (k * 2) (.int .i64 q.win)).set (k * 2 + 1) (.int .i64 q.key) = plVals (s.places.set k q) := by
    clear h h1 h2 h3 h4 kk n1
    generalize s.places = l at hk
    induction l generalizing k with
    | nil => simp at hk
    | cons p l ih =>
      cases k with
      | zero => rfl
      | succ k =>
        have := ih k (by simpa using hk)
        show (((.int .i64 p.win) :: (.int .i64 p.key) :: plVals l).set ((k + 1) * 2) _).set ((k + 1) * 2 + 1) _ = (.int .i64 p.win) :: (.int .i64 p.key) :: plVals (l.set k q)
        rw [← this, show (k + 1) * 2 = k * 2 + 1 + 1 from by omega]
        rfl
  rw [e] at h3
  simpa using h3

theorem own_frozen {w : World} {B g cap : Nat} {T : TypeId} {sz n n' : Nat} {xs : List Value} (h : w.ownsRow B T sz (.slice (some ⟨g, 0, none⟩) n' cap) n xs) (j : Nat) : w.frozen? ⟨g, j, none⟩ = false := by
  rcases h.2 with ⟨h', _⟩ | ⟨g', cap', cur, h', _, hg, _⟩
  · simp at h'
  · simp only [Value.slice.injEq, Option.some.injEq, Addr.mk.injEq, and_true] at h'
    obtain ⟨rfl, _, _⟩ := h'
    exact blk_frozen hg j

theorem own_slice {w : World} {B : Nat} {T : TypeId} {sz n : Nat} {v : Value} {xs : List Value} (h : w.ownsRow B T sz v n xs) : ∃ A c, v = .slice A n c := by
  rcases h.2 with ⟨h1, h2⟩ | ⟨g, cap, cur, h1, _⟩
  · exact ⟨none, 0, by rw [h1, h2]⟩
  · exact ⟨_, _, h1⟩

/-- the last store of Cut -/
theorem cut_fin {w5 : World} {a : Nat} {s : StV} {vr vs vp v5 : Value} {l : List OpV} {wr : World} (H : StIs wr a s vr vs vp) (hk : Keeps (fun k => vs.ownBlock = some k) wr w5) (hr : w5.ownsRow 0 34 5 v5 l.length (opVals l)) (hb : v5.ownBlock = vs.ownBlock) :
    StIs (w5.setCell ⟨a, 9, none⟩ v5) a { s with samples := l } vr v5 vp ∧ Keeps (fun k => k = a ∨ vs.ownBlock = some k) wr (w5.setCell ⟨a, 9, none⟩ v5) := by
  have n1 := own_ne H.sam H.blk (by decide)
  have hb5 : w5.heap[a]? = some (.cells (s.cellsOf vr vs vp) 86 (0, 0)) := (hk.block a H.lt n1).trans H.blk
  have kset : Keeps (fun k => k = a) w5 (w5.setCell ⟨a, 9, none⟩ v5) := (Keeps.refl _ w5).set 9 _
  refine ⟨⟨?_, ?_, ?_, ?_⟩, (hk.mono (fun i _ h => .inr h)).trans kset (fun _ _ h => .inl h)⟩
  · exact (heap_set hb5).trans (by simp [StV.cellsOf])
  · refine own_keep (own_keep H.res (fun g hg => hk.block g (H.res.lt g hg).2 (fun e => own_ne2 H.res H.sam (by decide) g hg e))) (fun g hg => kset.block g (Nat.lt_of_lt_of_le (H.res.lt g hg).2 hk.size) ?_)
    intro e; subst e; exact own_ne H.res H.blk (by decide) hg
  · refine own_keep hr (fun g hg => kset.block g (hr.lt g hg).2 ?_)
    intro e; subst e; rw [hb] at hg; exact n1 hg
  · refine own_keep (own_keep H.pla (fun g hg => hk.block g (H.pla.lt g hg).2 (fun e => own_ne2 H.pla H.sam (by decide) g hg e))) (fun g hg => kset.block g (Nat.lt_of_lt_of_le (H.pla.lt g hg).2 hk.size) ?_)
    intro e; subst e; exact own_ne H.pla H.blk (by decide) hg

set_option maxHeartbeats 1000000 in
set_option maxRecDepth 100000 in
theorem cut_ok (a : Nat) (s : StV) (vr vs vp : Value) (pl : List PlV) (b off c : Nat) (w : World) (h : StIs w a s vr vs vp) (hok : s.ok) (hn : pl.length = s.res.length * s.shards.toNat) (hpl : RowAt w b off (plVals pl)) (hb : vp.ownBlock ≠ some b) :
    Calls Try.prog 15 #[.pointer (some ⟨a, 0, none⟩), .slice (some ⟨b, off, none⟩) pl.length c] w
      fun e w' => e = .returned (.tuple #[.int .i64 ((s.samples.length : Int) - (cutSt s pl).samples.length), .nilIface]) ∧ ∃ vs', StIs w' a (cutSt s pl) vr vs' vp ∧ vs'.ownBlock = vs.ownBlock ∧ Keeps (foot a vs vp) w w' := by
  have hs1 := hok.s1
  have hs4 := hok.s4
  have hr3 := hok.r3
  have hplen := hok.pl
  obtain ⟨sn, hsn⟩ : ∃ sn : Nat, s.shards = sn := ⟨s.shards.toNat, by omega⟩
  have hnb : 1 ≤ pl.length ∧ pl.length ≤ 12 := by
    rw [hn, hsn]
    simp only [Int.toNat_natCast]
    have h1 : 1 * 1 ≤ s.res.length * sn := Nat.mul_le_mul hok.r1 (by omega)
    have h2 : s.res.length * sn ≤ 3 * 4 := Nat.mul_le_mul hr3 (by omega)
    omega
  obtain ⟨hn1, hn12⟩ := hnb
  obtain ⟨rb, rc, rfl, _, _⟩ := own_some h.res hok.r1
  obtain ⟨gp, cp, hvp, _, _⟩ := own_some h.pla (by rw [hplen, ← hn]; exact hn1)
  subst hvp
  have c0 : w.cell? ⟨a, 0, none⟩ = some (.slice (some ⟨rb, 0, none⟩) s.res.length rc) := h.cell 0 _ rfl
  have c1 : w.cell? ⟨a, 1, none⟩ = some (.int .i64 s.shards) := h.cell 1 _ rfl
  have d0 := alloc_old (o := .cells #[.pointer (some ⟨a, 0, none⟩)] 28) c0
  have d1 := alloc_old (o := .cells #[.pointer (some ⟨a, 0, none⟩)] 28) c1
  have HOK := Lib.hid hok
  have g1 : ((pl.length : Int) != (s.res.length : Int) * s.shards) = false := by
    rw [hsn] at hn ⊢
    simp only [Int.toNat_natCast] at hn
    have : ((s.res.length * sn : Nat) : Int) = (s.res.length : Int) * (sn : Int) := by simp
    have e : (pl.length : Int) = (s.res.length : Int) * (sn : Int) := by omega
    simp [e]
  have HN : Hid (pl.length = s.places.length) := by show _ = _; rw [hplen, hn]
  have H := Lib.hid h
  have HPL := Lib.hid hpl
  have HB := Lib.hid hb
  clear h hok c0 c1 hsn hn hplen hpl hb
  go_enter Try.func15, Try.ntmps15
  go_wp2_with (go_at_call 34; refine (lanes_any (.slice (some ⟨rb, 0, none⟩) s.res.length rc) (some ⟨rb, 0, none⟩) s.res.length rc s.shards _ (by omega) hs1 (by omega)).mono ?_; rintro e w2 ⟨rfl, hb2⟩; have HB2 := Lib.hid ((below_alloc w _).trans (hb2.mono (by simp))); have hx2 := old_cell hb2 (box_cell w _ _ _ 0 _ rfl) (by simp); have HX2 := Lib.hid hx2; clear hb2 hx2)
  go_loopw [6, 7, 24] (fun _ _ ik wr => ∃ k : Nat, k ≤ pl.length ∧ ik = .int .i64 k ∧ StIs wr a { s with places := raiseP s.places (pl.take k) } (.slice (some ⟨rb, 0, none⟩) s.res.length rc) vs (.slice (some ⟨gp, 0, none⟩) s.places.length cp) ∧
      wr.cell? ⟨w.heap.size, 0, none⟩ = some (.pointer (some ⟨a, 0, none⟩)) ∧ Keeps (fun i => i = gp) w wr) (fun _ _ ik _ => pl.length - (intOf ik).toNat)
  case atStart =>
    refine ⟨0, Nat.zero_le _, rfl, ?_, HX2.out, Keeps.of_below HB2.out _ (fun i h1 h2 => by omega)⟩
    rw [List.take_zero, raiseP_nil]
    exact H.out.below HB2.out
  case round =>
    obtain ⟨k, hk, rfl, hst, hx, hkeep⟩ := hrel
    by_cases hlt : k < pl.length
    · have hkp : k < s.places.length := by rw [← HN.out]; exact hlt
      have hgb : gp ≠ b := fun e => HB.out (by rw [e]; rfl)
      obtain ⟨p1, p2⟩ := HPL.out.pl k hlt
      have hbl := cell_lt p1
      have q1 : wr.cell? ⟨b, off + k * 2, none⟩ = some (.int .i64 (pln pl k).win) := (World.cell?_of_block (a := ⟨b, off + k * 2, none⟩) (hkeep.block b hbl (fun e => hgb e.symm))).trans p1
      have q2 : wr.cell? ⟨b, off + k * 2 + 1, none⟩ = some (.int .i64 (pln pl k).key) := (World.cell?_of_block (a := ⟨b, off + k * 2 + 1, none⟩) (hkeep.block b hbl (fun e => hgb e.symm))).trans p2
      have e10 : wr.cell? ⟨a, 10, none⟩ = some (.slice (some ⟨gp, 0, none⟩) s.places.length cp) := hst.cell 10 _ rfl
      have hrl : (raiseP s.places (pl.take k)).length = s.places.length := raiseP_len _ _
      obtain ⟨r1, r2⟩ := (own_row hst.pla).pl k (by show k < (raiseP s.places (pl.take k)).length; rw [hrl]; exact hkp)
      have hat : pln (raiseP s.places (pl.take k)) k = pln s.places k := raiseP_at _ _ _ (by rw [List.length_take]; omega)
      simp only at r1 r2
      rw [hat, Nat.zero_add] at r1 r2
      have HSTEP : Hid (raiseP s.places (pl.take (k + 1)) = (raiseP s.places (pl.take k)).set k (maxP (pln s.places k) (pln pl k))) := raise_step s.places pl k hlt HN.out
      have HSAME : Hid ((raiseP s.places (pl.take k)).set k (pln s.places k) = raiseP s.places (pl.take k)) := by
        show _ = _
        rw [← hat]; exact set_same _ _ (by rw [hrl]; exact hkp)
      have HRL := Lib.hid hrl
      have HST := Lib.hid hst
      have HKEEP := Lib.hid hkeep
      clear hst hkeep p1 p2 hat hrl
      have e10a := alloc_old (o := .cells #[.int .i64 (pln pl k).win, .int .i64 (pln pl k).key] 49) e10
      have r1a := alloc_old (o := .cells #[.int .i64 (pln pl k).win, .int .i64 (pln pl k).key] 49) r1
      have r2a := alloc_old (o := .cells #[.int .i64 (pln pl k).win, .int .i64 (pln pl k).key] 49) r2
      have hxa := alloc_old (o := .cells #[.int .i64 (pln pl k).win, .int .i64 (pln pl k).key] 49) hx
      cases hl : lessP (pln s.places k).win (pln s.places k).key (pln pl k).win (pln pl k).key
      · have HL := Lib.hid hl
        clear hl
        go_wp2
        go_region_held3 (fun w' => w'.cell? ⟨wr.heap.size, 0, none⟩ = some (.int .i64 (pln pl k).win) ∧ w'.cell? ⟨wr.heap.size, 1, none⟩ = some (.int .i64 (pln pl k).key) ∧ w'.cell? ⟨gp, k * 2, none⟩ = some (.int .i64 (pln s.places k).win) ∧ w'.cell? ⟨gp, k * 2 + 1, none⟩ = some (.int .i64 (pln s.places k).key) ∧ w'.cell? ⟨a, 10, none⟩ = some (.slice (some ⟨gp, 0, none⟩) s.places.length cp) ∧ w'.cell? ⟨w.heap.size, 0, none⟩ = some (.pointer (some ⟨a, 0, none⟩))) (go_keep)
          (first | (go_at_call 38; obtain ⟨s0, s1, s2, s3, s4, s5⟩ := ‹_ ∧ _ ∧ _ ∧ _ ∧ _ ∧ _›; refine (less_any _ _ _ _ _).mono ?_; rw [HL.out]; rintro e w3 ⟨rfl, hbl⟩; have HB3 := Lib.hid (((below_alloc wr _).drew).trans (hbl.mono (by simp))); replace s0 := old_cell hbl s0 (cell_lt s0); replace s1 := old_cell hbl s1 (cell_lt s1); replace s2 := old_cell hbl s2 (cell_lt s2); replace s3 := old_cell hbl s3 (cell_lt s3); replace s4 := old_cell hbl s4 (cell_lt s4); replace s5 := old_cell hbl s5 (cell_lt s5)))
        go_wp2
        go_roundw
        case rel =>
          refine ⟨k + 1, by omega, by go_num, ?_, s5, HKEEP.out.trans (Keeps.of_below HB3.out _ (fun i h1 h2 => by omega)) (fun _ _ h => h)⟩
          have e : maxP (pln s.places k) (pln pl k) = pln s.places k := by unfold maxP PlV.less; rw [HL.out]; rfl
          rw [HSTEP.out, e, HSAME.out]
          exact HST.out.below HB3.out
        case measure => simp [intOf]; omega
      · have HL := Lib.hid hl
        clear hl
        go_wp2
        go_region_held3 (fun w' => w'.cell? ⟨wr.heap.size, 0, none⟩ = some (.int .i64 (pln pl k).win) ∧ w'.cell? ⟨wr.heap.size, 1, none⟩ = some (.int .i64 (pln pl k).key) ∧ w'.cell? ⟨gp, k * 2, none⟩ = some (.int .i64 (pln s.places k).win) ∧ w'.cell? ⟨gp, k * 2 + 1, none⟩ = some (.int .i64 (pln s.places k).key) ∧ w'.cell? ⟨a, 10, none⟩ = some (.slice (some ⟨gp, 0, none⟩) s.places.length cp) ∧ w'.cell? ⟨w.heap.size, 0, none⟩ = some (.pointer (some ⟨a, 0, none⟩))) (go_keep)
          (first | (go_at_call 38; obtain ⟨s0, s1, s2, s3, s4, s5⟩ := ‹_ ∧ _ ∧ _ ∧ _ ∧ _ ∧ _›; refine (less_any _ _ _ _ _).mono ?_; rw [HL.out]; rintro e w3 ⟨rfl, hbl⟩; have HB3 := Lib.hid (((below_alloc wr _).drew).trans (hbl.mono (by simp))); replace s0 := old_cell hbl s0 (cell_lt s0); replace s1 := old_cell hbl s1 (cell_lt s1); replace s2 := old_cell hbl s2 (cell_lt s2); replace s3 := old_cell hbl s3 (cell_lt s3); replace s4 := old_cell hbl s4 (cell_lt s4); replace s5 := old_cell hbl s5 (cell_lt s5)))
        have HS3 := Lib.hid (HST.out.below HB3.out)
        have f1 := own_frozen HS3.out.pla (k * 2)
        have f2 := own_frozen HS3.out.pla (k * 2 + 1)
        go_wp2
        go_region
        all_goals
          go_wp2
          go_roundw
          case rel =>
            refine ⟨k + 1, by omega, by go_num, ?_, ?_, ?_⟩
            · have e : maxP (pln s.places k) (pln pl k) = pln pl k := by unfold maxP PlV.less; rw [HL.out]; rfl
              rw [HSTEP.out, e]
              have q := (HST.out.below (below_drewN HB3.out 1)).setPl (by show _ = (raiseP s.places (pl.take k)).length; rw [HRL.out]) k (pln pl k) (by show k < (raiseP s.places (pl.take k)).length; rw [HRL.out]; exact hkp)
              exact q
            · have kk : Keeps (fun i => i = gp) w3 ((w3.setCell ⟨gp, k * 2, none⟩ (.int .i64 (pln pl k).win)).setCell ⟨gp, k * 2 + 1, none⟩ (.int .i64 (pln pl k).key)) := ((Keeps.refl _ w3).set _ _).set _ _
              exact (World.cell?_of_block (a := ⟨w.heap.size, 0, none⟩) (kk.block w.heap.size (cell_lt s5) (by omega))).trans s5
            · have kk : Keeps (fun i => i = gp) w3 ((w3.setCell ⟨gp, k * 2, none⟩ (.int .i64 (pln pl k).win)).setCell ⟨gp, k * 2 + 1, none⟩ (.int .i64 (pln pl k).key)) := ((Keeps.refl _ w3).set _ _).set _ _
              exact ((HKEEP.out.trans (Keeps.of_below HB3.out (fun i => i = gp) (fun i h1 h2 => by omega)) (fun _ _ h => h)).trans kk (fun _ _ h => h)).drew
          case measure => simp [intOf]; omega
    · have e : k = pl.length := by omega
      subst e
      rw [List.take_length] at hst
      have HST := Lib.hid hst
      have HKEEP := Lib.hid hkeep
      have hok2 : StV.ok { s with places := raiseP s.places pl } := { HOK.out with pl := by show (raiseP s.places pl).length = _; rw [raiseP_len]; exact HOK.out.pl }
      have HOK2 := Lib.hid hok2
      obtain ⟨A, cap, hv⟩ : ∃ A cap, vs = .slice A s.samples.length cap := by
        rcases own_sl hst.sam with ⟨h1, h2, _⟩ | ⟨b, off, c, h1, _⟩
        · exact ⟨none, 0, by rw [h1]; simp at h2; rw [h2]; rfl⟩
        · exact ⟨some ⟨b, off, none⟩, c, h1⟩
      subst hv
      have e9 : wr.cell? ⟨a, 9, none⟩ = some (.slice A s.samples.length cap) := hst.cell 9 _ rfl
      have HSD : Hid (StIs wr.drew a { s with places := raiseP s.places pl } (.slice (some ⟨rb, 0, none⟩) s.res.length rc) (.slice A s.samples.length cap) (.slice (some ⟨gp, 0, none⟩) s.places.length cp)) := hst.below ((Below.refl _ _).drew)
      have hne : (Value.slice A s.samples.length cap).ownBlock ≠ some w.heap.size := fun e => by have := (H.out.sam.lt _ e).2; omega
      have HNE := Lib.hid hne
      have hgl : (StV.places { s with places := raiseP s.places pl }).length = s.places.length := raiseP_len _ _
      have HASK := Lib.hid (cut_ask_all (w2 := wr.drew) (bx := w.heap.size) (s := { s with places := raiseP s.places pl }) (c := rc) (pc := cp) HOK2.out (by rw [hgl]; exact HSD.out) hx hne)
      have hfl := fil_len (fun i => covered (idsOf (opn s.samples i) s.res s.shards) (raiseP s.places pl)) s.samples 0
      have hsl := HOK.out.sl
      have HFIL : Hid (fil (fun i => covered (idsOf (opn s.samples i) s.res s.shards) (raiseP s.places pl)) 0 s.samples = (cutSt s pl).samples) :=
        fil_filter (fun o => covered (idsOf o s.res s.shards) (raiseP s.places pl)) s.samples _ 0 (fun k hk => by rw [Nat.zero_add])
      have hal := HSD.out.lt
      obtain ⟨l5, hl5⟩ : ∃ l5, l5 = fil (fun i => covered (idsOf (opn s.samples i) s.res s.shards) (raiseP s.places pl)) 0 s.samples := ⟨_, rfl⟩
      have HDEL : Hid (Calls Try.prog 39 #[.slice A s.samples.length cap, .func (.func 40) #[] #[.pointer (some ⟨w.heap.size, 0, none⟩)]] wr.drew
          (SomeV fun v' w' => w'.ownsRow 0 34 5 v' l5.length (opVals l5) ∧ v'.ownBlock = (Value.slice A s.samples.length cap).ownBlock ∧ Keeps (fun k => (Value.slice A s.samples.length cap).ownBlock = some k) wr.drew w')) := by
        rw [hl5]
        exact delop_any 40 callCut (.pointer (some ⟨w.heap.size, 0, none⟩)) s.samples (.slice A s.samples.length cap) 0 (fun i => covered (idsOf (opn s.samples i) s.res s.shards) (raiseP s.places pl)) _ hsl HSD.out.sam HASK.out
      rw [← hl5] at hfl HFIL
      have HL5 := Lib.hid hl5
      have HX := Lib.hid hx
      clear hst hkeep hok2 hne hgl hl5 HASK
      go_wp2
      go_region_law (first | (go_simp; go_at_call 39; ((with_reducible refine HDEL.out.mono ?_); rintro e w5 ⟨v5, rfl, hr5, ho5, hk5⟩; obtain ⟨A5, c5, hv5⟩ := own_slice hr5; subst hv5; have hb5 := (hk5.block a hal (own_ne HSD.out.sam HSD.out.blk (by decide))).trans HSD.out.blk; have e9' : w5.cell? ⟨a, 9, none⟩ = some (.slice A s.samples.length cap) := blk_cell hb5 9 _ rfl; have f9' := blk_frozen hb5 9; have hx5 : w5.cell? ⟨w.heap.size, 0, none⟩ = some (.pointer (some ⟨a, 0, none⟩)) := (World.cell?_of_block (a := ⟨w.heap.size, 0, none⟩) (hk5.block w.heap.size (cell_lt HX.out) HNE.out)).trans HX.out; have HR5 := Lib.hid hr5; have HO5 := Lib.hid ho5; have HK5 := Lib.hid hk5; clear hr5 ho5 hk5 hb5)))
      all_goals
        go_wp2
        go_ret2
        have e5 := HFIL.out
        subst e5
        have q := cut_fin HSD.out HK5.out HR5.out HO5.out
        refine ⟨rfl, .slice A5 (cutSt s pl).samples.length c5, q.1, HO5.out, ?_⟩
        exact ((HKEEP.out.mono (fun i _ h => .inr (.inr (by rw [h]; rfl)))).drew).trans q.2 (fun i _ h => by rcases h with h | h; exact .inl h; exact .inr (.inl h))
end Go.Proofs.Ytomekiidgdkmiaa
