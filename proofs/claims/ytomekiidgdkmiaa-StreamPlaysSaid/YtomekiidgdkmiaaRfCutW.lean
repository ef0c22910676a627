/-
  The document's stream: Cut, walked.
-/
import Derived.Test.YtomekiidgdkmiaaRfCut
import Derived.Deep.RegionLaw
namespace Go.Proofs.Ytomekiidgdkmiaa
open Go.RowKit
set_option linter.unusedVariables false
set_option linter.unusedSimpArgs false

def covR (r : RfV) (pl : List PlV) (o : OpV) : Bool := covered (idsOf o r.res r.shards) (raiseP r.places pl)
def cutR (r : RfV) (pl : List PlV) : RfV := { r with places := raiseP r.places pl, gone := goneC (covR r pl) r.ops r.gone }
theorem rcut_bad (b : Nat) (r : RfV) (vr vo vg vp : Value) (A : Option Addr) (n c : Nat) (w : World) (h : RfIs w b r vr vo vg vp) (hn : n ≠ r.places.length) (hn2 : n ≤ 9223372036854775807) :
    Calls Try.prog 51 #[.pointer (some ⟨b, 0, none⟩), .slice A n c] w
      fun e w' => e = .returned (.tuple #[.int .i64 0, .int .i64 2]) ∧ Below w.heap.size w w' := by
  obtain ⟨Ap, cp, rfl⟩ := own_slice h.pla
  have c6 : w.cell? ⟨b, 6, none⟩ = some (.slice Ap r.places.length cp) := h.cell 6 _ rfl
  have g1 : ((n : Int) != (r.places.length : Int)) = true := by simp; omega
  clear h hn
  go_enter Try.func51, Try.ntmps51
  go_wp2
  go_ret2
  exact ⟨rfl, Below.refl _ _⟩

theorem cov_at {w : World} {b rb rc gp cp m : Nat} {r : RfV} {pl : List PlV} {vo vg : Value} (h : RfIs w b { r with places := raiseP r.places pl, gone := goneK (covR r pl) r.ops r.gone m } (.slice (some ⟨rb, 0, none⟩) r.res.length rc) vo vg (.slice (some ⟨gp, 0, none⟩) r.places.length cp)) (hok : r.ok) (y : OpV) (ht : I64 y.time) (hk : I64 y.key) :
    Calls Try.prog 63 #[.agg #[.int .i64 y.seq, .int .i64 y.kind, .int .i64 y.time, .int .i64 y.key, .int .i64 y.val], .slice (some ⟨rb, 0, none⟩) r.res.length rc, .int .i64 r.shards, .slice (some ⟨gp, 0, none⟩) r.places.length cp] w
      fun e w' => e = .returned (.bool (covR r pl y)) ∧ Below w.heap.size w w' := by
  have hl : (raiseP r.places pl).length = r.places.length := raiseP_len _ _
  have := rcov_any y rb 0 rc r.res r.shards gp 0 cp (raiseP r.places pl) w (by have := hok.r3; omega) hok.r1 (fun i hi => by have := (own_row h.res).int i hi; exact this) hok.rr ht hk hok.s1 (by have := hok.s4; omega) (own_row h.pla) (by rw [hl]; exact hok.pl)
  rw [hl] at this
  exact this
set_option maxHeartbeats 4000000 in
set_option maxRecDepth 100000 in
theorem rcut_ok (b : Nat) (r : RfV) (vr vo vg vp : Value) (pl : List PlV) (pb off c : Nat) (w : World) (h : RfIs w b r vr vo vg vp) (hok : r.ok) (hn : pl.length = r.places.length) (hpl : RowAt w pb off (plVals pl)) (hb : vp.ownBlock ≠ some pb) (hg0 : vg.ownBlock ≠ some pb) :
    Calls Try.prog 51 #[.pointer (some ⟨b, 0, none⟩), .slice (some ⟨pb, off, none⟩) pl.length c] w
      fun e w' => e = .returned (.tuple #[.int .i64 (((heldR r.ops r.gone).length : Int) - (heldR r.ops (cutR r pl).gone).length), .int .i64 0]) ∧ RfIs w' b (cutR r pl) vr vo vg vp ∧ Keeps (fun k => vg.ownBlock = some k ∨ vp.ownBlock = some k) w w' := by
  have hplen := hok.pl
  have hnb : 1 ≤ pl.length ∧ pl.length ≤ 12 := by
    rw [hn, hplen]
    have h1 : 1 * 1 ≤ r.res.length * r.shards.toNat := Nat.mul_le_mul hok.r1 (by have := hok.s1; omega)
    have h2 : r.res.length * r.shards.toNat ≤ 3 * 4 := Nat.mul_le_mul hok.r3 (by have := hok.s4; omega)
    omega
  obtain ⟨hn1, hn12⟩ := hnb
  obtain ⟨gp, cp, hvp, _, _⟩ := own_some h.pla (by omega)
  subst hvp
  have HN : Hid (pl.length = r.places.length) := hn
  have H := Lib.hid h
  have HOK := Lib.hid hok
  have HPL := Lib.hid hpl
  have HB := Lib.hid hb
  have HG0 := Lib.hid hg0
  have g1 : ((pl.length : Int) != (r.places.length : Int)) = false := by simp [hn]
  have c6 : w.cell? ⟨b, 6, none⟩ = some (.slice (some ⟨gp, 0, none⟩) r.places.length cp) := h.cell 6 _ rfl
  clear h hok hn hpl hb hg0 hplen
  go_enter Try.func51, Try.ntmps51
  go_wp2
  go_loopw [6] (fun ik wr => ∃ k : Nat, k ≤ pl.length ∧ ik = .int .i64 k ∧ RfIs wr b { r with places := raiseP r.places (pl.take k) } vr vo vg (.slice (some ⟨gp, 0, none⟩) r.places.length cp) ∧ Keeps (fun i => i = gp) w wr) (fun ik _ => pl.length - (intOf ik).toNat)
  case atStart =>
    refine ⟨0, Nat.zero_le _, rfl, ?_, Keeps.refl _ _⟩
    rw [List.take_zero, raiseP_nil]
    exact H.out
  case round =>
    obtain ⟨k, hk, rfl, hst, hkeep⟩ := hrel
    by_cases hlt : k < pl.length
    · have hkp : k < r.places.length := by rw [← HN.out]; exact hlt
      have hgb : gp ≠ pb := fun e => HB.out (by rw [e]; rfl)
      obtain ⟨p1, p2⟩ := HPL.out.pl k hlt
      have hbl := cell_lt p1
      have q1 : wr.cell? ⟨pb, off + k * 2, none⟩ = some (.int .i64 (pln pl k).win) := (World.cell?_of_block (a := ⟨pb, off + k * 2, none⟩) (hkeep.block pb hbl (fun e => hgb e.symm))).trans p1
      have q2 : wr.cell? ⟨pb, off + k * 2 + 1, none⟩ = some (.int .i64 (pln pl k).key) := (World.cell?_of_block (a := ⟨pb, off + k * 2 + 1, none⟩) (hkeep.block pb hbl (fun e => hgb e.symm))).trans p2
      have e6 : wr.cell? ⟨b, 6, none⟩ = some (.slice (some ⟨gp, 0, none⟩) r.places.length cp) := hst.cell 6 _ rfl
      have hrl : (raiseP r.places (pl.take k)).length = r.places.length := raiseP_len _ _
      obtain ⟨r1, r2⟩ := (own_row hst.pla).pl k (by show k < (raiseP r.places (pl.take k)).length; rw [hrl]; exact hkp)
      have hat : pln (raiseP r.places (pl.take k)) k = pln r.places k := raiseP_at _ _ _ (by rw [List.length_take]; omega)
      simp only at r1 r2
      rw [hat, Nat.zero_add] at r1 r2
      have HSTEP : Hid (raiseP r.places (pl.take (k + 1)) = (raiseP r.places (pl.take k)).set k (maxP (pln r.places k) (pln pl k))) := raise_step r.places pl k hlt HN.out
      have HSAME : Hid ((raiseP r.places (pl.take k)).set k (pln r.places k) = raiseP r.places (pl.take k)) := by
        show _ = _
        rw [← hat]; exact set_same _ _ (by rw [hrl]; exact hkp)
      have HRL := Lib.hid hrl
      have HST := Lib.hid hst
      have HKEEP := Lib.hid hkeep
      clear hst hkeep p1 p2 hat hrl c6
      cases hl : lessP (pln r.places k).win (pln r.places k).key (pln pl k).win (pln pl k).key
      · have HL := Lib.hid hl
        clear hl
        go_wp2
        go_region_held3 (fun w' => w'.cell? ⟨pb, off + k * 2, none⟩ = some (.int .i64 (pln pl k).win) ∧ w'.cell? ⟨pb, off + k * 2 + 1, none⟩ = some (.int .i64 (pln pl k).key) ∧ w'.cell? ⟨gp, k * 2, none⟩ = some (.int .i64 (pln r.places k).win) ∧ w'.cell? ⟨gp, k * 2 + 1, none⟩ = some (.int .i64 (pln r.places k).key) ∧ w'.cell? ⟨b, 6, none⟩ = some (.slice (some ⟨gp, 0, none⟩) r.places.length cp)) (first | exact ⟨s0, s1, s2, s3, s4⟩ | go_simp)
          ((go_at_call 18; refine (rless_any _ _ _ _ _).mono ?_; rw [HL.out]; rintro e w3 ⟨rfl, hbl3⟩; have HB3 := Lib.hid (undrew2 hbl3); have s0 := old_cell (undrew2 hbl3) q1 (cell_lt q1); have s1 := old_cell (undrew2 hbl3) q2 (cell_lt q2); have s2 := old_cell (undrew2 hbl3) r1 (cell_lt r1); have s3 := old_cell (undrew2 hbl3) r2 (cell_lt r2); have s4 := old_cell (undrew2 hbl3) e6 (cell_lt e6); clear hbl3))
        go_wp2
        go_roundw
        case rel =>
          refine ⟨k + 1, by omega, by go_num, ?_, HKEEP.out.trans (Keeps.of_below HB3.out _ (fun i h1 h2 => by omega)) (fun _ _ h => h)⟩
          have e : maxP (pln r.places k) (pln pl k) = pln r.places k := by unfold maxP PlV.less; rw [HL.out]; rfl
          rw [HSTEP.out, e, HSAME.out]
          exact HST.out.below HB3.out
        case measure => simp [intOf]; omega
      · have HL := Lib.hid hl
        clear hl
        go_wp2
        go_region_held3 (fun w' => w'.cell? ⟨pb, off + k * 2, none⟩ = some (.int .i64 (pln pl k).win) ∧ w'.cell? ⟨pb, off + k * 2 + 1, none⟩ = some (.int .i64 (pln pl k).key) ∧ w'.cell? ⟨gp, k * 2, none⟩ = some (.int .i64 (pln r.places k).win) ∧ w'.cell? ⟨gp, k * 2 + 1, none⟩ = some (.int .i64 (pln r.places k).key) ∧ w'.cell? ⟨b, 6, none⟩ = some (.slice (some ⟨gp, 0, none⟩) r.places.length cp)) (first | exact ⟨s0, s1, s2, s3, s4⟩ | go_simp)
          ((go_at_call 18; refine (rless_any _ _ _ _ _).mono ?_; rw [HL.out]; rintro e w3 ⟨rfl, hbl3⟩; have HB3 := Lib.hid (undrew2 hbl3); have s0 := old_cell (undrew2 hbl3) q1 (cell_lt q1); have s1 := old_cell (undrew2 hbl3) q2 (cell_lt q2); have s2 := old_cell (undrew2 hbl3) r1 (cell_lt r1); have s3 := old_cell (undrew2 hbl3) r2 (cell_lt r2); have s4 := old_cell (undrew2 hbl3) e6 (cell_lt e6); clear hbl3))
        have HS3 := Lib.hid (HST.out.below HB3.out)
        have f1 := own_frozen HS3.out.pla (k * 2)
        have f2 := own_frozen HS3.out.pla (k * 2 + 1)
        go_wp2
        go_region
        all_goals
          go_wp2
          go_roundw
          case rel =>
            refine ⟨k + 1, by omega, by go_num, ?_, ?_⟩
            · have e : maxP (pln r.places k) (pln pl k) = pln pl k := by unfold maxP PlV.less; rw [HL.out]; rfl
              rw [HSTEP.out, e]
              have q := (HST.out.below (below_drewN HB3.out 1)).setPl (by show _ = (raiseP r.places (pl.take k)).length; rw [HRL.out]) k (pln pl k) (by show k < (raiseP r.places (pl.take k)).length; rw [HRL.out]; exact hkp)
              exact q
            · have kk : Keeps (fun i => i = gp) w3 ((w3.setCell ⟨gp, k * 2, none⟩ (.int .i64 (pln pl k).win)).setCell ⟨gp, k * 2 + 1, none⟩ (.int .i64 (pln pl k).key)) := ((Keeps.refl _ w3).set _ _).set _ _
              exact ((HKEEP.out.trans (Keeps.of_below HB3.out (fun i => i = gp) (fun i h1 h2 => by omega)) (fun _ _ h => h)).trans kk (fun _ _ h => h)).drew
          case measure => simp [intOf]; omega
    · have e : k = pl.length := by omega
      subst e
      rw [List.take_length] at hst
      have HST := Lib.hid hst
      have HKEEP := Lib.hid hkeep
      obtain ⟨rb, rc, rfl, _, _⟩ := own_some hst.res HOK.out.r1
      obtain ⟨Ao, co, rfl⟩ := own_slice hst.ops
      obtain ⟨Ag, cg, rfl⟩ := own_slice hst.gone
      have hol := HOK.out.ol
      have HGL := Lib.hid HOK.out.gl
      have hgl2 : r.gone.length ≤ r.ops.length ∧ r.ops.length ≤ r.gone.length := by have := HOK.out.gl; omega
      obtain ⟨hgl3, hgl4⟩ := hgl2
      clear hst hkeep hlt hk c6
      go_wp2
      go_loopw [7, 8] (fun n i wz => ∃ m : Nat, m ≤ r.ops.length ∧ i = .int .i64 m ∧ n = .int .i64 (cntG (covR r pl) r.ops r.gone m) ∧ RfIs wz b { r with places := raiseP r.places pl, gone := goneK (covR r pl) r.ops r.gone m } (.slice (some ⟨rb, 0, none⟩) r.res.length rc) (.slice Ao r.ops.length co) (.slice Ag r.gone.length cg) (.slice (some ⟨gp, 0, none⟩) r.places.length cp) ∧ Keeps (fun k => (Value.slice Ag r.gone.length cg).ownBlock = some k) wr wz) (fun _ i _ => r.ops.length - (intOf i).toNat)
      case atStart =>
        refine ⟨0, Nat.zero_le _, rfl, rfl, ?_, Keeps.refl _ _⟩
        rw [goneK_zero]
        exact HST.out
      case round =>
        rename World => wz
        obtain ⟨m, hm, rfl, rfl, hrf, hkz⟩ := hrel
        have HRF := Lib.hid hrf
        have HKZ := Lib.hid hkz
        have hcn := cntG_le (covR r pl) r.ops r.gone m
        have c4 : wz.cell? ⟨b, 4, none⟩ = some (.slice Ao r.ops.length co) := hrf.cell 4 _ rfl
        have c5 : wz.cell? ⟨b, 5, none⟩ = some (.slice Ag r.gone.length cg) := hrf.cell 5 _ rfl
        by_cases hml : m < r.ops.length
        · have hmg : m < r.gone.length := by omega
          obtain ⟨g, og, rfl, hg, hrow⟩ := sl_row (own_sl hrf.ops) (by show 0 < r.ops.length; omega)
          have hgn0 := hrf.gone
          have hgk : (goneK (covR r pl) r.ops r.gone m).length = r.gone.length := goneK_len _ _ _ _ (by omega)
          simp only [hgk] at hgn0
          obtain ⟨gg, cg2, hvg, hgg1, hgg2⟩ := own_some hgn0 (by omega)
          simp only [Value.slice.injEq] at hvg
          obtain ⟨rfl, _, rfl⟩ := hvg
          obtain ⟨p0, p1, p2, p3, p4⟩ := hrow.op m hml
          have q0 := (own_row hgn0).bool m (by rw [hgk]; exact hmg)
          rw [goneK_at _ _ _ _ hmg, Nat.zero_add] at q0
          simp only at p0 p1 p2 p3 p4
          have f0 := own_frozen hgn0 m
          have HCN := Lib.hid (cntG_snoc (covR r pl) r.ops r.gone m hml HOK.out.gl)
          have HGC := Lib.hid (goneC_at (covR r pl) r.ops r.gone m hml HOK.out.gl)
          have HGS : Hid (bon (goneC (covR r pl) r.ops r.gone) m = bon r.gone m → goneK (covR r pl) r.ops r.gone (m + 1) = goneK (covR r pl) r.ops r.gone m) := goneK_same _ _ _ _ hml HOK.out.gl
          have HGT : Hid (bon (goneC (covR r pl) r.ops r.gone) m = true → goneK (covR r pl) r.ops r.gone (m + 1) = (goneK (covR r pl) r.ops r.gone m).set m true) := goneK_set _ _ _ _ hml HOK.out.gl
          have HGK := Lib.hid hgk
          have hm1 := HOK.out.st (opn r.ops m) (by rw [← opn_get hml]; exact List.getElem_mem hml)
          have HT := Lib.hid hm1
          have HCVE : Hid (covR r pl (opn r.ops m) = covered (idsOf (opn r.ops m) r.res r.shards) (raiseP r.places pl)) := rfl
          clear hrf hkz hrow hgn0 hgk hm1
          generalize opn r.ops m = y at *
          by_cases hk1 : y.kind = 1
          · have g2 : (y.kind == 1) = true := by simp [hk1]
            have HK1 := Lib.hid hk1
            clear hk1
            cases hgn : bon r.gone m
            · rw [hgn] at q0
              have HGN := Lib.hid hgn
              clear hgn
              have c0 : wz.cell? ⟨b, 0, none⟩ = some (.slice (some ⟨rb, 0, none⟩) r.res.length rc) := HRF.out.cell 0 _ rfl
              have c1 : wz.cell? ⟨b, 1, none⟩ = some (.int .i64 r.shards) := HRF.out.cell 1 _ rfl
              have c6 : wz.cell? ⟨b, 6, none⟩ = some (.slice (some ⟨gp, 0, none⟩) r.places.length cp) := HRF.out.cell 6 _ rfl
              have HCV := Lib.hid (cov_at (r := r) (pl := pl) (HRF.out.below ((Below.refl _ wz).drew)) HOK.out y HT.out.1 HT.out.2)
              cases hcv : covR r pl y
              · have HC := Lib.hid hcv
                clear hcv
                go_wp2
                go_region_held3 (fun w' => w'.cell? ⟨b, 0, none⟩ = some (.slice (some ⟨rb, 0, none⟩) r.res.length rc) ∧ w'.cell? ⟨b, 1, none⟩ = some (.int .i64 r.shards) ∧ w'.cell? ⟨b, 4, none⟩ = some (.slice (some ⟨g, og, none⟩) r.ops.length co) ∧ w'.cell? ⟨b, 5, none⟩ = some (.slice (some ⟨gg, 0, none⟩) r.gone.length cg) ∧ w'.cell? ⟨b, 6, none⟩ = some (.slice (some ⟨gp, 0, none⟩) r.places.length cp) ∧ w'.cell? ⟨g, og + m * 5, none⟩ = some (.int .i64 y.seq) ∧ w'.cell? ⟨g, og + m * 5 + 1, none⟩ = some (.int .i64 y.kind) ∧ w'.cell? ⟨g, og + m * 5 + 2, none⟩ = some (.int .i64 y.time) ∧ w'.cell? ⟨g, og + m * 5 + 3, none⟩ = some (.int .i64 y.key) ∧ w'.cell? ⟨g, og + m * 5 + 4, none⟩ = some (.int .i64 y.val) ∧ w'.cell? ⟨gg, m, none⟩ = some (.bool false)) (first | exact ⟨s0, s1, s2, s3, s4, s5, s6, s7, s8, s9, s10⟩ | go_simp)
                  ((go_at_call 63; refine HCV.out.mono ?_; rw [HC.out]; rintro e w3 ⟨rfl, hbl3⟩; have HB3 := Lib.hid (undrew2 hbl3); have s0 := old_cell (undrew2 hbl3) c0 (cell_lt c0); have s1 := old_cell (undrew2 hbl3) c1 (cell_lt c1); have s2 := old_cell (undrew2 hbl3) c4 (cell_lt c4); have s3 := old_cell (undrew2 hbl3) c5 (cell_lt c5); have s4 := old_cell (undrew2 hbl3) c6 (cell_lt c6); have s5 := old_cell (undrew2 hbl3) p0 (cell_lt p0); have s6 := old_cell (undrew2 hbl3) p1 (cell_lt p1); have s7 := old_cell (undrew2 hbl3) p2 (cell_lt p2); have s8 := old_cell (undrew2 hbl3) p3 (cell_lt p3); have s9 := old_cell (undrew2 hbl3) p4 (cell_lt p4); have s10 := old_cell (undrew2 hbl3) q0 (cell_lt q0); clear hbl3))
                go_wp2
                go_roundw
                case rel =>
                  refine ⟨m + 1, by omega, by go_num, by rw [HCN.out, HC.out]; simp, ?_, HKZ.out.trans (Keeps.of_below HB3.out (fun _ => False) (fun i h1 h2 => by omega)) (fun _ _ h => h.elim)⟩
                  rw [HGS.out (by rw [HGC.out, HC.out, HGN.out]; simp)]
                  exact HRF.out.below HB3.out
                case measure => simp [intOf]; omega
              · have HC := Lib.hid hcv
                clear hcv
                go_wp2
                go_region_held3 (fun w' => w'.cell? ⟨b, 0, none⟩ = some (.slice (some ⟨rb, 0, none⟩) r.res.length rc) ∧ w'.cell? ⟨b, 1, none⟩ = some (.int .i64 r.shards) ∧ w'.cell? ⟨b, 4, none⟩ = some (.slice (some ⟨g, og, none⟩) r.ops.length co) ∧ w'.cell? ⟨b, 5, none⟩ = some (.slice (some ⟨gg, 0, none⟩) r.gone.length cg) ∧ w'.cell? ⟨b, 6, none⟩ = some (.slice (some ⟨gp, 0, none⟩) r.places.length cp) ∧ w'.cell? ⟨g, og + m * 5, none⟩ = some (.int .i64 y.seq) ∧ w'.cell? ⟨g, og + m * 5 + 1, none⟩ = some (.int .i64 y.kind) ∧ w'.cell? ⟨g, og + m * 5 + 2, none⟩ = some (.int .i64 y.time) ∧ w'.cell? ⟨g, og + m * 5 + 3, none⟩ = some (.int .i64 y.key) ∧ w'.cell? ⟨g, og + m * 5 + 4, none⟩ = some (.int .i64 y.val) ∧ w'.cell? ⟨gg, m, none⟩ = some (.bool false)) (first | exact ⟨s0, s1, s2, s3, s4, s5, s6, s7, s8, s9, s10⟩ | go_simp)
                  ((go_at_call 63; refine HCV.out.mono ?_; rw [HC.out]; rintro e w3 ⟨rfl, hbl3⟩; have HB3 := Lib.hid (undrew2 hbl3); have s0 := old_cell (undrew2 hbl3) c0 (cell_lt c0); have s1 := old_cell (undrew2 hbl3) c1 (cell_lt c1); have s2 := old_cell (undrew2 hbl3) c4 (cell_lt c4); have s3 := old_cell (undrew2 hbl3) c5 (cell_lt c5); have s4 := old_cell (undrew2 hbl3) c6 (cell_lt c6); have s5 := old_cell (undrew2 hbl3) p0 (cell_lt p0); have s6 := old_cell (undrew2 hbl3) p1 (cell_lt p1); have s7 := old_cell (undrew2 hbl3) p2 (cell_lt p2); have s8 := old_cell (undrew2 hbl3) p3 (cell_lt p3); have s9 := old_cell (undrew2 hbl3) p4 (cell_lt p4); have s10 := old_cell (undrew2 hbl3) q0 (cell_lt q0); clear hbl3))
                have f3 : w3.frozen? ⟨gg, m, none⟩ = false := by
                  have hx := (HRF.out.below HB3.out).gone
                  simp only [HGK.out] at hx
                  exact own_frozen hx m
                go_wp2
                go_roundw
                case rel =>
                  refine ⟨m + 1, by omega, by go_num, by rw [HCN.out, if_pos ⟨⟨HK1.out, HGN.out⟩, HC.out⟩]; go_num, ?_, ?_⟩
                  · rw [HGT.out (by rw [HGC.out, HC.out, HK1.out]; simp)]
                    exact (HRF.out.below HB3.out).setGone (by show r.gone.length = (goneK (covR r pl) r.ops r.gone m).length; rw [HGK.out]) m true
                  · exact (HKZ.out.trans (Keeps.of_below HB3.out (fun _ => False) (fun i h1 h2 => by omega)) (fun _ _ h => h.elim)).trans (keeps_set _ gg m _) (fun i _ h => by rw [h]; rfl)
                case measure => simp [intOf]; omega
            · rw [hgn] at q0
              have HGN := Lib.hid hgn
              clear hgn
              go_wp2
              go_quiet (fail)
              go_wp2
              go_roundw
              case rel =>
                refine ⟨m + 1, by omega, by go_num, by rw [HCN.out, HGN.out]; simp, ?_, HKZ.out.drewN _⟩
                rw [HGS.out (by rw [HGC.out, HGN.out]; rfl)]
                exact HRF.out.below (below_drewN (Below.refl _ _) _)
              case measure => simp [intOf]; omega
          · have g2 : (y.kind == 1) = false := by simp [hk1]
            have HK1 := Lib.hid hk1
            clear hk1
            go_wp2
            go_quiet (fail)
            go_wp2
            go_roundw
            case rel =>
              refine ⟨m + 1, by omega, by go_num, by rw [HCN.out]; simp [HK1.out], ?_, HKZ.out.drewN _⟩
              rw [HGS.out (by rw [HGC.out]; simp [HK1.out])]
              exact HRF.out.below (below_drewN (Below.refl _ _) _)
            case measure => simp [intOf]; omega
        · have e : m = r.ops.length := by omega
          subst e
          have HCE := Lib.hid (cntG_end (covR r pl) r.ops r.gone HOK.out.gl)
          have HGE := Lib.hid (goneK_end (covR r pl) r.ops r.gone HOK.out.gl)
          clear hrf hkz
          go_wp2
          go_ret2
          refine ⟨by rw [HCE.out]; rfl, ?_, ?_⟩
          · have := HRF.out
            rw [HGE.out] at this
            exact this
          · exact (HKEEP.out.mono (fun i _ h => .inr (by rw [h]; rfl))).trans HKZ.out (fun i _ h => .inl h)
end Go.Proofs.Ytomekiidgdkmiaa
