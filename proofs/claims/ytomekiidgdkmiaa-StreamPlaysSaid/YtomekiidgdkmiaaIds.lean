/-
  Contract of place.Ids.
-/
import Derived.Test.YtomekiidgdkmiaaCmp
import Derived.Deep.AppendLies
namespace Go.Proofs.Ytomekiidgdkmiaa
open Go.RowKit

theorem infoId : (Try.prog.info? 51).map (fun i => (i.zero, i.size, i.bytes)) = some (some (.agg #[.int .i64 0, .int .i64 0, .int .i64 0]), 3, 24) := by kernel_rfl

set_option maxHeartbeats 1000000 in
set_option maxRecDepth 100000 in
theorem ids_any (o : OpV) (b off c : Nat) (res : List Int) (sh : Int) (w : World) (hn : res.length ≤ 100)
    (hres : ∀ i, i < res.length → w.cell? ⟨b, off + i, none⟩ = some (.int .i64 (nth res i))) (hr : ∀ i, i < res.length → 1 ≤ nth res i ∧ nth res i ≤ 9223372036854775807)
    (ho : I64 o.time) (hs : 1 ≤ sh) (hs2 : sh ≤ 100) :
    Calls Try.prog 65 #[.agg #[.int .i64 o.seq, .int .i64 o.kind, .int .i64 o.time, .int .i64 o.key, .int .i64 o.val], .slice (some ⟨b, off, none⟩) res.length c, .int .i64 sh] w
      (SomeV fun v w' => w'.ownsRow w.heap.size 51 3 v res.length (idVals (idsOf o res sh)) ∧ Below w.heap.size w w') := by
  obtain ⟨i0, hi, hz0, hz1, hz2⟩ := info_parts infoId
  have HR := Lib.hid hres; clear hres
  have HR2 := Lib.hid hr; clear hr
  have HO := Lib.hid ho; clear ho
  have hmd := md_bd o.key sh hs
  go_enter Try.func65, Try.ntmps65
  go_wp2
  go_loopw [7, 8, 9, 12] (fun v _ _ i wr => ∃ k : Nat, k ≤ res.length ∧ i = .int .i64 k ∧ wr.ownsRow (w.heap.size + 1) 51 3 v k (idVals (idsOf o (res.take k) sh)) ∧ Below (w.heap.size + 1) (w.alloc (.cells #[.int .i64 o.seq, .int .i64 o.kind, .int .i64 o.time, .int .i64 o.key, .int .i64 o.val] 34)) wr) (fun _ _ _ i _ => res.length - (intOf i).toNat)
  case atStart => exact ⟨0, Nat.zero_le _, rfl, World.ownsRow_nil _ _ _ _, Below.refl _ _⟩
  case round =>
    obtain ⟨k, hk, rfl, hown, hbel⟩ := hrel
    have hall : Below w.heap.size w wr := (below_alloc w _).trans (hbel.mono (by omega))
    have hsz := hbel.size
    simp only [World.size_alloc] at hsz
    have c2 : wr.cell? ⟨w.heap.size, 2, none⟩ = some (.int .i64 o.time) := old_cell hbel (box_cell w _ _ _ 2 _ rfl) (by simp)
    have c3 : wr.cell? ⟨w.heap.size, 3, none⟩ = some (.int .i64 o.key) := old_cell hbel (box_cell w _ _ _ 3 _ rfl) (by simp)
    by_cases hlt : k < res.length
    · have hc0 := HR.out k hlt
      have hcell := old_cell hall hc0 (cell_lt hc0)
      have hr1 := (HR2.out k hlt).1
      have hr2 := (HR2.out k hlt).2
      have HOWN := Lib.hid hown
      have HBEL := Lib.hid hbel
      have HALL := Lib.hid hall
      clear hown hbel hall hc0
      go_wp2
      go_region_held3 (fun w' => w'.cell? ⟨w.heap.size, 2, none⟩ = some (.int .i64 o.time) ∧ w'.cell? ⟨w.heap.size, 3, none⟩ = some (.int .i64 o.key)) (first | exact ⟨‹_›, ‹_›⟩ | go_keep)
        (first | (go_at_call 71; refine (shard_any _ _ _ hs (by omega)).mono ?_; rintro e w' ⟨rfl, rfl⟩) | (go_at_call 70; refine (lane_any _ _ _ _ (by omega) (by omega) hs hs2 (by omega) (by omega)).mono ?_; rintro e w' ⟨rfl, rfl⟩) | (go_at_call 72; refine (div_any _ _ _ HO.out hr1 hr2).mono ?_; rintro e w' ⟨rfl, rfl⟩) | (refine step_append_lies _ rfl (.tmp 17) (.tmp 33) 46 rfl (w.heap.size + 1) 51 i0 (.agg #[.int .i64 0, .int .i64 0, .int .i64 0]) 3 24 Try.underlying46 hi hz0 hz1 hz2 rfl (by decide) _ k _ rfl (HOWN.out.alloc _).drew ⟨wr.heap.size, 0, none⟩ 1 1 (idOf o sh k (nth res k)).vals rfl rfl (new_row _ _ _) (by simp [IdV.vals, Value.oneCell']) (by omega) (by unfold maxLen; omega) (by omega) (by simp; omega) _ rfl ?_; intro g cap w1 hrow hg hat hgl; have hb1 := (((HBEL.out.alloc (by omega) _).drew).grown hg (by simp; omega) (fun k hk => (HOWN.out.lt k hk).1)); have c2' : w1.cell? ⟨w.heap.size, 2, none⟩ = some (.int .i64 o.time) := old_cell hb1 (box_cell w _ _ _ 2 _ rfl) (by simp); have c3' : w1.cell? ⟨w.heap.size, 3, none⟩ = some (.int .i64 o.key) := old_cell hb1 (box_cell w _ _ _ 3 _ rfl) (by simp)))
      go_wp2
      go_roundw
      case rel => exact ⟨k + 1, by omega, by go_num, by rw [ids_snoc o res sh k hlt, idVals_snoc]; exact hrow, hb1⟩
      case measure => simp [intOf]; omega
    · have e : k = res.length := by omega
      subst e
      have HOWN := Lib.hid hown
      have HALL := Lib.hid hall
      clear hown hall
      go_wp2
      go_ret
      have ho1 := HOWN.out
      rw [List.take_length] at ho1
      exact ⟨_, rfl, own_down ho1 (by omega), HALL.out⟩
end Go.Proofs.Ytomekiidgdkmiaa
