/-
  Contract of a stream's Replay, given what all answers.
-/
import Derived.Test.YtomekiidgdkmiaaDelOp2
import Derived.Test.YtomekiidgdkmiaaStmOps
namespace Go.Proofs.Ytomekiidgdkmiaa
open Go.RowKit
set_option linter.unusedVariables false
set_option linter.unusedSimpArgs false

theorem callReplay (args : Array Value) (wx : World) : (callFunc 45 args).run Try.prog wx = .ok (.enter 45 args) wx := by
  kernel_rfl

set_option maxRecDepth 100000 in
theorem replayask (o : OpV) (bx : Nat) (from_ : Int) (w : World) (hbx : w.cell? ⟨bx, 0, none⟩ = some (.int .i64 from_)) :
    Calls Try.prog 45 #[.agg #[.int .i64 o.seq, .int .i64 o.kind, .int .i64 o.time, .int .i64 o.key, .int .i64 o.val], .pointer (some ⟨bx, 0, none⟩)] w
      fun e w' => e = .returned (.bool (decide (o.seq < from_))) ∧ Below w.heap.size w w' := by
  have B0 := alloc_old (o := .cells #[.int .i64 o.seq, .int .i64 o.kind, .int .i64 o.time, .int .i64 o.key, .int .i64 o.val] 34) hbx
  clear hbx
  go_enter Try.func45, Try.ntmps45
  go_wp2
  go_ret
  exact ⟨rfl, below_alloc _ _⟩

/-- of a row those whose numbers aren't below from -/
def fromOn (l : List OpV) (from_ : Int) : List OpV := l.filter (fun o => !decide (o.seq < from_))

set_option maxHeartbeats 400000 in
set_option maxRecDepth 100000 in
theorem replay_all (a : Nat) (s : StV) (vr vs vp : Value) (L : List OpV) (from_ most : Int) (w : World) (h : StIs w a s vr vs vp) (hL : L.length ≤ 3000000000000)
    (hall : ∀ w1, Below w.heap.size w w1 → Calls Try.prog 44 #[.pointer (some ⟨a, 0, none⟩)] w1 (SomeV fun v' w' => w'.ownsRow w1.heap.size 34 5 v' L.length (opVals L) ∧ Below w1.heap.size w1 w'))
    (hm : ((fromOn L from_).length : Int) ≤ max most 0) (hn1 : 1 ≤ s.next) (hn2 : s.next ≤ 4611686018427387904) :
    Calls Try.prog 22 #[.pointer (some ⟨a, 0, none⟩), .int .i64 from_, .int .i64 most] w
      fun e w' => ∃ v', e = .returned (.tuple #[v', .int .i64 (s.next - 1)]) ∧ w'.ownsRow w.heap.size 34 5 v' (fromOn L from_).length (opVals (fromOn L from_)) ∧ Below w.heap.size w w' := by
  have H := Lib.hid h
  have HALL := Lib.hid hall
  have HF : Hid (fil (fun i => decide ((opn L i).seq < from_)) 0 L = fromOn L from_) := fil_filter (fun o => decide (o.seq < from_)) L _ 0 (fun k hk => by rw [Nat.zero_add])
  have HLT := Lib.hid h.lt
  have hx0 := box_cell w #[.int .i64 from_] 3 (0, 0) 0 _ rfl
  clear h hall
  go_enter Try.func22, Try.ntmps22
  go_wp2_with (first | (go_at_call 44; refine (HALL.out _ (below_alloc w _)).mono ?_; rintro e w1 ⟨v1, rfl, h1, hb1⟩; obtain ⟨A1, c1, hv1⟩ : ∃ A c, v1 = .slice A L.length c := (by rcases h1.2 with ⟨q, q2⟩ | ⟨g, cap, cur, q, _⟩; exact ⟨none, 0, by rw [q, q2]⟩; exact ⟨_, _, q⟩); subst hv1; have HB1 := Lib.hid hb1; have HR1 := Lib.hid h1; have HX1 := Lib.hid (old_cell hb1 hx0 (by simp)); clear h1 hb1) | (go_at_call 39; refine (delop_any 45 callReplay (.pointer (some ⟨w.heap.size, 0, none⟩)) L (.slice A1 L.length c1) _ (fun i => decide ((opn L i).seq < from_)) _ hL HR1.out (fun i w5 hi hk => replayask (opn L i) w.heap.size from_ w5 ((World.cell?_of_block (a := ⟨w.heap.size, 0, none⟩) (hk.block w.heap.size (cell_lt HX1.out) (fun e => by have := (HR1.out.lt _ e).1; simp at this; omega))).trans HX1.out))).mono ?_; rw [HF.out]; rintro e w2 ⟨v2, rfl, h2, ho2, hk2⟩; obtain ⟨A2, c2, hv2⟩ : ∃ A c, v2 = .slice A (fromOn L from_).length c := (by rcases h2.2 with ⟨q, q2⟩ | ⟨g, cap, cur, q, _⟩; exact ⟨none, 0, by rw [q, q2]⟩; exact ⟨_, _, q⟩); subst hv2; have HR2 := Lib.hid h2; have HO2 := Lib.hid ho2; have HK2 := Lib.hid hk2; have k3 : w2.cell? ⟨a, 3, none⟩ = some (.int .i64 s.next) := (World.cell?_of_block (a := ⟨a, 3, none⟩) (hk2.block a (Nat.lt_of_lt_of_le HLT.out (Nat.le_trans (by simp) HB1.out.size)) (fun e => by have := (HR1.out.lt _ e).1; have := HLT.out; simp at *; omega))).trans (old_cell ((below_alloc w _).trans (HB1.out.mono (by simp))) (H.out.cell 3 _ rfl) HLT.out); clear h2 ho2 hk2))
  all_goals
    go_quiet (fail)
    go_wp2
    go_ret2
    refine ⟨_, rfl, own_down HR2.out (by simp), below_drewN ((below_alloc w _).trans ((HB1.out.mono (by simp)).trans (HK2.out.below (Nat.le_trans (by simp) HB1.out.size) (fun i hi => by have := (HR1.out.lt _ hi).1; simp at this; omega)))) _⟩
end Go.Proofs.Ytomekiidgdkmiaa
