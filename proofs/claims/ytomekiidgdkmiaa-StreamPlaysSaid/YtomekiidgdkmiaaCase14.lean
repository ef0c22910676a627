/-
  The stream chapter's laws: what they share (New at a case, boxes, contracts at any footprint).
-/
import Derived.Test.YtomekiidgdkmiaaAlive14
import Derived.Test.YtomekiidgdkmiaaScript14
import Derived.Test.YtomekiidgdkmiaaNumOps
namespace Go.Proofs.Ytomekiidgdkmiaa
open Go.RowKit
set_option linter.unusedVariables false
set_option linter.unusedSimpArgs false

theorem new_case {w w' : World} {x : CaseV} (h : Opened w intV I64 x.res x.rA x.rn x.rc) (hb : Below w.heap.size w w') (hok : newOk x.res x.shards x.hold) :
    Calls Try.prog 11 #[.slice x.rA x.rn x.rc, .int .i64 x.shards, .int .i64 x.hold] w'
      fun e w2 => ∃ a, e = .returned (.tuple #[.pointer (some ⟨a, 0, none⟩), .nilIface]) ∧ SB w'.heap.size w2 a (newSt x.res x.shards x.hold (x.res.length * x.shards.toNat)) ∧ Below w'.heap.size w' w2 := by
  have hr := h.row hok.1
  rw [flat_int] at hr
  have h1 := hok.1
  obtain ⟨b, off, hA, hbl, hrow⟩ := sl_row hr h1
  rw [← h.len, hA]
  exact new_b x.res b off x.rc x.shards x.hold w' (fun j u hj => old_cell hb (hrow j u hj) hbl) hok (fun i hi => h.ok _ (nth_mem hi))
theorem new_case_bad {w w' : World} {x : CaseV} (h : Opened w intV I64 x.res x.rA x.rn x.rc) (hb : Below w.heap.size w w') (hok : ¬ newOk x.res x.shards x.hold) :
    Calls Try.prog 11 #[.slice x.rA x.rn x.rc, .int .i64 x.shards, .int .i64 x.hold] w'
      fun e w2 => e = .returned (.tuple #[.pointer none, .iface 44 (.int .i64 2)]) ∧ w' = w2 := by
  by_cases h0 : 0 < x.res.length
  · have hr := h.row h0
    rw [flat_int] at hr
    rw [← h.len]
    exact new_bad x.res _ x.shards x.hold w' (hr.below hb) hok
  · rw [← h.len]
    exact new_len _ _ _ x.shards x.hold w' (.inl (by omega))

theorem two_boxes {wr w5 : World} {cs1 cs2 : Array Value} {T1 T2 : TypeId} (hb : Below ((wr.alloc (.cells cs1 T1)).alloc (.cells cs2 T2)).heap.size ((wr.alloc (.cells cs1 T1)).alloc (.cells cs2 T2)) w5) :
    w5.heap[wr.heap.size]? = some (.cells cs1 T1 (0, 0)) ∧ w5.heap[wr.heap.size + 1]? = some (.cells cs2 T2 (0, 0)) := by
  have h1 := heap_alloc_new wr (.cells cs1 T1)
  have h2 := heap_alloc_new (wr.alloc (.cells cs1 T1)) (.cells cs2 T2)
  have e1 : (wr.alloc (.cells cs1 T1)).heap.size = wr.heap.size + 1 := by simp
  have e2 : ((wr.alloc (.cells cs1 T1)).alloc (.cells cs2 T2)).heap.size = wr.heap.size + 2 := by simp
  rw [e1] at h2
  refine ⟨?_, ?_⟩
  · rw [hb.block _ (by omega), Below.heap_alloc _ _ _ (by omega)]; exact h1
  · rw [hb.block _ (by omega)]; exact h2

theorem box5 {B : Nat} {w0 w5 : World} {z : Nat} {v0 v1 v2 v3 v4 : Value} (h : Below B w0 w5) (hz : B ≤ z) :
    Below B w0 (((((w5.setCell ⟨z, 0, none⟩ v0).setCell ⟨z, 1, none⟩ v1).setCell ⟨z, 2, none⟩ v2).setCell ⟨z, 3, none⟩ v3).setCell ⟨z, 4, none⟩ v4) :=
  ((((h.setCell hz v0).setCell hz v1).setCell hz v2).setCell hz v3).setCell hz v4

theorem box5_blk {w5 : World} {z : Nat} {c0 c1 c2 c3 c4 v0 v1 v2 v3 v4 : Value} {T : TypeId} (h : w5.heap[z]? = some (.cells #[c0, c1, c2, c3, c4] T (0, 0))) :
    (((((w5.setCell ⟨z, 0, none⟩ v0).setCell ⟨z, 1, none⟩ v1).setCell ⟨z, 2, none⟩ v2).setCell ⟨z, 3, none⟩ v3).setCell ⟨z, 4, none⟩ v4).heap[z]? = some (.cells #[v0, v1, v2, v3, v4] T (0, 0)) :=
  heap_set (heap_set (heap_set (heap_set (heap_set h))))
theorem box5_other {w5 : World} {z i : Nat} {v0 v1 v2 v3 v4 : Value} (h : i ≠ z) :
    (((((w5.setCell ⟨z, 0, none⟩ v0).setCell ⟨z, 1, none⟩ v1).setCell ⟨z, 2, none⟩ v2).setCell ⟨z, 3, none⟩ v3).setCell ⟨z, 4, none⟩ v4).heap[i]? = w5.heap[i]? := by
  rw [Below.heap_setCell _ _ _ _ h, Below.heap_setCell _ _ _ _ h, Below.heap_setCell _ _ _ _ h, Below.heap_setCell _ _ _ _ h, Below.heap_setCell _ _ _ _ h]
theorem box5_size {w5 : World} {z : Nat} {v0 v1 v2 v3 v4 : Value} :
    (((((w5.setCell ⟨z, 0, none⟩ v0).setCell ⟨z, 1, none⟩ v1).setCell ⟨z, 2, none⟩ v2).setCell ⟨z, 3, none⟩ v3).setCell ⟨z, 4, none⟩ v4).heap.size = w5.heap.size := by
  simp [World.setCell]

theorem next_sampled {F : Nat → Prop} {a : Nat} {s : StV} {o : OpV} {w : World} (h : Stm w a (sampled s o) F) :
    Calls Try.prog 19 #[.pointer (some ⟨a, 0, none⟩)] w fun e w' => e = .returned (.int .i64 (s.next + 1)) ∧ w = w' := by
  obtain ⟨_, vr, vs, vp, h1, _⟩ := h
  exact next_any a _ vr vs vp w h1
theorem next_marked {F : Nat → Prop} {a : Nat} {s : StV} {o : OpV} {w : World} (h : Stm w a (marked s o) F) :
    Calls Try.prog 19 #[.pointer (some ⟨a, 0, none⟩)] w fun e w' => e = .returned (.int .i64 (s.next + 1)) ∧ w = w' := by
  obtain ⟨_, vr, vs, vp, h1, _⟩ := h
  exact next_any a _ vr vs vp w h1
theorem put_seq_f {F : Nat → Prop} {a : Nat} {s : StV} {w : World} (q n t k x : Int) (h : Stm w a s F) (hq : q ≠ s.next) :
    Calls Try.prog 13 #[.pointer (some ⟨a, 0, none⟩), .agg #[.int .i64 q, .int .i64 n, .int .i64 t, .int .i64 k, .int .i64 x]] w
      fun e w' => e = .returned (.iface 44 (.int .i64 2)) ∧ Below w.heap.size w w' := by
  obtain ⟨_, vr, vs, vp, h1, _⟩ := h
  exact put_seq a s vr vs vp ⟨q, n, t, k, x⟩ w h1 hq
theorem last_none_f {F : Nat → Prop} {a : Nat} {s : StV} {w : World} (h : Stm w a s F) (hm : s.mark.seq = 0) :
    Calls Try.prog 21 #[.pointer (some ⟨a, 0, none⟩)] w
      fun e w' => e = .returned (.tuple #[.int .i64 0, .int .i64 0, .bool false]) ∧ Below w.heap.size w w' := by
  obtain ⟨_, vr, vs, vp, h1, _⟩ := h
  exact last_none a s vr vs vp w h1 hm
theorem last_some_f {F : Nat → Prop} {a : Nat} {s : StV} {w : World} (q t : Int) (h : Stm w a s F) (hm : s.mark.seq ≠ 0) (hq : s.mark.seq = q) (ht : s.mark.time = t) :
    Calls Try.prog 21 #[.pointer (some ⟨a, 0, none⟩)] w
      fun e w' => e = .returned (.tuple #[.int .i64 q, .int .i64 t, .bool true]) ∧ Below w.heap.size w w' := by
  obtain ⟨_, vr, vs, vp, h1, _⟩ := h
  subst hq; subst ht
  exact last_some a s vr vs vp w h1 hm

theorem case_box (w : World) (x : CaseV) (T : TypeId) : RowAt (w.alloc (.cells #[.slice x.rA x.rn x.rc, .int .i64 x.shards, .int .i64 x.hold, .slice x.sA x.sn x.sc] T)) w.heap.size 0 [.slice x.rA x.rn x.rc, .int .i64 x.shards, .int .i64 x.hold, .slice x.sA x.sn x.sc] :=
  row_new w _ T

theorem ScV.okIn.below {w w' : World} {s : ScV} (h : s.okIn w) (hb : Below w.heap.size w w') : s.okIn w' :=
  ⟨h.time, h.key, h.val, h.op, h.pls.below hb (fun _ h => h)⟩
theorem long_any' {x : CaseV} {w w' : World} (h : x.okIn w) (hb : Below w.heap.size w w') :
    Calls Try.prog 10 #[.agg #[.slice x.rA x.rn x.rc, .int .i64 x.shards, .int .i64 x.hold, .slice x.sA x.sn x.sc]] w' fun e w2 => ∃ q, e = .returned (.bool q) ∧ Below w'.heap.size w' w2 :=
  long_any x w' (h.script.below hb (fun _ h => h.below hb))

theorem Stm.up {w : World} {a : Nat} {s : StV} {F G : Nat → Prop} (h : Stm w a s F) (hG : ∀ k, F k → G k) : Stm w a s G := by
  obtain ⟨h0, vr, vs, vp, h1, h2⟩ := h
  exact ⟨h0, vr, vs, vp, h1, fun k hk => hG k (h2 k hk)⟩
end Go.Proofs.Ytomekiidgdkmiaa
