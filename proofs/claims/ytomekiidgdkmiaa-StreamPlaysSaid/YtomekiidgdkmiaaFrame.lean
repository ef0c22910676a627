/-
  What every row of this seat shares: its frame behind a walk that returned true and changed nothing that was there.
-/
import Derived.Test.YtomekiidgdkmiaaRows
import Derived.Test.YtomekiidgdkmiaaErrs
import Derived.ProofKit
namespace Go.Proofs.Ytomekiidgdkmiaa
open Go.ChangeShapes Go.WideShapes Go.ChangeAt Go.RowKit
set_option linter.unusedVariables false

theorem Try.own : ownKnob Try.prog.godebug = none := by kernel_rfl
theorem Try.laidOut : laidOutB Try.prog = true := by kernel_rfl

theorem args_stay {H : Type} {enc : TypeId × Value → H} {P : Program} (hl : laidOutB P = true) {W W' : World} (hb : Below W.heap.size W W') :
    ∀ {ts : List TypeId} {vs : List Value} {ds : List (DataW H)} {ps : List MemPlace}, (∀ t ∈ ts, P.readableRec t = true ∧ t < P.types.size) → DataW.TrodAll enc P W 0 (fun _ => true) true ts vs ds ps → (∀ x ∈ ps, x.block < W.heap.size) →
      DataW.TrodAll enc P W' 0 (fun b => decide (b < W.heap.size)) true ts vs ds ps
  | [], vs, ds, ps, _, h, _ => by
    obtain ⟨rfl, rfl, rfl⟩ := trodAll_nil h
    exact rfl
  | t :: ts, vs, ds, ps, ht, h, hx => by
    obtain ⟨v, vs1, d, ds1, a, b, rfl, rfl, rfl, h1, h2⟩ := trodAll_cons h
    exact ⟨a, b, Below.trod hl (ht t (by simp)).1 (ht t (by simp)).2 h1 hb (fun x hx' => hx x (by simp [hx'])), args_stay hl hb (fun t' ht' => ht t' (by simp [ht'])) h2 (fun x hx' => hx x (by simp [hx'])), rfl⟩

theorem law_post {H : Type} {enc : TypeId × Value → H} {P : Program} {f : Func} {s : ChangeSpec} {W W' : World} {args : Array Value} {ds : List (DataW H)} {before : List MemPlace} {tb : TypeId} (hl : laidOutB P = true)
    (hW : DataW.Whole enc P f.params.toList s.vars false W args.toList ds [] before) (hA : DataW.TrodAll enc P W 0 (fun _ => true) true f.params.toList args.toList ds before) (hv : s.vars = [])
    (hT : f.resultTypes = #[tb]) (hbt : P.underlying tb = some .bool) (hs : s.fn H (ds ++ []) = { results := [.lit (.bool true)], args := ds })
    (ht : (f.params.toList.all fun t => P.readableRec t && decide (t < P.types.size)) = true) (hb : Below W.heap.size W W') :
    s.post enc P f false true false false W args (.bool true) W' := by
  refine ⟨ds, [], before, [], before, [], hW, ?_, ?_, ?_, hb.frame _, fun h => by cases h⟩
  · rw [hs, hT]
    exact trodAll_mk1 (shut_bool hbt true)
  · rw [hs]
    exact args_stay hl hb (fun t h => by have := List.all_eq_true.1 ht t h; simpa using this) hA (fun x hx => by simpa using hW.lt x hx)
  · rw [hs, hv]
    rfl
theorem i64_of {n : Int} (h : (Lit.int .i64 n).wf = true) : I64 n := by
  have h1 : IntKind.i64.min = -9223372036854775808 := rfl
  have h2 : IntKind.i64.max = 9223372036854775807 := rfl
  simp only [Lit.wf, Bool.and_eq_true, decide_eq_true_eq] at h
  constructor <;> omega
theorem add_plain (b off j : Nat) : (⟨b, off, none⟩ : Addr).add j = ⟨b, off + j, none⟩ := by unfold Addr.add; split <;> simp_all
theorem nth_take (zs : List Int) (len i : Nat) (h : i < len) : nth (zs.take len) i = zs.getD i 0 := by
  simp [nth, List.getD_eq_getElem?_getD, h]
end Go.Proofs.Ytomekiidgdkmiaa
