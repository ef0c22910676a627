/-
  No cell of these rows narrows 'for every input' (looked for: loops, veiled, ifaces, maps, wideKeys, modest, calm, conditions, laid).
  DERIVED. THE GIVEN ROWS OF THIS SEAT. 6 by the template 'for every input the law returns true; each argument reads behind the call as it read before'; 0 by the template 'total and deterministic' (their statements: YtomekiidgdkmiaaTotals.lean).
  GIVEN WITH THE SEED: the statements are not yours to turn. If you find one false, say at which input.
  Laid BY PROGRAM, IN A SANDBOX (cutbox-rows.mjs): the forced cells as the released guide's own fill.sh prints them over the translation 284cf01cef0a8cca… (all of the seat's roots in one cut). By AI agents, Wed Nov 11 2026. No macro, syntax, notation, axiom, sorry.
-/
import Derived.Test.YtomekiidgdkmiaaChecked
import GoSem.Claim
import GoSem.ClaimJoined
import GoSem.ClaimMapViews
import Derived.JoinedTies
import Derived.KernelRfl
namespace Go.Proofs.Ytomekiidgdkmiaa
/- THE CELL 'sum', in the pinned program and in every row, IS THE sha256 OF THE DUMP (.gsa) THAT YtomekiidgdkmiaaProg.lean LOADS. Nothing in Lean hashes anything: it is a label: what it is worth is what the hold of that sum in a sandbox is worth. -/
noncomputable def Try.pinned : Pinned := { name := "ytomekiidgdkmiaa", sum := "284cf01cef0a8cca2c08a840f28cd98ae1028402fcc03919139b7caffd3c53f1", checked := Try.checked }
namespace Rows
def none {H : Type} : Left H := { results := [], args := [] }

/-- 'estuarylaw14.StreamDrops': WHATEVER THE INPUT: true; the input reads as it did. -/
def streamDropsSpec : ChangeSpec := { name := "streamDrops", fn := fun _ => fun
  | [d1, d2] => { results := [.lit (.bool true)], args := [d1, d2] }
  | _ => none }
def streamDropsRow : OpenClaim := { program := "ytomekiidgdkmiaa", sum := "284cf01cef0a8cca2c08a840f28cd98ae1028402fcc03919139b7caffd3c53f1", func := "estuary/estuarylaw14.StreamDrops", spec := "streamDrops", inPlace := ["slices.overlaps[estuary/api.Op]"], unfollowed := true, recurses := true, apart := false }
def StreamDropsSaid : Prop := streamDropsRow.holds Try.pinned (OpenSpec.ofChange streamDropsSpec)

/-- ITS FALSE NEIGHBOUR: 'it returns false'. Refute it at one input. -/
def streamDropsWrong : ChangeSpec := { name := "streamDrops", fn := fun _ => fun
  | [d1, d2] => { results := [.lit (.bool false)], args := [d1, d2] }
  | _ => none }
def StreamDropsWrongFalsely : Prop := streamDropsRow.holds Try.pinned (OpenSpec.ofChange streamDropsWrong)

/-- 'estuarylaw14.StreamFull': WHATEVER THE INPUT: true; the input reads as it did. -/
def streamFullSpec : ChangeSpec := { name := "streamFull", fn := fun _ => fun
  | [d1, d2, d3] => { results := [.lit (.bool true)], args := [d1, d2, d3] }
  | _ => none }
def streamFullRow : OpenClaim := { program := "ytomekiidgdkmiaa", sum := "284cf01cef0a8cca2c08a840f28cd98ae1028402fcc03919139b7caffd3c53f1", func := "estuary/estuarylaw14.StreamFull", spec := "streamFull", inPlace := ["slices.overlaps[estuary/api.Op]"], unfollowed := true, recurses := true, apart := false }
def StreamFullSaid : Prop := streamFullRow.holds Try.pinned (OpenSpec.ofChange streamFullSpec)

/-- ITS FALSE NEIGHBOUR: 'it returns false'. Refute it at one input. -/
def streamFullWrong : ChangeSpec := { name := "streamFull", fn := fun _ => fun
  | [d1, d2, d3] => { results := [.lit (.bool false)], args := [d1, d2, d3] }
  | _ => none }
def StreamFullWrongFalsely : Prop := streamFullRow.holds Try.pinned (OpenSpec.ofChange streamFullWrong)

/-- 'estuarylaw14.StreamRises': WHATEVER THE INPUT: true; the input reads as it did. -/
def streamRisesSpec : ChangeSpec := { name := "streamRises", fn := fun _ => fun
  | [d] => { results := [.lit (.bool true)], args := [d] }
  | _ => none }
def streamRisesRow : OpenClaim := { program := "ytomekiidgdkmiaa", sum := "284cf01cef0a8cca2c08a840f28cd98ae1028402fcc03919139b7caffd3c53f1", func := "estuary/estuarylaw14.StreamRises", spec := "streamRises", inPlace := ["slices.overlaps[estuary/api.Op]"], unfollowed := true, recurses := true, apart := false }
def StreamRisesSaid : Prop := streamRisesRow.holds Try.pinned (OpenSpec.ofChange streamRisesSpec)

/-- ITS FALSE NEIGHBOUR: 'it returns false'. Refute it at one input. -/
def streamRisesWrong : ChangeSpec := { name := "streamRises", fn := fun _ => fun
  | [d] => { results := [.lit (.bool false)], args := [d] }
  | _ => none }
def StreamRisesWrongFalsely : Prop := streamRisesRow.holds Try.pinned (OpenSpec.ofChange streamRisesWrong)

/-- 'estuarylaw14.StreamReplays': WHATEVER THE INPUT: true; the input reads as it did. -/
def streamReplaysSpec : ChangeSpec := { name := "streamReplays", fn := fun _ => fun
  | [d1, d2] => { results := [.lit (.bool true)], args := [d1, d2] }
  | _ => none }
def streamReplaysRow : OpenClaim := { program := "ytomekiidgdkmiaa", sum := "284cf01cef0a8cca2c08a840f28cd98ae1028402fcc03919139b7caffd3c53f1", func := "estuary/estuarylaw14.StreamReplays", spec := "streamReplays", inPlace := ["slices.overlaps[estuary/api.Op]"], unfollowed := true, recurses := true, apart := false }
def StreamReplaysSaid : Prop := streamReplaysRow.holds Try.pinned (OpenSpec.ofChange streamReplaysSpec)

/-- ITS FALSE NEIGHBOUR: 'it returns false'. Refute it at one input. -/
def streamReplaysWrong : ChangeSpec := { name := "streamReplays", fn := fun _ => fun
  | [d1, d2] => { results := [.lit (.bool false)], args := [d1, d2] }
  | _ => none }
def StreamReplaysWrongFalsely : Prop := streamReplaysRow.holds Try.pinned (OpenSpec.ofChange streamReplaysWrong)

/-- 'estuarylaw14.StreamPlays': WHATEVER THE INPUT: true; the input reads as it did. -/
def streamPlaysSpec : ChangeSpec := { name := "streamPlays", fn := fun _ => fun
  | [d] => { results := [.lit (.bool true)], args := [d] }
  | _ => none }
def streamPlaysRow : OpenClaim := { program := "ytomekiidgdkmiaa", sum := "284cf01cef0a8cca2c08a840f28cd98ae1028402fcc03919139b7caffd3c53f1", func := "estuary/estuarylaw14.StreamPlays", spec := "streamPlays", inPlace := ["slices.overlaps[estuary/api.Op]"], unfollowed := true, recurses := true, apart := false }
def StreamPlaysSaid : Prop := streamPlaysRow.holds Try.pinned (OpenSpec.ofChange streamPlaysSpec)

/-- ITS FALSE NEIGHBOUR: 'it returns false'. Refute it at one input. -/
def streamPlaysWrong : ChangeSpec := { name := "streamPlays", fn := fun _ => fun
  | [d] => { results := [.lit (.bool false)], args := [d] }
  | _ => none }
def StreamPlaysWrongFalsely : Prop := streamPlaysRow.holds Try.pinned (OpenSpec.ofChange streamPlaysWrong)

/-- 'estuarylaw14.StreamRestores': WHATEVER THE INPUT: true; the input reads as it did. -/
def streamRestoresSpec : ChangeSpec := { name := "streamRestores", fn := fun _ => fun
  | [d1, d2] => { results := [.lit (.bool true)], args := [d1, d2] }
  | _ => none }
def streamRestoresRow : OpenClaim := { program := "ytomekiidgdkmiaa", sum := "284cf01cef0a8cca2c08a840f28cd98ae1028402fcc03919139b7caffd3c53f1", func := "estuary/estuarylaw14.StreamRestores", spec := "streamRestores", inPlace := ["slices.overlaps[estuary/api.Op]"], unfollowed := true, recurses := true, apart := false }
def StreamRestoresSaid : Prop := streamRestoresRow.holds Try.pinned (OpenSpec.ofChange streamRestoresSpec)

/-- ITS FALSE NEIGHBOUR: 'it returns false'. Refute it at one input. -/
def streamRestoresWrong : ChangeSpec := { name := "streamRestores", fn := fun _ => fun
  | [d1, d2] => { results := [.lit (.bool false)], args := [d1, d2] }
  | _ => none }
def StreamRestoresWrongFalsely : Prop := streamRestoresRow.holds Try.pinned (OpenSpec.ofChange streamRestoresWrong)

/- THE SECOND FORM. 'bulk': how many values and letters a reading holds, each counted each time it is reached (what is shared counts as often as it is met; a slice's spare places count too). A statement '..UptoSaid' is the law's where the arguments, and the package variables that the reading takes, are together of bulk at most 1048576: NARROWER than '..Said'. Prove '..Said' where nothing that the law and all that it calls make is longer than what came in: it says more and counts as full. Else prove '..UptoSaid'. A law counts once. -/
mutual
def uptoBulk {H : Type} : DataW H → Nat
  | .lit (.string bytes) => bytes.length + 1
  | .lit _ => 1
  | .nil => 1
  | .ptr d => uptoBulk d + 1
  | .slice elems spare => uptoBulkAll elems + uptoBulkAll spare + 1
  | .agg parts => uptoBulkAll parts + 1
  | .iface _ d => uptoBulk d + 1
  | .map entries => uptoBulkEntries entries + 1
  | .held _ => 1
def uptoBulkAll {H : Type} : List (DataW H) → Nat
  | [] => 0
  | d :: r => uptoBulk d + uptoBulkAll r
def uptoBulkEntries {H : Type} : List (Lit × DataW H) → Nat
  | [] => 0
  | x :: r => uptoBulkEntry x + uptoBulkEntries r
def uptoBulkEntry {H : Type} : Lit × DataW H → Nat
  | (.string bytes, d) => bytes.length + uptoBulk d + 1
  | (_, d) => uptoBulk d + 1
 end
def uptoSmall : (H : Type) → List (DataW H) → Bool := fun _ ds => decide (uptoBulkAll ds ≤ 1048576)
def OpenSpec.upto (s : _root_.Go.ChangeSpec) : _root_.Go.OpenSpec := { _root_.Go.OpenSpec.ofChange s with cond := some uptoSmall }

/-- 'estuarylaw14.StreamDrops', WHERE WHAT IT READS IS OF BULK AT MOST 1048576: true; the input reads as it did. -/
def streamDropsUptoRow : OpenClaim := { program := "ytomekiidgdkmiaa", sum := "284cf01cef0a8cca2c08a840f28cd98ae1028402fcc03919139b7caffd3c53f1", func := "estuary/estuarylaw14.StreamDrops", spec := "streamDrops", inPlace := ["slices.overlaps[estuary/api.Op]"], unfollowed := true, recurses := true, apart := false, narrowed := true }
def StreamDropsUptoSaid : Prop := streamDropsUptoRow.holds Try.pinned (OpenSpec.upto streamDropsSpec)

/-- 'estuarylaw14.StreamFull', WHERE WHAT IT READS IS OF BULK AT MOST 1048576: true; the input reads as it did. -/
def streamFullUptoRow : OpenClaim := { program := "ytomekiidgdkmiaa", sum := "284cf01cef0a8cca2c08a840f28cd98ae1028402fcc03919139b7caffd3c53f1", func := "estuary/estuarylaw14.StreamFull", spec := "streamFull", inPlace := ["slices.overlaps[estuary/api.Op]"], unfollowed := true, recurses := true, apart := false, narrowed := true }
def StreamFullUptoSaid : Prop := streamFullUptoRow.holds Try.pinned (OpenSpec.upto streamFullSpec)

/-- 'estuarylaw14.StreamRises', WHERE WHAT IT READS IS OF BULK AT MOST 1048576: true; the input reads as it did. -/
def streamRisesUptoRow : OpenClaim := { program := "ytomekiidgdkmiaa", sum := "284cf01cef0a8cca2c08a840f28cd98ae1028402fcc03919139b7caffd3c53f1", func := "estuary/estuarylaw14.StreamRises", spec := "streamRises", inPlace := ["slices.overlaps[estuary/api.Op]"], unfollowed := true, recurses := true, apart := false, narrowed := true }
def StreamRisesUptoSaid : Prop := streamRisesUptoRow.holds Try.pinned (OpenSpec.upto streamRisesSpec)

/-- 'estuarylaw14.StreamReplays', WHERE WHAT IT READS IS OF BULK AT MOST 1048576: true; the input reads as it did. -/
def streamReplaysUptoRow : OpenClaim := { program := "ytomekiidgdkmiaa", sum := "284cf01cef0a8cca2c08a840f28cd98ae1028402fcc03919139b7caffd3c53f1", func := "estuary/estuarylaw14.StreamReplays", spec := "streamReplays", inPlace := ["slices.overlaps[estuary/api.Op]"], unfollowed := true, recurses := true, apart := false, narrowed := true }
def StreamReplaysUptoSaid : Prop := streamReplaysUptoRow.holds Try.pinned (OpenSpec.upto streamReplaysSpec)

/-- 'estuarylaw14.StreamPlays', WHERE WHAT IT READS IS OF BULK AT MOST 1048576: true; the input reads as it did. -/
def streamPlaysUptoRow : OpenClaim := { program := "ytomekiidgdkmiaa", sum := "284cf01cef0a8cca2c08a840f28cd98ae1028402fcc03919139b7caffd3c53f1", func := "estuary/estuarylaw14.StreamPlays", spec := "streamPlays", inPlace := ["slices.overlaps[estuary/api.Op]"], unfollowed := true, recurses := true, apart := false, narrowed := true }
def StreamPlaysUptoSaid : Prop := streamPlaysUptoRow.holds Try.pinned (OpenSpec.upto streamPlaysSpec)

/-- 'estuarylaw14.StreamRestores', WHERE WHAT IT READS IS OF BULK AT MOST 1048576: true; the input reads as it did. -/
def streamRestoresUptoRow : OpenClaim := { program := "ytomekiidgdkmiaa", sum := "284cf01cef0a8cca2c08a840f28cd98ae1028402fcc03919139b7caffd3c53f1", func := "estuary/estuarylaw14.StreamRestores", spec := "streamRestores", inPlace := ["slices.overlaps[estuary/api.Op]"], unfollowed := true, recurses := true, apart := false, narrowed := true }
def StreamRestoresUptoSaid : Prop := streamRestoresUptoRow.holds Try.pinned (OpenSpec.upto streamRestoresSpec)

end Rows
end Go.Proofs.Ytomekiidgdkmiaa
