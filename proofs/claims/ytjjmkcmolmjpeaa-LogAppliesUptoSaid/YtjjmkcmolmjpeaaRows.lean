/-
  No cell of these rows narrows 'for every input' (looked for: loops, veiled, ifaces, maps, wideKeys, modest, calm, conditions, laid).
  DERIVED. THE GIVEN ROWS OF THIS SEAT. 7 by the template 'for every input the law returns true; each argument reads behind the call as it read before'; 0 by the template 'total and deterministic' (their statements: YtjjmkcmolmjpeaaTotals.lean).
  GIVEN WITH THE SEED: the statements are not yours to turn. If you find one false, say at which input.
  Laid BY PROGRAM, IN A SANDBOX (cutbox-rows.mjs): the forced cells as the released guide's own fill.sh prints them over the translation d1eb39b595e80b3b… (all of the seat's roots in one cut). By AI agents, Wed Nov 11 2026. No macro, syntax, notation, axiom, sorry.
-/
import Derived.Test.YtjjmkcmolmjpeaaChecked
import GoSem.Claim
import GoSem.ClaimJoined
import GoSem.ClaimMapViews
import Derived.JoinedTies
import Derived.KernelRfl
namespace Go.Proofs.Ytjjmkcmolmjpeaa
/- THE CELL 'sum', in the pinned program and in every row, IS THE sha256 OF THE DUMP (.gsa) THAT YtjjmkcmolmjpeaaProg.lean LOADS. Nothing in Lean hashes anything: it is a label: what it is worth is what the hold of that sum in a sandbox is worth. -/
noncomputable def Try.pinned : Pinned := { name := "ytjjmkcmolmjpeaa", sum := "d1eb39b595e80b3bbc276015903db2ae4c922cd9f6937aef3c1a32928dbdd1df", checked := Try.checked }
namespace Rows
def none {H : Type} : Left H := { results := [], args := [] }

/-- 'roadsteadlaw07.LogParts': WHATEVER THE INPUT: true; the input reads as it did. -/
def logPartsSpec : ChangeSpec := { name := "logParts", fn := fun _ => fun
  | [d1, d2, d3, d4, d5] => { results := [.lit (.bool true)], args := [d1, d2, d3, d4, d5] }
  | _ => none }
def logPartsRow : OpenClaim := { program := "ytjjmkcmolmjpeaa", sum := "d1eb39b595e80b3bbc276015903db2ae4c922cd9f6937aef3c1a32928dbdd1df", func := "roadstead/roadsteadlaw07.LogParts", spec := "logParts", inPlace := ["slices.overlaps[roadstead/api.Row]"], unfollowed := true, recurses := true, apart := false }
def LogPartsSaid : Prop := logPartsRow.holds Try.pinned (OpenSpec.ofChange logPartsSpec)

/-- ITS FALSE NEIGHBOUR: 'it returns false'. Refute it at one input. -/
def logPartsWrong : ChangeSpec := { name := "logParts", fn := fun _ => fun
  | [d1, d2, d3, d4, d5] => { results := [.lit (.bool false)], args := [d1, d2, d3, d4, d5] }
  | _ => none }
def LogPartsWrongFalsely : Prop := logPartsRow.holds Try.pinned (OpenSpec.ofChange logPartsWrong)

/-- 'roadsteadlaw07.LogReads': WHATEVER THE INPUT: true; the input reads as it did. -/
def logReadsSpec : ChangeSpec := { name := "logReads", fn := fun _ => fun
  | [d1, d2, d3, d4, d5, d6] => { results := [.lit (.bool true)], args := [d1, d2, d3, d4, d5, d6] }
  | _ => none }
def logReadsRow : OpenClaim := { program := "ytjjmkcmolmjpeaa", sum := "d1eb39b595e80b3bbc276015903db2ae4c922cd9f6937aef3c1a32928dbdd1df", func := "roadstead/roadsteadlaw07.LogReads", spec := "logReads", inPlace := ["slices.overlaps[roadstead/api.Row]"], unfollowed := true, recurses := true, apart := false }
def LogReadsSaid : Prop := logReadsRow.holds Try.pinned (OpenSpec.ofChange logReadsSpec)

/-- ITS FALSE NEIGHBOUR: 'it returns false'. Refute it at one input. -/
def logReadsWrong : ChangeSpec := { name := "logReads", fn := fun _ => fun
  | [d1, d2, d3, d4, d5, d6] => { results := [.lit (.bool false)], args := [d1, d2, d3, d4, d5, d6] }
  | _ => none }
def LogReadsWrongFalsely : Prop := logReadsRow.holds Try.pinned (OpenSpec.ofChange logReadsWrong)

/-- 'roadsteadlaw07.LogApplies': WHATEVER THE INPUT: true; the input reads as it did. -/
def logAppliesSpec : ChangeSpec := { name := "logApplies", fn := fun _ => fun
  | [d1, d2, d3] => { results := [.lit (.bool true)], args := [d1, d2, d3] }
  | _ => none }
def logAppliesRow : OpenClaim := { program := "ytjjmkcmolmjpeaa", sum := "d1eb39b595e80b3bbc276015903db2ae4c922cd9f6937aef3c1a32928dbdd1df", func := "roadstead/roadsteadlaw07.LogApplies", spec := "logApplies", inPlace := ["slices.overlaps[roadstead/api.Row]"], unfollowed := true, recurses := true, apart := false }
def LogAppliesSaid : Prop := logAppliesRow.holds Try.pinned (OpenSpec.ofChange logAppliesSpec)

/-- ITS FALSE NEIGHBOUR: 'it returns false'. Refute it at one input. -/
def logAppliesWrong : ChangeSpec := { name := "logApplies", fn := fun _ => fun
  | [d1, d2, d3] => { results := [.lit (.bool false)], args := [d1, d2, d3] }
  | _ => none }
def LogAppliesWrongFalsely : Prop := logAppliesRow.holds Try.pinned (OpenSpec.ofChange logAppliesWrong)

/-- 'roadsteadlaw07.LogBack': WHATEVER THE INPUT: true; the input reads as it did. -/
def logBackSpec : ChangeSpec := { name := "logBack", fn := fun _ => fun
  | [d1, d2] => { results := [.lit (.bool true)], args := [d1, d2] }
  | _ => none }
def logBackRow : OpenClaim := { program := "ytjjmkcmolmjpeaa", sum := "d1eb39b595e80b3bbc276015903db2ae4c922cd9f6937aef3c1a32928dbdd1df", func := "roadstead/roadsteadlaw07.LogBack", spec := "logBack", inPlace := ["slices.overlaps[roadstead/api.Row]"], unfollowed := true, recurses := true, apart := false }
def LogBackSaid : Prop := logBackRow.holds Try.pinned (OpenSpec.ofChange logBackSpec)

/-- ITS FALSE NEIGHBOUR: 'it returns false'. Refute it at one input. -/
def logBackWrong : ChangeSpec := { name := "logBack", fn := fun _ => fun
  | [d1, d2] => { results := [.lit (.bool false)], args := [d1, d2] }
  | _ => none }
def LogBackWrongFalsely : Prop := logBackRow.holds Try.pinned (OpenSpec.ofChange logBackWrong)

/-- 'roadsteadlaw07.LogWhole': WHATEVER THE INPUT: true; the input reads as it did. -/
def logWholeSpec : ChangeSpec := { name := "logWhole", fn := fun _ => fun
  | [d1, d2, d3, d4] => { results := [.lit (.bool true)], args := [d1, d2, d3, d4] }
  | _ => none }
def logWholeRow : OpenClaim := { program := "ytjjmkcmolmjpeaa", sum := "d1eb39b595e80b3bbc276015903db2ae4c922cd9f6937aef3c1a32928dbdd1df", func := "roadstead/roadsteadlaw07.LogWhole", spec := "logWhole", inPlace := ["slices.overlaps[roadstead/api.Row]"], unfollowed := true, recurses := true, apart := false }
def LogWholeSaid : Prop := logWholeRow.holds Try.pinned (OpenSpec.ofChange logWholeSpec)

/-- ITS FALSE NEIGHBOUR: 'it returns false'. Refute it at one input. -/
def logWholeWrong : ChangeSpec := { name := "logWhole", fn := fun _ => fun
  | [d1, d2, d3, d4] => { results := [.lit (.bool false)], args := [d1, d2, d3, d4] }
  | _ => none }
def LogWholeWrongFalsely : Prop := logWholeRow.holds Try.pinned (OpenSpec.ofChange logWholeWrong)

/-- 'roadsteadlaw07.LogParted': WHATEVER THE INPUT: true; the input reads as it did. -/
def logPartedSpec : ChangeSpec := { name := "logParted", fn := fun _ => fun
  | [d1, d2, d3] => { results := [.lit (.bool true)], args := [d1, d2, d3] }
  | _ => none }
def logPartedRow : OpenClaim := { program := "ytjjmkcmolmjpeaa", sum := "d1eb39b595e80b3bbc276015903db2ae4c922cd9f6937aef3c1a32928dbdd1df", func := "roadstead/roadsteadlaw07.LogParted", spec := "logParted", inPlace := ["slices.overlaps[roadstead/api.Row]"], unfollowed := true, recurses := true, apart := false }
def LogPartedSaid : Prop := logPartedRow.holds Try.pinned (OpenSpec.ofChange logPartedSpec)

/-- ITS FALSE NEIGHBOUR: 'it returns false'. Refute it at one input. -/
def logPartedWrong : ChangeSpec := { name := "logParted", fn := fun _ => fun
  | [d1, d2, d3] => { results := [.lit (.bool false)], args := [d1, d2, d3] }
  | _ => none }
def LogPartedWrongFalsely : Prop := logPartedRow.holds Try.pinned (OpenSpec.ofChange logPartedWrong)

/-- 'roadsteadlaw07.LogEpochs': WHATEVER THE INPUT: true; the input reads as it did. -/
def logEpochsSpec : ChangeSpec := { name := "logEpochs", fn := fun _ => fun
  | [d1, d2, d3] => { results := [.lit (.bool true)], args := [d1, d2, d3] }
  | _ => none }
def logEpochsRow : OpenClaim := { program := "ytjjmkcmolmjpeaa", sum := "d1eb39b595e80b3bbc276015903db2ae4c922cd9f6937aef3c1a32928dbdd1df", func := "roadstead/roadsteadlaw07.LogEpochs", spec := "logEpochs", inPlace := ["slices.overlaps[roadstead/api.Row]"], unfollowed := true, recurses := true, apart := false }
def LogEpochsSaid : Prop := logEpochsRow.holds Try.pinned (OpenSpec.ofChange logEpochsSpec)

/-- ITS FALSE NEIGHBOUR: 'it returns false'. Refute it at one input. -/
def logEpochsWrong : ChangeSpec := { name := "logEpochs", fn := fun _ => fun
  | [d1, d2, d3] => { results := [.lit (.bool false)], args := [d1, d2, d3] }
  | _ => none }
def LogEpochsWrongFalsely : Prop := logEpochsRow.holds Try.pinned (OpenSpec.ofChange logEpochsWrong)

/- THE SECOND FORM. 'bulk': how many values and letters a reading holds, each counted each time it is reached (what is shared counts as often as it is met; a slice's spare places count too). A statement '..UptoSaid' is the law's where the arguments, and the package variables that the reading takes, are together of bulk at most 1048576: NARROWER than '..Said'. Prove '..Said' where nothing that the law and all that it calls make is longer than what came in: it says more and counts as full. Else prove '..UptoSaid'. A law counts once. -/
mutual
def uptoBulk {H : Type} : DataW H → Nat
  | .lit (.string bytes) => bytes.length + 1
  | .lit _ => 1
  | .nil => 1
  | .ptr d => uptoBulk d + 1
  | .slice elems spare => uptoBulkAll elems + uptoBulkAll spare + 1
  | .agg parts => uptoBulkAll parts + 1
  | .iface _ d => uptoBulk d + 1
  | .map entries => uptoBulkEntries entries + 1
  | .held _ => 1
def uptoBulkAll {H : Type} : List (DataW H) → Nat
  | [] => 0
  | d :: r => uptoBulk d + uptoBulkAll r
def uptoBulkEntries {H : Type} : List (Lit × DataW H) → Nat
  | [] => 0
  | x :: r => uptoBulkEntry x + uptoBulkEntries r
def uptoBulkEntry {H : Type} : Lit × DataW H → Nat
  | (.string bytes, d) => bytes.length + uptoBulk d + 1
  | (_, d) => uptoBulk d + 1
 end
def uptoSmall : (H : Type) → List (DataW H) → Bool := fun _ ds => decide (uptoBulkAll ds ≤ 1048576)
def OpenSpec.upto (s : _root_.Go.ChangeSpec) : _root_.Go.OpenSpec := { _root_.Go.OpenSpec.ofChange s with cond := some uptoSmall }

/-- 'roadsteadlaw07.LogParts', WHERE WHAT IT READS IS OF BULK AT MOST 1048576: true; the input reads as it did. -/
def logPartsUptoRow : OpenClaim := { program := "ytjjmkcmolmjpeaa", sum := "d1eb39b595e80b3bbc276015903db2ae4c922cd9f6937aef3c1a32928dbdd1df", func := "roadstead/roadsteadlaw07.LogParts", spec := "logParts", inPlace := ["slices.overlaps[roadstead/api.Row]"], unfollowed := true, recurses := true, apart := false, narrowed := true }
def LogPartsUptoSaid : Prop := logPartsUptoRow.holds Try.pinned (OpenSpec.upto logPartsSpec)

/-- 'roadsteadlaw07.LogReads', WHERE WHAT IT READS IS OF BULK AT MOST 1048576: true; the input reads as it did. -/
def logReadsUptoRow : OpenClaim := { program := "ytjjmkcmolmjpeaa", sum := "d1eb39b595e80b3bbc276015903db2ae4c922cd9f6937aef3c1a32928dbdd1df", func := "roadstead/roadsteadlaw07.LogReads", spec := "logReads", inPlace := ["slices.overlaps[roadstead/api.Row]"], unfollowed := true, recurses := true, apart := false, narrowed := true }
def LogReadsUptoSaid : Prop := logReadsUptoRow.holds Try.pinned (OpenSpec.upto logReadsSpec)

/-- 'roadsteadlaw07.LogApplies', WHERE WHAT IT READS IS OF BULK AT MOST 1048576: true; the input reads as it did. -/
def logAppliesUptoRow : OpenClaim := { program := "ytjjmkcmolmjpeaa", sum := "d1eb39b595e80b3bbc276015903db2ae4c922cd9f6937aef3c1a32928dbdd1df", func := "roadstead/roadsteadlaw07.LogApplies", spec := "logApplies", inPlace := ["slices.overlaps[roadstead/api.Row]"], unfollowed := true, recurses := true, apart := false, narrowed := true }
def LogAppliesUptoSaid : Prop := logAppliesUptoRow.holds Try.pinned (OpenSpec.upto logAppliesSpec)

/-- 'roadsteadlaw07.LogBack', WHERE WHAT IT READS IS OF BULK AT MOST 1048576: true; the input reads as it did. -/
def logBackUptoRow : OpenClaim := { program := "ytjjmkcmolmjpeaa", sum := "d1eb39b595e80b3bbc276015903db2ae4c922cd9f6937aef3c1a32928dbdd1df", func := "roadstead/roadsteadlaw07.LogBack", spec := "logBack", inPlace := ["slices.overlaps[roadstead/api.Row]"], unfollowed := true, recurses := true, apart := false, narrowed := true }
def LogBackUptoSaid : Prop := logBackUptoRow.holds Try.pinned (OpenSpec.upto logBackSpec)

/-- 'roadsteadlaw07.LogWhole', WHERE WHAT IT READS IS OF BULK AT MOST 1048576: true; the input reads as it did. -/
def logWholeUptoRow : OpenClaim := { program := "ytjjmkcmolmjpeaa", sum := "d1eb39b595e80b3bbc276015903db2ae4c922cd9f6937aef3c1a32928dbdd1df", func := "roadstead/roadsteadlaw07.LogWhole", spec := "logWhole", inPlace := ["slices.overlaps[roadstead/api.Row]"], unfollowed := true, recurses := true, apart := false, narrowed := true }
def LogWholeUptoSaid : Prop := logWholeUptoRow.holds Try.pinned (OpenSpec.upto logWholeSpec)

/-- 'roadsteadlaw07.LogParted', WHERE WHAT IT READS IS OF BULK AT MOST 1048576: true; the input reads as it did. -/
def logPartedUptoRow : OpenClaim := { program := "ytjjmkcmolmjpeaa", sum := "d1eb39b595e80b3bbc276015903db2ae4c922cd9f6937aef3c1a32928dbdd1df", func := "roadstead/roadsteadlaw07.LogParted", spec := "logParted", inPlace := ["slices.overlaps[roadstead/api.Row]"], unfollowed := true, recurses := true, apart := false, narrowed := true }
def LogPartedUptoSaid : Prop := logPartedUptoRow.holds Try.pinned (OpenSpec.upto logPartedSpec)

/-- 'roadsteadlaw07.LogEpochs', WHERE WHAT IT READS IS OF BULK AT MOST 1048576: true; the input reads as it did. -/
def logEpochsUptoRow : OpenClaim := { program := "ytjjmkcmolmjpeaa", sum := "d1eb39b595e80b3bbc276015903db2ae4c922cd9f6937aef3c1a32928dbdd1df", func := "roadstead/roadsteadlaw07.LogEpochs", spec := "logEpochs", inPlace := ["slices.overlaps[roadstead/api.Row]"], unfollowed := true, recurses := true, apart := false, narrowed := true }
def LogEpochsUptoSaid : Prop := logEpochsUptoRow.holds Try.pinned (OpenSpec.upto logEpochsSpec)

end Rows
end Go.Proofs.Ytjjmkcmolmjpeaa
