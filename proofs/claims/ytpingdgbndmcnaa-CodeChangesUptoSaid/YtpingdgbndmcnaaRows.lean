/-
  No cell of these rows narrows 'for every input' (looked for: loops, veiled, ifaces, maps, wideKeys, modest, calm, conditions, laid).
  DERIVED. THE GIVEN ROWS OF THIS SEAT. 8 by the template 'for every input the law returns true; each argument reads behind the call as it read before'; 0 by the template 'total and deterministic' (their statements: YtpingdgbndmcnaaTotals.lean).
  GIVEN WITH THE SEED: the statements are not yours to turn. If you find one false, say at which input.
  Laid BY PROGRAM, IN A SANDBOX (cutbox-rows.mjs): the forced cells as the released guide's own fill.sh prints them over the translation 06e75683a25032c7… (all of the seat's roots in one cut). By AI agents, Wed Nov 11 2026. No macro, syntax, notation, axiom, sorry.
-/
import Derived.Test.YtpingdgbndmcnaaChecked
import GoSem.Claim
import GoSem.ClaimJoined
import GoSem.ClaimMapViews
import Derived.JoinedTies
import Derived.KernelRfl
namespace Go.Proofs.Ytpingdgbndmcnaa
/- THE CELL 'sum', in the pinned program and in every row, IS THE sha256 OF THE DUMP (.gsa) THAT YtpingdgbndmcnaaProg.lean LOADS. Nothing in Lean hashes anything: it is a label: what it is worth is what the hold of that sum in a sandbox is worth. -/
noncomputable def Try.pinned : Pinned := { name := "ytpingdgbndmcnaa", sum := "06e75683a25032c7bb76a368f42ac0f02021d9ed777ba3b1b5665b479a0fe399", checked := Try.checked }
namespace Rows
def none {H : Type} : Left H := { results := [], args := [] }

/-- 'roadsteadlaw01.CodeShort': WHATEVER THE INPUT: true; the input reads as it did. -/
def codeShortSpec : ChangeSpec := { name := "codeShort", fn := fun _ => fun
  | [d1, d2, d3] => { results := [.lit (.bool true)], args := [d1, d2, d3] }
  | _ => none }
def codeShortRow : OpenClaim := { program := "ytpingdgbndmcnaa", sum := "06e75683a25032c7bb76a368f42ac0f02021d9ed777ba3b1b5665b479a0fe399", func := "roadstead/roadsteadlaw01.CodeShort", spec := "codeShort", unfollowed := true, recurses := true, apart := false }
def CodeShortSaid : Prop := codeShortRow.holds Try.pinned (OpenSpec.ofChange codeShortSpec)

/-- ITS FALSE NEIGHBOUR: 'it returns false'. Refute it at one input. -/
def codeShortWrong : ChangeSpec := { name := "codeShort", fn := fun _ => fun
  | [d1, d2, d3] => { results := [.lit (.bool false)], args := [d1, d2, d3] }
  | _ => none }
def CodeShortWrongFalsely : Prop := codeShortRow.holds Try.pinned (OpenSpec.ofChange codeShortWrong)

/-- 'roadsteadlaw01.CodeOrder': WHATEVER THE INPUT: true; the input reads as it did. -/
def codeOrderSpec : ChangeSpec := { name := "codeOrder", fn := fun _ => fun
  | [d1, d2] => { results := [.lit (.bool true)], args := [d1, d2] }
  | _ => none }
def codeOrderRow : OpenClaim := { program := "ytpingdgbndmcnaa", sum := "06e75683a25032c7bb76a368f42ac0f02021d9ed777ba3b1b5665b479a0fe399", func := "roadstead/roadsteadlaw01.CodeOrder", spec := "codeOrder", unfollowed := true, recurses := true, apart := false }
def CodeOrderSaid : Prop := codeOrderRow.holds Try.pinned (OpenSpec.ofChange codeOrderSpec)

/-- ITS FALSE NEIGHBOUR: 'it returns false'. Refute it at one input. -/
def codeOrderWrong : ChangeSpec := { name := "codeOrder", fn := fun _ => fun
  | [d1, d2] => { results := [.lit (.bool false)], args := [d1, d2] }
  | _ => none }
def CodeOrderWrongFalsely : Prop := codeOrderRow.holds Try.pinned (OpenSpec.ofChange codeOrderWrong)

/-- 'roadsteadlaw01.CodePuts': WHATEVER THE INPUT: true; the input reads as it did. -/
def codePutsSpec : ChangeSpec := { name := "codePuts", fn := fun _ => fun
  | [d1, d2, d3, d4, d5] => { results := [.lit (.bool true)], args := [d1, d2, d3, d4, d5] }
  | _ => none }
def codePutsRow : OpenClaim := { program := "ytpingdgbndmcnaa", sum := "06e75683a25032c7bb76a368f42ac0f02021d9ed777ba3b1b5665b479a0fe399", func := "roadstead/roadsteadlaw01.CodePuts", spec := "codePuts", unfollowed := true, recurses := true, apart := false }
def CodePutsSaid : Prop := codePutsRow.holds Try.pinned (OpenSpec.ofChange codePutsSpec)

/-- ITS FALSE NEIGHBOUR: 'it returns false'. Refute it at one input. -/
def codePutsWrong : ChangeSpec := { name := "codePuts", fn := fun _ => fun
  | [d1, d2, d3, d4, d5] => { results := [.lit (.bool false)], args := [d1, d2, d3, d4, d5] }
  | _ => none }
def CodePutsWrongFalsely : Prop := codePutsRow.holds Try.pinned (OpenSpec.ofChange codePutsWrong)

/-- 'roadsteadlaw01.CodeBack': WHATEVER THE INPUT: true; the input reads as it did. -/
def codeBackSpec : ChangeSpec := { name := "codeBack", fn := fun _ => fun
  | [d1, d2, d3, d4] => { results := [.lit (.bool true)], args := [d1, d2, d3, d4] }
  | _ => none }
def codeBackRow : OpenClaim := { program := "ytpingdgbndmcnaa", sum := "06e75683a25032c7bb76a368f42ac0f02021d9ed777ba3b1b5665b479a0fe399", func := "roadstead/roadsteadlaw01.CodeBack", spec := "codeBack", unfollowed := true, recurses := true, apart := false }
def CodeBackSaid : Prop := codeBackRow.holds Try.pinned (OpenSpec.ofChange codeBackSpec)

/-- ITS FALSE NEIGHBOUR: 'it returns false'. Refute it at one input. -/
def codeBackWrong : ChangeSpec := { name := "codeBack", fn := fun _ => fun
  | [d1, d2, d3, d4] => { results := [.lit (.bool false)], args := [d1, d2, d3, d4] }
  | _ => none }
def CodeBackWrongFalsely : Prop := codeBackRow.holds Try.pinned (OpenSpec.ofChange codeBackWrong)

/-- 'roadsteadlaw01.CodeMany': WHATEVER THE INPUT: true; the input reads as it did. -/
def codeManySpec : ChangeSpec := { name := "codeMany", fn := fun _ => fun
  | [d1, d2, d3] => { results := [.lit (.bool true)], args := [d1, d2, d3] }
  | _ => none }
def codeManyRow : OpenClaim := { program := "ytpingdgbndmcnaa", sum := "06e75683a25032c7bb76a368f42ac0f02021d9ed777ba3b1b5665b479a0fe399", func := "roadstead/roadsteadlaw01.CodeMany", spec := "codeMany", unfollowed := true, recurses := true, apart := false }
def CodeManySaid : Prop := codeManyRow.holds Try.pinned (OpenSpec.ofChange codeManySpec)

/-- ITS FALSE NEIGHBOUR: 'it returns false'. Refute it at one input. -/
def codeManyWrong : ChangeSpec := { name := "codeMany", fn := fun _ => fun
  | [d1, d2, d3] => { results := [.lit (.bool false)], args := [d1, d2, d3] }
  | _ => none }
def CodeManyWrongFalsely : Prop := codeManyRow.holds Try.pinned (OpenSpec.ofChange codeManyWrong)

/-- 'roadsteadlaw01.CodeGets': WHATEVER THE INPUT: true; the input reads as it did. -/
def codeGetsSpec : ChangeSpec := { name := "codeGets", fn := fun _ => fun
  | [d1, d2, d3, d4, d5, d6, d7] => { results := [.lit (.bool true)], args := [d1, d2, d3, d4, d5, d6, d7] }
  | _ => none }
def codeGetsRow : OpenClaim := { program := "ytpingdgbndmcnaa", sum := "06e75683a25032c7bb76a368f42ac0f02021d9ed777ba3b1b5665b479a0fe399", func := "roadstead/roadsteadlaw01.CodeGets", spec := "codeGets", unfollowed := true, recurses := true, apart := false }
def CodeGetsSaid : Prop := codeGetsRow.holds Try.pinned (OpenSpec.ofChange codeGetsSpec)

/-- ITS FALSE NEIGHBOUR: 'it returns false'. Refute it at one input. -/
def codeGetsWrong : ChangeSpec := { name := "codeGets", fn := fun _ => fun
  | [d1, d2, d3, d4, d5, d6, d7] => { results := [.lit (.bool false)], args := [d1, d2, d3, d4, d5, d6, d7] }
  | _ => none }
def CodeGetsWrongFalsely : Prop := codeGetsRow.holds Try.pinned (OpenSpec.ofChange codeGetsWrong)

/-- 'roadsteadlaw01.CodeChanges': WHATEVER THE INPUT: true; the input reads as it did. -/
def codeChangesSpec : ChangeSpec := { name := "codeChanges", fn := fun _ => fun
  | [d1, d2, d3, d4, d5, d6] => { results := [.lit (.bool true)], args := [d1, d2, d3, d4, d5, d6] }
  | _ => none }
def codeChangesRow : OpenClaim := { program := "ytpingdgbndmcnaa", sum := "06e75683a25032c7bb76a368f42ac0f02021d9ed777ba3b1b5665b479a0fe399", func := "roadstead/roadsteadlaw01.CodeChanges", spec := "codeChanges", unfollowed := true, recurses := true, apart := false }
def CodeChangesSaid : Prop := codeChangesRow.holds Try.pinned (OpenSpec.ofChange codeChangesSpec)

/-- ITS FALSE NEIGHBOUR: 'it returns false'. Refute it at one input. -/
def codeChangesWrong : ChangeSpec := { name := "codeChanges", fn := fun _ => fun
  | [d1, d2, d3, d4, d5, d6] => { results := [.lit (.bool false)], args := [d1, d2, d3, d4, d5, d6] }
  | _ => none }
def CodeChangesWrongFalsely : Prop := codeChangesRow.holds Try.pinned (OpenSpec.ofChange codeChangesWrong)

/-- 'roadsteadlaw01.CodeOne': WHATEVER THE INPUT: true; the input reads as it did. -/
def codeOneSpec : ChangeSpec := { name := "codeOne", fn := fun _ => fun
  | [d1, d2, d3, d4, d5] => { results := [.lit (.bool true)], args := [d1, d2, d3, d4, d5] }
  | _ => none }
def codeOneRow : OpenClaim := { program := "ytpingdgbndmcnaa", sum := "06e75683a25032c7bb76a368f42ac0f02021d9ed777ba3b1b5665b479a0fe399", func := "roadstead/roadsteadlaw01.CodeOne", spec := "codeOne", unfollowed := true, recurses := true, apart := false }
def CodeOneSaid : Prop := codeOneRow.holds Try.pinned (OpenSpec.ofChange codeOneSpec)

/-- ITS FALSE NEIGHBOUR: 'it returns false'. Refute it at one input. -/
def codeOneWrong : ChangeSpec := { name := "codeOne", fn := fun _ => fun
  | [d1, d2, d3, d4, d5] => { results := [.lit (.bool false)], args := [d1, d2, d3, d4, d5] }
  | _ => none }
def CodeOneWrongFalsely : Prop := codeOneRow.holds Try.pinned (OpenSpec.ofChange codeOneWrong)

/- THE SECOND FORM. 'bulk': how many values and letters a reading holds, each counted each time it is reached (what is shared counts as often as it is met; a slice's spare places count too). A statement '..UptoSaid' is the law's where the arguments, and the package variables that the reading takes, are together of bulk at most 1048576: NARROWER than '..Said'. Prove '..Said' where nothing that the law and all that it calls make is longer than what came in: it says more and counts as full. Else prove '..UptoSaid'. A law counts once. -/
mutual
def uptoBulk {H : Type} : DataW H → Nat
  | .lit (.string bytes) => bytes.length + 1
  | .lit _ => 1
  | .nil => 1
  | .ptr d => uptoBulk d + 1
  | .slice elems spare => uptoBulkAll elems + uptoBulkAll spare + 1
  | .agg parts => uptoBulkAll parts + 1
  | .iface _ d => uptoBulk d + 1
  | .map entries => uptoBulkEntries entries + 1
  | .held _ => 1
def uptoBulkAll {H : Type} : List (DataW H) → Nat
  | [] => 0
  | d :: r => uptoBulk d + uptoBulkAll r
def uptoBulkEntries {H : Type} : List (Lit × DataW H) → Nat
  | [] => 0
  | x :: r => uptoBulkEntry x + uptoBulkEntries r
def uptoBulkEntry {H : Type} : Lit × DataW H → Nat
  | (.string bytes, d) => bytes.length + uptoBulk d + 1
  | (_, d) => uptoBulk d + 1
 end
def uptoSmall : (H : Type) → List (DataW H) → Bool := fun _ ds => decide (uptoBulkAll ds ≤ 1048576)
def OpenSpec.upto (s : _root_.Go.ChangeSpec) : _root_.Go.OpenSpec := { _root_.Go.OpenSpec.ofChange s with cond := some uptoSmall }

/-- 'roadsteadlaw01.CodeShort', WHERE WHAT IT READS IS OF BULK AT MOST 1048576: true; the input reads as it did. -/
def codeShortUptoRow : OpenClaim := { program := "ytpingdgbndmcnaa", sum := "06e75683a25032c7bb76a368f42ac0f02021d9ed777ba3b1b5665b479a0fe399", func := "roadstead/roadsteadlaw01.CodeShort", spec := "codeShort", unfollowed := true, recurses := true, apart := false, narrowed := true }
def CodeShortUptoSaid : Prop := codeShortUptoRow.holds Try.pinned (OpenSpec.upto codeShortSpec)

/-- 'roadsteadlaw01.CodeOrder', WHERE WHAT IT READS IS OF BULK AT MOST 1048576: true; the input reads as it did. -/
def codeOrderUptoRow : OpenClaim := { program := "ytpingdgbndmcnaa", sum := "06e75683a25032c7bb76a368f42ac0f02021d9ed777ba3b1b5665b479a0fe399", func := "roadstead/roadsteadlaw01.CodeOrder", spec := "codeOrder", unfollowed := true, recurses := true, apart := false, narrowed := true }
def CodeOrderUptoSaid : Prop := codeOrderUptoRow.holds Try.pinned (OpenSpec.upto codeOrderSpec)

/-- 'roadsteadlaw01.CodePuts', WHERE WHAT IT READS IS OF BULK AT MOST 1048576: true; the input reads as it did. -/
def codePutsUptoRow : OpenClaim := { program := "ytpingdgbndmcnaa", sum := "06e75683a25032c7bb76a368f42ac0f02021d9ed777ba3b1b5665b479a0fe399", func := "roadstead/roadsteadlaw01.CodePuts", spec := "codePuts", unfollowed := true, recurses := true, apart := false, narrowed := true }
def CodePutsUptoSaid : Prop := codePutsUptoRow.holds Try.pinned (OpenSpec.upto codePutsSpec)

/-- 'roadsteadlaw01.CodeBack', WHERE WHAT IT READS IS OF BULK AT MOST 1048576: true; the input reads as it did. -/
def codeBackUptoRow : OpenClaim := { program := "ytpingdgbndmcnaa", sum := "06e75683a25032c7bb76a368f42ac0f02021d9ed777ba3b1b5665b479a0fe399", func := "roadstead/roadsteadlaw01.CodeBack", spec := "codeBack", unfollowed := true, recurses := true, apart := false, narrowed := true }
def CodeBackUptoSaid : Prop := codeBackUptoRow.holds Try.pinned (OpenSpec.upto codeBackSpec)

/-- 'roadsteadlaw01.CodeMany', WHERE WHAT IT READS IS OF BULK AT MOST 1048576: true; the input reads as it did. -/
def codeManyUptoRow : OpenClaim := { program := "ytpingdgbndmcnaa", sum := "06e75683a25032c7bb76a368f42ac0f02021d9ed777ba3b1b5665b479a0fe399", func := "roadstead/roadsteadlaw01.CodeMany", spec := "codeMany", unfollowed := true, recurses := true, apart := false, narrowed := true }
def CodeManyUptoSaid : Prop := codeManyUptoRow.holds Try.pinned (OpenSpec.upto codeManySpec)

/-- 'roadsteadlaw01.CodeGets', WHERE WHAT IT READS IS OF BULK AT MOST 1048576: true; the input reads as it did. -/
def codeGetsUptoRow : OpenClaim := { program := "ytpingdgbndmcnaa", sum := "06e75683a25032c7bb76a368f42ac0f02021d9ed777ba3b1b5665b479a0fe399", func := "roadstead/roadsteadlaw01.CodeGets", spec := "codeGets", unfollowed := true, recurses := true, apart := false, narrowed := true }
def CodeGetsUptoSaid : Prop := codeGetsUptoRow.holds Try.pinned (OpenSpec.upto codeGetsSpec)

/-- 'roadsteadlaw01.CodeChanges', WHERE WHAT IT READS IS OF BULK AT MOST 1048576: true; the input reads as it did. -/
def codeChangesUptoRow : OpenClaim := { program := "ytpingdgbndmcnaa", sum := "06e75683a25032c7bb76a368f42ac0f02021d9ed777ba3b1b5665b479a0fe399", func := "roadstead/roadsteadlaw01.CodeChanges", spec := "codeChanges", unfollowed := true, recurses := true, apart := false, narrowed := true }
def CodeChangesUptoSaid : Prop := codeChangesUptoRow.holds Try.pinned (OpenSpec.upto codeChangesSpec)

/-- 'roadsteadlaw01.CodeOne', WHERE WHAT IT READS IS OF BULK AT MOST 1048576: true; the input reads as it did. -/
def codeOneUptoRow : OpenClaim := { program := "ytpingdgbndmcnaa", sum := "06e75683a25032c7bb76a368f42ac0f02021d9ed777ba3b1b5665b479a0fe399", func := "roadstead/roadsteadlaw01.CodeOne", spec := "codeOne", unfollowed := true, recurses := true, apart := false, narrowed := true }
def CodeOneUptoSaid : Prop := codeOneUptoRow.holds Try.pinned (OpenSpec.upto codeOneSpec)

end Rows
end Go.Proofs.Ytpingdgbndmcnaa
