/-
  No cell of these rows narrows 'for every input' (looked for: loops, veiled, ifaces, maps, wideKeys, modest, calm, conditions, laid).
  DERIVED. THE GIVEN ROWS OF THIS SEAT. 7 by the template 'for every input the law returns true; each argument reads behind the call as it read before'; 0 by the template 'total and deterministic' (their statements: YtlbhpkgbbnhfcaaTotals.lean).
  GIVEN WITH THE SEED: the statements are not yours to turn. If you find one false, say at which input.
  Laid BY PROGRAM, IN A SANDBOX (cutbox-rows.mjs): the forced cells as the released guide's own fill.sh prints them over the translation 90bb254f241e51c0… (all of the seat's roots in one cut). By AI agents, Wed Nov 11 2026. No macro, syntax, notation, axiom, sorry.
-/
import Derived.Test.YtlbhpkgbbnhfcaaChecked
import GoSem.Claim
import GoSem.ClaimJoined
import GoSem.ClaimMapViews
import Derived.JoinedTies
import Derived.KernelRfl
namespace Go.Proofs.Ytlbhpkgbbnhfcaa
/- THE CELL 'sum', in the pinned program and in every row, IS THE sha256 OF THE DUMP (.gsa) THAT YtlbhpkgbbnhfcaaProg.lean LOADS. Nothing in Lean hashes anything: it is a label: what it is worth is what the hold of that sum in a sandbox is worth. -/
noncomputable def Try.pinned : Pinned := { name := "ytlbhpkgbbnhfcaa", sum := "90bb254f241e51c0704ff258490d68955a08819c8e844fd79319cdc928d415a7", checked := Try.checked }
namespace Rows
def none {H : Type} : Left H := { results := [], args := [] }

/-- 'roadsteadlaw04.DevOrder': WHATEVER THE INPUT: true; the input reads as it did. -/
def devOrderSpec : ChangeSpec := { name := "devOrder", fn := fun _ => fun
  | [d1, d2, d3, d4, d5] => { results := [.lit (.bool true)], args := [d1, d2, d3, d4, d5] }
  | _ => none }
def devOrderRow : OpenClaim := { program := "ytlbhpkgbbnhfcaa", sum := "90bb254f241e51c0704ff258490d68955a08819c8e844fd79319cdc928d415a7", func := "roadstead/roadsteadlaw04.DevOrder", spec := "devOrder", unfollowed := true, recurses := true, apart := false }
def DevOrderSaid : Prop := devOrderRow.holds Try.pinned (OpenSpec.ofChange devOrderSpec)

/-- ITS FALSE NEIGHBOUR: 'it returns false'. Refute it at one input. -/
def devOrderWrong : ChangeSpec := { name := "devOrder", fn := fun _ => fun
  | [d1, d2, d3, d4, d5] => { results := [.lit (.bool false)], args := [d1, d2, d3, d4, d5] }
  | _ => none }
def DevOrderWrongFalsely : Prop := devOrderRow.holds Try.pinned (OpenSpec.ofChange devOrderWrong)

/-- 'roadsteadlaw04.DevNew': WHATEVER THE INPUT: true; the input reads as it did. -/
def devNewSpec : ChangeSpec := { name := "devNew", fn := fun _ => fun
  | [d] => { results := [.lit (.bool true)], args := [d] }
  | _ => none }
def devNewRow : OpenClaim := { program := "ytlbhpkgbbnhfcaa", sum := "90bb254f241e51c0704ff258490d68955a08819c8e844fd79319cdc928d415a7", func := "roadstead/roadsteadlaw04.DevNew", spec := "devNew", unfollowed := true, recurses := true, apart := false }
def DevNewSaid : Prop := devNewRow.holds Try.pinned (OpenSpec.ofChange devNewSpec)

/-- ITS FALSE NEIGHBOUR: 'it returns false'. Refute it at one input. -/
def devNewWrong : ChangeSpec := { name := "devNew", fn := fun _ => fun
  | [d] => { results := [.lit (.bool false)], args := [d] }
  | _ => none }
def DevNewWrongFalsely : Prop := devNewRow.holds Try.pinned (OpenSpec.ofChange devNewWrong)

/-- 'roadsteadlaw04.DevLasts': WHATEVER THE INPUT: true; the input reads as it did. -/
def devLastsSpec : ChangeSpec := { name := "devLasts", fn := fun _ => fun
  | [d1, d2] => { results := [.lit (.bool true)], args := [d1, d2] }
  | _ => none }
def devLastsRow : OpenClaim := { program := "ytlbhpkgbbnhfcaa", sum := "90bb254f241e51c0704ff258490d68955a08819c8e844fd79319cdc928d415a7", func := "roadstead/roadsteadlaw04.DevLasts", spec := "devLasts", unfollowed := true, recurses := true, apart := false }
def DevLastsSaid : Prop := devLastsRow.holds Try.pinned (OpenSpec.ofChange devLastsSpec)

/-- ITS FALSE NEIGHBOUR: 'it returns false'. Refute it at one input. -/
def devLastsWrong : ChangeSpec := { name := "devLasts", fn := fun _ => fun
  | [d1, d2] => { results := [.lit (.bool false)], args := [d1, d2] }
  | _ => none }
def DevLastsWrongFalsely : Prop := devLastsRow.holds Try.pinned (OpenSpec.ofChange devLastsWrong)

/-- 'roadsteadlaw04.DevFuse': WHATEVER THE INPUT: true; the input reads as it did. -/
def devFuseSpec : ChangeSpec := { name := "devFuse", fn := fun _ => fun
  | [d1, d2] => { results := [.lit (.bool true)], args := [d1, d2] }
  | _ => none }
def devFuseRow : OpenClaim := { program := "ytlbhpkgbbnhfcaa", sum := "90bb254f241e51c0704ff258490d68955a08819c8e844fd79319cdc928d415a7", func := "roadstead/roadsteadlaw04.DevFuse", spec := "devFuse", unfollowed := true, recurses := true, apart := false }
def DevFuseSaid : Prop := devFuseRow.holds Try.pinned (OpenSpec.ofChange devFuseSpec)

/-- ITS FALSE NEIGHBOUR: 'it returns false'. Refute it at one input. -/
def devFuseWrong : ChangeSpec := { name := "devFuse", fn := fun _ => fun
  | [d1, d2] => { results := [.lit (.bool false)], args := [d1, d2] }
  | _ => none }
def DevFuseWrongFalsely : Prop := devFuseRow.holds Try.pinned (OpenSpec.ofChange devFuseWrong)

/-- 'roadsteadlaw04.DevRange': WHATEVER THE INPUT: true; the input reads as it did. -/
def devRangeSpec : ChangeSpec := { name := "devRange", fn := fun _ => fun
  | [d1, d2, d3] => { results := [.lit (.bool true)], args := [d1, d2, d3] }
  | _ => none }
def devRangeRow : OpenClaim := { program := "ytlbhpkgbbnhfcaa", sum := "90bb254f241e51c0704ff258490d68955a08819c8e844fd79319cdc928d415a7", func := "roadstead/roadsteadlaw04.DevRange", spec := "devRange", unfollowed := true, recurses := true, apart := false }
def DevRangeSaid : Prop := devRangeRow.holds Try.pinned (OpenSpec.ofChange devRangeSpec)

/-- ITS FALSE NEIGHBOUR: 'it returns false'. Refute it at one input. -/
def devRangeWrong : ChangeSpec := { name := "devRange", fn := fun _ => fun
  | [d1, d2, d3] => { results := [.lit (.bool false)], args := [d1, d2, d3] }
  | _ => none }
def DevRangeWrongFalsely : Prop := devRangeRow.holds Try.pinned (OpenSpec.ofChange devRangeWrong)

/-- 'roadsteadlaw04.DevDoes': WHATEVER THE INPUT: true; the input reads as it did. -/
def devDoesSpec : ChangeSpec := { name := "devDoes", fn := fun _ => fun
  | [d1, d2] => { results := [.lit (.bool true)], args := [d1, d2] }
  | _ => none }
def devDoesRow : OpenClaim := { program := "ytlbhpkgbbnhfcaa", sum := "90bb254f241e51c0704ff258490d68955a08819c8e844fd79319cdc928d415a7", func := "roadstead/roadsteadlaw04.DevDoes", spec := "devDoes", unfollowed := true, recurses := true, apart := false }
def DevDoesSaid : Prop := devDoesRow.holds Try.pinned (OpenSpec.ofChange devDoesSpec)

/-- ITS FALSE NEIGHBOUR: 'it returns false'. Refute it at one input. -/
def devDoesWrong : ChangeSpec := { name := "devDoes", fn := fun _ => fun
  | [d1, d2] => { results := [.lit (.bool false)], args := [d1, d2] }
  | _ => none }
def DevDoesWrongFalsely : Prop := devDoesRow.holds Try.pinned (OpenSpec.ofChange devDoesWrong)

/-- 'roadsteadlaw04.DevCopy': WHATEVER THE INPUT: true; the input reads as it did. -/
def devCopySpec : ChangeSpec := { name := "devCopy", fn := fun _ => fun
  | [d1, d2, d3] => { results := [.lit (.bool true)], args := [d1, d2, d3] }
  | _ => none }
def devCopyRow : OpenClaim := { program := "ytlbhpkgbbnhfcaa", sum := "90bb254f241e51c0704ff258490d68955a08819c8e844fd79319cdc928d415a7", func := "roadstead/roadsteadlaw04.DevCopy", spec := "devCopy", unfollowed := true, recurses := true, apart := false }
def DevCopySaid : Prop := devCopyRow.holds Try.pinned (OpenSpec.ofChange devCopySpec)

/-- ITS FALSE NEIGHBOUR: 'it returns false'. Refute it at one input. -/
def devCopyWrong : ChangeSpec := { name := "devCopy", fn := fun _ => fun
  | [d1, d2, d3] => { results := [.lit (.bool false)], args := [d1, d2, d3] }
  | _ => none }
def DevCopyWrongFalsely : Prop := devCopyRow.holds Try.pinned (OpenSpec.ofChange devCopyWrong)

/- THE SECOND FORM. 'bulk': how many values and letters a reading holds, each counted each time it is reached (what is shared counts as often as it is met; a slice's spare places count too). A statement '..UptoSaid' is the law's where the arguments, and the package variables that the reading takes, are together of bulk at most 1048576: NARROWER than '..Said'. Prove '..Said' where nothing that the law and all that it calls make is longer than what came in: it says more and counts as full. Else prove '..UptoSaid'. A law counts once. -/
mutual
def uptoBulk {H : Type} : DataW H → Nat
  | .lit (.string bytes) => bytes.length + 1
  | .lit _ => 1
  | .nil => 1
  | .ptr d => uptoBulk d + 1
  | .slice elems spare => uptoBulkAll elems + uptoBulkAll spare + 1
  | .agg parts => uptoBulkAll parts + 1
  | .iface _ d => uptoBulk d + 1
  | .map entries => uptoBulkEntries entries + 1
  | .held _ => 1
def uptoBulkAll {H : Type} : List (DataW H) → Nat
  | [] => 0
  | d :: r => uptoBulk d + uptoBulkAll r
def uptoBulkEntries {H : Type} : List (Lit × DataW H) → Nat
  | [] => 0
  | x :: r => uptoBulkEntry x + uptoBulkEntries r
def uptoBulkEntry {H : Type} : Lit × DataW H → Nat
  | (.string bytes, d) => bytes.length + uptoBulk d + 1
  | (_, d) => uptoBulk d + 1
 end
def uptoSmall : (H : Type) → List (DataW H) → Bool := fun _ ds => decide (uptoBulkAll ds ≤ 1048576)
def OpenSpec.upto (s : _root_.Go.ChangeSpec) : _root_.Go.OpenSpec := { _root_.Go.OpenSpec.ofChange s with cond := some uptoSmall }

/-- 'roadsteadlaw04.DevOrder', WHERE WHAT IT READS IS OF BULK AT MOST 1048576: true; the input reads as it did. -/
def devOrderUptoRow : OpenClaim := { program := "ytlbhpkgbbnhfcaa", sum := "90bb254f241e51c0704ff258490d68955a08819c8e844fd79319cdc928d415a7", func := "roadstead/roadsteadlaw04.DevOrder", spec := "devOrder", unfollowed := true, recurses := true, apart := false, narrowed := true }
def DevOrderUptoSaid : Prop := devOrderUptoRow.holds Try.pinned (OpenSpec.upto devOrderSpec)

/-- 'roadsteadlaw04.DevNew', WHERE WHAT IT READS IS OF BULK AT MOST 1048576: true; the input reads as it did. -/
def devNewUptoRow : OpenClaim := { program := "ytlbhpkgbbnhfcaa", sum := "90bb254f241e51c0704ff258490d68955a08819c8e844fd79319cdc928d415a7", func := "roadstead/roadsteadlaw04.DevNew", spec := "devNew", unfollowed := true, recurses := true, apart := false, narrowed := true }
def DevNewUptoSaid : Prop := devNewUptoRow.holds Try.pinned (OpenSpec.upto devNewSpec)

/-- 'roadsteadlaw04.DevLasts', WHERE WHAT IT READS IS OF BULK AT MOST 1048576: true; the input reads as it did. -/
def devLastsUptoRow : OpenClaim := { program := "ytlbhpkgbbnhfcaa", sum := "90bb254f241e51c0704ff258490d68955a08819c8e844fd79319cdc928d415a7", func := "roadstead/roadsteadlaw04.DevLasts", spec := "devLasts", unfollowed := true, recurses := true, apart := false, narrowed := true }
def DevLastsUptoSaid : Prop := devLastsUptoRow.holds Try.pinned (OpenSpec.upto devLastsSpec)

/-- 'roadsteadlaw04.DevFuse', WHERE WHAT IT READS IS OF BULK AT MOST 1048576: true; the input reads as it did. -/
def devFuseUptoRow : OpenClaim := { program := "ytlbhpkgbbnhfcaa", sum := "90bb254f241e51c0704ff258490d68955a08819c8e844fd79319cdc928d415a7", func := "roadstead/roadsteadlaw04.DevFuse", spec := "devFuse", unfollowed := true, recurses := true, apart := false, narrowed := true }
def DevFuseUptoSaid : Prop := devFuseUptoRow.holds Try.pinned (OpenSpec.upto devFuseSpec)

/-- 'roadsteadlaw04.DevRange', WHERE WHAT IT READS IS OF BULK AT MOST 1048576: true; the input reads as it did. -/
def devRangeUptoRow : OpenClaim := { program := "ytlbhpkgbbnhfcaa", sum := "90bb254f241e51c0704ff258490d68955a08819c8e844fd79319cdc928d415a7", func := "roadstead/roadsteadlaw04.DevRange", spec := "devRange", unfollowed := true, recurses := true, apart := false, narrowed := true }
def DevRangeUptoSaid : Prop := devRangeUptoRow.holds Try.pinned (OpenSpec.upto devRangeSpec)

/-- 'roadsteadlaw04.DevDoes', WHERE WHAT IT READS IS OF BULK AT MOST 1048576: true; the input reads as it did. -/
def devDoesUptoRow : OpenClaim := { program := "ytlbhpkgbbnhfcaa", sum := "90bb254f241e51c0704ff258490d68955a08819c8e844fd79319cdc928d415a7", func := "roadstead/roadsteadlaw04.DevDoes", spec := "devDoes", unfollowed := true, recurses := true, apart := false, narrowed := true }
def DevDoesUptoSaid : Prop := devDoesUptoRow.holds Try.pinned (OpenSpec.upto devDoesSpec)

/-- 'roadsteadlaw04.DevCopy', WHERE WHAT IT READS IS OF BULK AT MOST 1048576: true; the input reads as it did. -/
def devCopyUptoRow : OpenClaim := { program := "ytlbhpkgbbnhfcaa", sum := "90bb254f241e51c0704ff258490d68955a08819c8e844fd79319cdc928d415a7", func := "roadstead/roadsteadlaw04.DevCopy", spec := "devCopy", unfollowed := true, recurses := true, apart := false, narrowed := true }
def DevCopyUptoSaid : Prop := devCopyUptoRow.holds Try.pinned (OpenSpec.upto devCopySpec)

end Rows
end Go.Proofs.Ytlbhpkgbbnhfcaa
