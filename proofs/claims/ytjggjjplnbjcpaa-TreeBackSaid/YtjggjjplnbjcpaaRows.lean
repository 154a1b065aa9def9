/-
  No cell of these rows narrows 'for every input' (looked for: loops, veiled, ifaces, maps, wideKeys, modest, calm, conditions, laid).
  DERIVED. THE GIVEN ROWS OF THIS SEAT. 5 by the template 'for every input the law returns true; each argument reads behind the call as it read before'; 0 by the template 'total and deterministic' (their statements: YtjggjjplnbjcpaaTotals.lean).
  GIVEN WITH THE SEED: the statements are not yours to turn. If you find one false, say at which input.
  Laid BY PROGRAM, IN A SANDBOX (cutbox-rows.mjs): the forced cells as the released guide's own fill.sh prints them over the translation ba2f3579d09da170… (all of the seat's roots in one cut). By AI agents, Wed Nov 11 2026. No macro, syntax, notation, axiom, sorry.
-/
import Derived.Test.YtjggjjplnbjcpaaChecked
import GoSem.Claim
import GoSem.ClaimJoined
import GoSem.ClaimMapViews
import Derived.JoinedTies
import Derived.KernelRfl
namespace Go.Proofs.Ytjggjjplnbjcpaa
/- THE CELL 'sum', in the pinned program and in every row, IS THE sha256 OF THE DUMP (.gsa) THAT YtjggjjplnbjcpaaProg.lean LOADS. Nothing in Lean hashes anything: it is a label: what it is worth is what the hold of that sum in a sandbox is worth. -/
noncomputable def Try.pinned : Pinned := { name := "ytjggjjplnbjcpaa", sum := "ba2f3579d09da170af585f3d3efc5cfa022a269f72d9c6c283f8713b65ac5fe8", checked := Try.checked }
namespace Rows
def none {H : Type} : Left H := { results := [], args := [] }

/-- 'roadsteadlaw06.TreeBuilds': WHATEVER THE INPUT: true; the input reads as it did. -/
def treeBuildsSpec : ChangeSpec := { name := "treeBuilds", fn := fun _ => fun
  | [d1, d2, d3, d4] => { results := [.lit (.bool true)], args := [d1, d2, d3, d4] }
  | _ => none }
def treeBuildsRow : OpenClaim := { program := "ytjggjjplnbjcpaa", sum := "ba2f3579d09da170af585f3d3efc5cfa022a269f72d9c6c283f8713b65ac5fe8", func := "roadstead/roadsteadlaw06.TreeBuilds", spec := "treeBuilds", unfollowed := true, recurses := true, apart := false }
def TreeBuildsSaid : Prop := treeBuildsRow.holds Try.pinned (OpenSpec.ofChange treeBuildsSpec)

/-- ITS FALSE NEIGHBOUR: 'it returns false'. Refute it at one input. -/
def treeBuildsWrong : ChangeSpec := { name := "treeBuilds", fn := fun _ => fun
  | [d1, d2, d3, d4] => { results := [.lit (.bool false)], args := [d1, d2, d3, d4] }
  | _ => none }
def TreeBuildsWrongFalsely : Prop := treeBuildsRow.holds Try.pinned (OpenSpec.ofChange treeBuildsWrong)

/-- 'roadsteadlaw06.TreeSpoilt': WHATEVER THE INPUT: true; the input reads as it did. -/
def treeSpoiltSpec : ChangeSpec := { name := "treeSpoilt", fn := fun _ => fun
  | [d1, d2, d3, d4, d5] => { results := [.lit (.bool true)], args := [d1, d2, d3, d4, d5] }
  | _ => none }
def treeSpoiltRow : OpenClaim := { program := "ytjggjjplnbjcpaa", sum := "ba2f3579d09da170af585f3d3efc5cfa022a269f72d9c6c283f8713b65ac5fe8", func := "roadstead/roadsteadlaw06.TreeSpoilt", spec := "treeSpoilt", unfollowed := true, recurses := true, apart := false }
def TreeSpoiltSaid : Prop := treeSpoiltRow.holds Try.pinned (OpenSpec.ofChange treeSpoiltSpec)

/-- ITS FALSE NEIGHBOUR: 'it returns false'. Refute it at one input. -/
def treeSpoiltWrong : ChangeSpec := { name := "treeSpoilt", fn := fun _ => fun
  | [d1, d2, d3, d4, d5] => { results := [.lit (.bool false)], args := [d1, d2, d3, d4, d5] }
  | _ => none }
def TreeSpoiltWrongFalsely : Prop := treeSpoiltRow.holds Try.pinned (OpenSpec.ofChange treeSpoiltWrong)

/-- 'roadsteadlaw06.TreeHalf': WHATEVER THE INPUT: true; the input reads as it did. -/
def treeHalfSpec : ChangeSpec := { name := "treeHalf", fn := fun _ => fun
  | [d1, d2] => { results := [.lit (.bool true)], args := [d1, d2] }
  | _ => none }
def treeHalfRow : OpenClaim := { program := "ytjggjjplnbjcpaa", sum := "ba2f3579d09da170af585f3d3efc5cfa022a269f72d9c6c283f8713b65ac5fe8", func := "roadstead/roadsteadlaw06.TreeHalf", spec := "treeHalf", unfollowed := true, recurses := true, apart := false }
def TreeHalfSaid : Prop := treeHalfRow.holds Try.pinned (OpenSpec.ofChange treeHalfSpec)

/-- ITS FALSE NEIGHBOUR: 'it returns false'. Refute it at one input. -/
def treeHalfWrong : ChangeSpec := { name := "treeHalf", fn := fun _ => fun
  | [d1, d2] => { results := [.lit (.bool false)], args := [d1, d2] }
  | _ => none }
def TreeHalfWrongFalsely : Prop := treeHalfRow.holds Try.pinned (OpenSpec.ofChange treeHalfWrong)

/-- 'roadsteadlaw06.TreeScans': WHATEVER THE INPUT: true; the input reads as it did. -/
def treeScansSpec : ChangeSpec := { name := "treeScans", fn := fun _ => fun
  | [d1, d2] => { results := [.lit (.bool true)], args := [d1, d2] }
  | _ => none }
def treeScansRow : OpenClaim := { program := "ytjggjjplnbjcpaa", sum := "ba2f3579d09da170af585f3d3efc5cfa022a269f72d9c6c283f8713b65ac5fe8", func := "roadstead/roadsteadlaw06.TreeScans", spec := "treeScans", unfollowed := true, recurses := true, apart := false }
def TreeScansSaid : Prop := treeScansRow.holds Try.pinned (OpenSpec.ofChange treeScansSpec)

/-- ITS FALSE NEIGHBOUR: 'it returns false'. Refute it at one input. -/
def treeScansWrong : ChangeSpec := { name := "treeScans", fn := fun _ => fun
  | [d1, d2] => { results := [.lit (.bool false)], args := [d1, d2] }
  | _ => none }
def TreeScansWrongFalsely : Prop := treeScansRow.holds Try.pinned (OpenSpec.ofChange treeScansWrong)

/-- 'roadsteadlaw06.TreeBack': WHATEVER THE INPUT: true; the input reads as it did. -/
def treeBackSpec : ChangeSpec := { name := "treeBack", fn := fun _ => fun
  | [d1, d2, d3, d4] => { results := [.lit (.bool true)], args := [d1, d2, d3, d4] }
  | _ => none }
def treeBackRow : OpenClaim := { program := "ytjggjjplnbjcpaa", sum := "ba2f3579d09da170af585f3d3efc5cfa022a269f72d9c6c283f8713b65ac5fe8", func := "roadstead/roadsteadlaw06.TreeBack", spec := "treeBack", unfollowed := true, recurses := true, apart := false }
def TreeBackSaid : Prop := treeBackRow.holds Try.pinned (OpenSpec.ofChange treeBackSpec)

/-- ITS FALSE NEIGHBOUR: 'it returns false'. Refute it at one input. -/
def treeBackWrong : ChangeSpec := { name := "treeBack", fn := fun _ => fun
  | [d1, d2, d3, d4] => { results := [.lit (.bool false)], args := [d1, d2, d3, d4] }
  | _ => none }
def TreeBackWrongFalsely : Prop := treeBackRow.holds Try.pinned (OpenSpec.ofChange treeBackWrong)

/- THE SECOND FORM. 'bulk': how many values and letters a reading holds, each counted each time it is reached (what is shared counts as often as it is met; a slice's spare places count too). A statement '..UptoSaid' is the law's where the arguments, and the package variables that the reading takes, are together of bulk at most 1048576: NARROWER than '..Said'. Prove '..Said' where nothing that the law and all that it calls make is longer than what came in: it says more and counts as full. Else prove '..UptoSaid'. A law counts once. -/
mutual
def uptoBulk {H : Type} : DataW H → Nat
  | .lit (.string bytes) => bytes.length + 1
  | .lit _ => 1
  | .nil => 1
  | .ptr d => uptoBulk d + 1
  | .slice elems spare => uptoBulkAll elems + uptoBulkAll spare + 1
  | .agg parts => uptoBulkAll parts + 1
  | .iface _ d => uptoBulk d + 1
  | .map entries => uptoBulkEntries entries + 1
  | .held _ => 1
def uptoBulkAll {H : Type} : List (DataW H) → Nat
  | [] => 0
  | d :: r => uptoBulk d + uptoBulkAll r
def uptoBulkEntries {H : Type} : List (Lit × DataW H) → Nat
  | [] => 0
  | x :: r => uptoBulkEntry x + uptoBulkEntries r
def uptoBulkEntry {H : Type} : Lit × DataW H → Nat
  | (.string bytes, d) => bytes.length + uptoBulk d + 1
  | (_, d) => uptoBulk d + 1
 end
def uptoSmall : (H : Type) → List (DataW H) → Bool := fun _ ds => decide (uptoBulkAll ds ≤ 1048576)
def OpenSpec.upto (s : _root_.Go.ChangeSpec) : _root_.Go.OpenSpec := { _root_.Go.OpenSpec.ofChange s with cond := some uptoSmall }

/-- 'roadsteadlaw06.TreeBuilds', WHERE WHAT IT READS IS OF BULK AT MOST 1048576: true; the input reads as it did. -/
def treeBuildsUptoRow : OpenClaim := { program := "ytjggjjplnbjcpaa", sum := "ba2f3579d09da170af585f3d3efc5cfa022a269f72d9c6c283f8713b65ac5fe8", func := "roadstead/roadsteadlaw06.TreeBuilds", spec := "treeBuilds", unfollowed := true, recurses := true, apart := false, narrowed := true }
def TreeBuildsUptoSaid : Prop := treeBuildsUptoRow.holds Try.pinned (OpenSpec.upto treeBuildsSpec)

/-- 'roadsteadlaw06.TreeSpoilt', WHERE WHAT IT READS IS OF BULK AT MOST 1048576: true; the input reads as it did. -/
def treeSpoiltUptoRow : OpenClaim := { program := "ytjggjjplnbjcpaa", sum := "ba2f3579d09da170af585f3d3efc5cfa022a269f72d9c6c283f8713b65ac5fe8", func := "roadstead/roadsteadlaw06.TreeSpoilt", spec := "treeSpoilt", unfollowed := true, recurses := true, apart := false, narrowed := true }
def TreeSpoiltUptoSaid : Prop := treeSpoiltUptoRow.holds Try.pinned (OpenSpec.upto treeSpoiltSpec)

/-- 'roadsteadlaw06.TreeHalf', WHERE WHAT IT READS IS OF BULK AT MOST 1048576: true; the input reads as it did. -/
def treeHalfUptoRow : OpenClaim := { program := "ytjggjjplnbjcpaa", sum := "ba2f3579d09da170af585f3d3efc5cfa022a269f72d9c6c283f8713b65ac5fe8", func := "roadstead/roadsteadlaw06.TreeHalf", spec := "treeHalf", unfollowed := true, recurses := true, apart := false, narrowed := true }
def TreeHalfUptoSaid : Prop := treeHalfUptoRow.holds Try.pinned (OpenSpec.upto treeHalfSpec)

/-- 'roadsteadlaw06.TreeScans', WHERE WHAT IT READS IS OF BULK AT MOST 1048576: true; the input reads as it did. -/
def treeScansUptoRow : OpenClaim := { program := "ytjggjjplnbjcpaa", sum := "ba2f3579d09da170af585f3d3efc5cfa022a269f72d9c6c283f8713b65ac5fe8", func := "roadstead/roadsteadlaw06.TreeScans", spec := "treeScans", unfollowed := true, recurses := true, apart := false, narrowed := true }
def TreeScansUptoSaid : Prop := treeScansUptoRow.holds Try.pinned (OpenSpec.upto treeScansSpec)

/-- 'roadsteadlaw06.TreeBack', WHERE WHAT IT READS IS OF BULK AT MOST 1048576: true; the input reads as it did. -/
def treeBackUptoRow : OpenClaim := { program := "ytjggjjplnbjcpaa", sum := "ba2f3579d09da170af585f3d3efc5cfa022a269f72d9c6c283f8713b65ac5fe8", func := "roadstead/roadsteadlaw06.TreeBack", spec := "treeBack", unfollowed := true, recurses := true, apart := false, narrowed := true }
def TreeBackUptoSaid : Prop := treeBackUptoRow.holds Try.pinned (OpenSpec.upto treeBackSpec)

end Rows
end Go.Proofs.Ytjggjjplnbjcpaa
