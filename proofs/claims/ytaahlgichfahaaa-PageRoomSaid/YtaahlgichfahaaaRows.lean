/-
  No cell of these rows narrows 'for every input' (looked for: loops, veiled, ifaces, maps, wideKeys, modest, calm, conditions, laid).
  DERIVED. THE GIVEN ROWS OF THIS SEAT. 6 by the template 'for every input the law returns true; each argument reads behind the call as it read before'; 0 by the template 'total and deterministic' (their statements: YtaahlgichfahaaaTotals.lean).
  GIVEN WITH THE SEED: the statements are not yours to turn. If you find one false, say at which input.
  Laid BY PROGRAM, IN A SANDBOX (cutbox-rows.mjs): the forced cells as the released guide's own fill.sh prints them over the translation f7f47953cd956623… (all of the seat's roots in one cut). By AI agents, Wed Nov 11 2026. No macro, syntax, notation, axiom, sorry.
-/
import Derived.Test.YtaahlgichfahaaaChecked
import GoSem.Claim
import GoSem.ClaimJoined
import GoSem.ClaimMapViews
import Derived.JoinedTies
import Derived.KernelRfl
namespace Go.Proofs.Ytaahlgichfahaaa
/- THE CELL 'sum', in the pinned program and in every row, IS THE sha256 OF THE DUMP (.gsa) THAT YtaahlgichfahaaaProg.lean LOADS. Nothing in Lean hashes anything: it is a label: what it is worth is what the hold of that sum in a sandbox is worth. -/
noncomputable def Try.pinned : Pinned := { name := "ytaahlgichfahaaa", sum := "f7f47953cd95662373bb48fb3d444657ccdea9d578fb17cf797b46519b458294", checked := Try.checked }
namespace Rows
def none {H : Type} : Left H := { results := [], args := [] }

/-- 'roadsteadlaw05.PageSpoilt': WHATEVER THE INPUT: true; the input reads as it did. -/
def pageSpoiltSpec : ChangeSpec := { name := "pageSpoilt", fn := fun _ => fun
  | [d1, d2, d3, d4] => { results := [.lit (.bool true)], args := [d1, d2, d3, d4] }
  | _ => none }
def pageSpoiltRow : OpenClaim := { program := "ytaahlgichfahaaa", sum := "f7f47953cd95662373bb48fb3d444657ccdea9d578fb17cf797b46519b458294", func := "roadstead/roadsteadlaw05.PageSpoilt", spec := "pageSpoilt", apart := false }
def PageSpoiltSaid : Prop := pageSpoiltRow.holds Try.pinned (OpenSpec.ofChange pageSpoiltSpec)

/-- ITS FALSE NEIGHBOUR: 'it returns false'. Refute it at one input. -/
def pageSpoiltWrong : ChangeSpec := { name := "pageSpoilt", fn := fun _ => fun
  | [d1, d2, d3, d4] => { results := [.lit (.bool false)], args := [d1, d2, d3, d4] }
  | _ => none }
def PageSpoiltWrongFalsely : Prop := pageSpoiltRow.holds Try.pinned (OpenSpec.ofChange pageSpoiltWrong)

/-- 'roadsteadlaw05.PageRoom': WHATEVER THE INPUT: true; the input reads as it did. -/
def pageRoomSpec : ChangeSpec := { name := "pageRoom", fn := fun _ => fun
  | [d1, d2] => { results := [.lit (.bool true)], args := [d1, d2] }
  | _ => none }
def pageRoomRow : OpenClaim := { program := "ytaahlgichfahaaa", sum := "f7f47953cd95662373bb48fb3d444657ccdea9d578fb17cf797b46519b458294", func := "roadstead/roadsteadlaw05.PageRoom", spec := "pageRoom", apart := false }
def PageRoomSaid : Prop := pageRoomRow.holds Try.pinned (OpenSpec.ofChange pageRoomSpec)

/-- ITS FALSE NEIGHBOUR: 'it returns false'. Refute it at one input. -/
def pageRoomWrong : ChangeSpec := { name := "pageRoom", fn := fun _ => fun
  | [d1, d2] => { results := [.lit (.bool false)], args := [d1, d2] }
  | _ => none }
def PageRoomWrongFalsely : Prop := pageRoomRow.holds Try.pinned (OpenSpec.ofChange pageRoomWrong)

/-- 'roadsteadlaw05.PageReads': WHATEVER THE INPUT: true; the input reads as it did. -/
def pageReadsSpec : ChangeSpec := { name := "pageReads", fn := fun _ => fun
  | [d1, d2, d3, d4, d5, d6] => { results := [.lit (.bool true)], args := [d1, d2, d3, d4, d5, d6] }
  | _ => none }
def pageReadsRow : OpenClaim := { program := "ytaahlgichfahaaa", sum := "f7f47953cd95662373bb48fb3d444657ccdea9d578fb17cf797b46519b458294", func := "roadstead/roadsteadlaw05.PageReads", spec := "pageReads", apart := false }
def PageReadsSaid : Prop := pageReadsRow.holds Try.pinned (OpenSpec.ofChange pageReadsSpec)

/-- ITS FALSE NEIGHBOUR: 'it returns false'. Refute it at one input. -/
def pageReadsWrong : ChangeSpec := { name := "pageReads", fn := fun _ => fun
  | [d1, d2, d3, d4, d5, d6] => { results := [.lit (.bool false)], args := [d1, d2, d3, d4, d5, d6] }
  | _ => none }
def PageReadsWrongFalsely : Prop := pageReadsRow.holds Try.pinned (OpenSpec.ofChange pageReadsWrong)

/-- 'roadsteadlaw05.PageBack': WHATEVER THE INPUT: true; the input reads as it did. -/
def pageBackSpec : ChangeSpec := { name := "pageBack", fn := fun _ => fun
  | [d1, d2] => { results := [.lit (.bool true)], args := [d1, d2] }
  | _ => none }
def pageBackRow : OpenClaim := { program := "ytaahlgichfahaaa", sum := "f7f47953cd95662373bb48fb3d444657ccdea9d578fb17cf797b46519b458294", func := "roadstead/roadsteadlaw05.PageBack", spec := "pageBack", apart := false }
def PageBackSaid : Prop := pageBackRow.holds Try.pinned (OpenSpec.ofChange pageBackSpec)

/-- ITS FALSE NEIGHBOUR: 'it returns false'. Refute it at one input. -/
def pageBackWrong : ChangeSpec := { name := "pageBack", fn := fun _ => fun
  | [d1, d2] => { results := [.lit (.bool false)], args := [d1, d2] }
  | _ => none }
def PageBackWrongFalsely : Prop := pageBackRow.holds Try.pinned (OpenSpec.ofChange pageBackWrong)

/-- 'roadsteadlaw05.PagePuts': WHATEVER THE INPUT: true; the input reads as it did. -/
def pagePutsSpec : ChangeSpec := { name := "pagePuts", fn := fun _ => fun
  | [d1, d2, d3, d4, d5] => { results := [.lit (.bool true)], args := [d1, d2, d3, d4, d5] }
  | _ => none }
def pagePutsRow : OpenClaim := { program := "ytaahlgichfahaaa", sum := "f7f47953cd95662373bb48fb3d444657ccdea9d578fb17cf797b46519b458294", func := "roadstead/roadsteadlaw05.PagePuts", spec := "pagePuts", apart := false }
def PagePutsSaid : Prop := pagePutsRow.holds Try.pinned (OpenSpec.ofChange pagePutsSpec)

/-- ITS FALSE NEIGHBOUR: 'it returns false'. Refute it at one input. -/
def pagePutsWrong : ChangeSpec := { name := "pagePuts", fn := fun _ => fun
  | [d1, d2, d3, d4, d5] => { results := [.lit (.bool false)], args := [d1, d2, d3, d4, d5] }
  | _ => none }
def PagePutsWrongFalsely : Prop := pagePutsRow.holds Try.pinned (OpenSpec.ofChange pagePutsWrong)

/-- 'roadsteadlaw05.PageFinds': WHATEVER THE INPUT: true; the input reads as it did. -/
def pageFindsSpec : ChangeSpec := { name := "pageFinds", fn := fun _ => fun
  | [d1, d2] => { results := [.lit (.bool true)], args := [d1, d2] }
  | _ => none }
def pageFindsRow : OpenClaim := { program := "ytaahlgichfahaaa", sum := "f7f47953cd95662373bb48fb3d444657ccdea9d578fb17cf797b46519b458294", func := "roadstead/roadsteadlaw05.PageFinds", spec := "pageFinds", apart := false }
def PageFindsSaid : Prop := pageFindsRow.holds Try.pinned (OpenSpec.ofChange pageFindsSpec)

/-- ITS FALSE NEIGHBOUR: 'it returns false'. Refute it at one input. -/
def pageFindsWrong : ChangeSpec := { name := "pageFinds", fn := fun _ => fun
  | [d1, d2] => { results := [.lit (.bool false)], args := [d1, d2] }
  | _ => none }
def PageFindsWrongFalsely : Prop := pageFindsRow.holds Try.pinned (OpenSpec.ofChange pageFindsWrong)

/- THE SECOND FORM. 'bulk': how many values and letters a reading holds, each counted each time it is reached (what is shared counts as often as it is met; a slice's spare places count too). A statement '..UptoSaid' is the law's where the arguments, and the package variables that the reading takes, are together of bulk at most 1048576: NARROWER than '..Said'. Prove '..Said' where nothing that the law and all that it calls make is longer than what came in: it says more and counts as full. Else prove '..UptoSaid'. A law counts once. -/
mutual
def uptoBulk {H : Type} : DataW H → Nat
  | .lit (.string bytes) => bytes.length + 1
  | .lit _ => 1
  | .nil => 1
  | .ptr d => uptoBulk d + 1
  | .slice elems spare => uptoBulkAll elems + uptoBulkAll spare + 1
  | .agg parts => uptoBulkAll parts + 1
  | .iface _ d => uptoBulk d + 1
  | .map entries => uptoBulkEntries entries + 1
  | .held _ => 1
def uptoBulkAll {H : Type} : List (DataW H) → Nat
  | [] => 0
  | d :: r => uptoBulk d + uptoBulkAll r
def uptoBulkEntries {H : Type} : List (Lit × DataW H) → Nat
  | [] => 0
  | x :: r => uptoBulkEntry x + uptoBulkEntries r
def uptoBulkEntry {H : Type} : Lit × DataW H → Nat
  | (.string bytes, d) => bytes.length + uptoBulk d + 1
  | (_, d) => uptoBulk d + 1
 end
def uptoSmall : (H : Type) → List (DataW H) → Bool := fun _ ds => decide (uptoBulkAll ds ≤ 1048576)
def OpenSpec.upto (s : _root_.Go.ChangeSpec) : _root_.Go.OpenSpec := { _root_.Go.OpenSpec.ofChange s with cond := some uptoSmall }

/-- 'roadsteadlaw05.PageSpoilt', WHERE WHAT IT READS IS OF BULK AT MOST 1048576: true; the input reads as it did. -/
def pageSpoiltUptoRow : OpenClaim := { program := "ytaahlgichfahaaa", sum := "f7f47953cd95662373bb48fb3d444657ccdea9d578fb17cf797b46519b458294", func := "roadstead/roadsteadlaw05.PageSpoilt", spec := "pageSpoilt", apart := false, narrowed := true }
def PageSpoiltUptoSaid : Prop := pageSpoiltUptoRow.holds Try.pinned (OpenSpec.upto pageSpoiltSpec)

/-- 'roadsteadlaw05.PageRoom', WHERE WHAT IT READS IS OF BULK AT MOST 1048576: true; the input reads as it did. -/
def pageRoomUptoRow : OpenClaim := { program := "ytaahlgichfahaaa", sum := "f7f47953cd95662373bb48fb3d444657ccdea9d578fb17cf797b46519b458294", func := "roadstead/roadsteadlaw05.PageRoom", spec := "pageRoom", apart := false, narrowed := true }
def PageRoomUptoSaid : Prop := pageRoomUptoRow.holds Try.pinned (OpenSpec.upto pageRoomSpec)

/-- 'roadsteadlaw05.PageReads', WHERE WHAT IT READS IS OF BULK AT MOST 1048576: true; the input reads as it did. -/
def pageReadsUptoRow : OpenClaim := { program := "ytaahlgichfahaaa", sum := "f7f47953cd95662373bb48fb3d444657ccdea9d578fb17cf797b46519b458294", func := "roadstead/roadsteadlaw05.PageReads", spec := "pageReads", apart := false, narrowed := true }
def PageReadsUptoSaid : Prop := pageReadsUptoRow.holds Try.pinned (OpenSpec.upto pageReadsSpec)

/-- 'roadsteadlaw05.PageBack', WHERE WHAT IT READS IS OF BULK AT MOST 1048576: true; the input reads as it did. -/
def pageBackUptoRow : OpenClaim := { program := "ytaahlgichfahaaa", sum := "f7f47953cd95662373bb48fb3d444657ccdea9d578fb17cf797b46519b458294", func := "roadstead/roadsteadlaw05.PageBack", spec := "pageBack", apart := false, narrowed := true }
def PageBackUptoSaid : Prop := pageBackUptoRow.holds Try.pinned (OpenSpec.upto pageBackSpec)

/-- 'roadsteadlaw05.PagePuts', WHERE WHAT IT READS IS OF BULK AT MOST 1048576: true; the input reads as it did. -/
def pagePutsUptoRow : OpenClaim := { program := "ytaahlgichfahaaa", sum := "f7f47953cd95662373bb48fb3d444657ccdea9d578fb17cf797b46519b458294", func := "roadstead/roadsteadlaw05.PagePuts", spec := "pagePuts", apart := false, narrowed := true }
def PagePutsUptoSaid : Prop := pagePutsUptoRow.holds Try.pinned (OpenSpec.upto pagePutsSpec)

/-- 'roadsteadlaw05.PageFinds', WHERE WHAT IT READS IS OF BULK AT MOST 1048576: true; the input reads as it did. -/
def pageFindsUptoRow : OpenClaim := { program := "ytaahlgichfahaaa", sum := "f7f47953cd95662373bb48fb3d444657ccdea9d578fb17cf797b46519b458294", func := "roadstead/roadsteadlaw05.PageFinds", spec := "pageFinds", apart := false, narrowed := true }
def PageFindsUptoSaid : Prop := pageFindsUptoRow.holds Try.pinned (OpenSpec.upto pageFindsSpec)

end Rows
end Go.Proofs.Ytaahlgichfahaaa
