/-
  No cell of these rows narrows 'for every input' (looked for: loops, veiled, ifaces, maps, wideKeys, modest, calm, conditions, laid).
  DERIVED. THE GIVEN ROWS OF THIS SEAT. 7 by the template 'for every input the law returns true; each argument reads behind the call as it read before'; 0 by the template 'total and deterministic' (their statements: YtbhoknaipfnlnaaTotals.lean).
  GIVEN WITH THE SEED: the statements are not yours to turn. If you find one false, say at which input.
  Laid BY PROGRAM, IN A SANDBOX (cutbox-rows.mjs): the forced cells as the released guide's own fill.sh prints them over the translation 05d7d49d9db4d077… (all of the seat's roots in one cut). By AI agents, Wed Nov 11 2026. No macro, syntax, notation, axiom, sorry.
-/
import Derived.Test.YtbhoknaipfnlnaaChecked
import GoSem.Claim
import GoSem.ClaimJoined
import GoSem.ClaimMapViews
import Derived.JoinedTies
import Derived.KernelRfl
namespace Go.Proofs.Ytbhoknaipfnlnaa
/- THE CELL 'sum', in the pinned program and in every row, IS THE sha256 OF THE DUMP (.gsa) THAT YtbhoknaipfnlnaaProg.lean LOADS. Nothing in Lean hashes anything: it is a label: what it is worth is what the hold of that sum in a sandbox is worth. -/
noncomputable def Try.pinned : Pinned := { name := "ytbhoknaipfnlnaa", sum := "05d7d49d9db4d077a16663019ca6f63e47a0f3fd82f8ef6cb8a09dafc30f4099", checked := Try.checked }
namespace Rows
def none {H : Type} : Left H := { results := [], args := [] }

/-- 'roadsteadlaw08.StoreNew': WHATEVER THE INPUT: true; the input reads as it did. -/
def storeNewSpec : ChangeSpec := { name := "storeNew", fn := fun _ => fun
  | [d1, d2] => { results := [.lit (.bool true)], args := [d1, d2] }
  | _ => none }
def storeNewRow : OpenClaim := { program := "ytbhoknaipfnlnaa", sum := "05d7d49d9db4d077a16663019ca6f63e47a0f3fd82f8ef6cb8a09dafc30f4099", func := "roadstead/roadsteadlaw08.StoreNew", spec := "storeNew", inPlace := ["slices.overlaps[roadstead/api.Row]"], unfollowed := true, recurses := true, apart := false }
def StoreNewSaid : Prop := storeNewRow.holds Try.pinned (OpenSpec.ofChange storeNewSpec)

/-- ITS FALSE NEIGHBOUR: 'it returns false'. Refute it at one input. -/
def storeNewWrong : ChangeSpec := { name := "storeNew", fn := fun _ => fun
  | [d1, d2] => { results := [.lit (.bool false)], args := [d1, d2] }
  | _ => none }
def StoreNewWrongFalsely : Prop := storeNewRow.holds Try.pinned (OpenSpec.ofChange storeNewWrong)

/-- 'roadsteadlaw08.StoreFull': WHATEVER THE INPUT: true; the input reads as it did. -/
def storeFullSpec : ChangeSpec := { name := "storeFull", fn := fun _ => fun
  | [d1, d2, d3] => { results := [.lit (.bool true)], args := [d1, d2, d3] }
  | _ => none }
def storeFullRow : OpenClaim := { program := "ytbhoknaipfnlnaa", sum := "05d7d49d9db4d077a16663019ca6f63e47a0f3fd82f8ef6cb8a09dafc30f4099", func := "roadstead/roadsteadlaw08.StoreFull", spec := "storeFull", inPlace := ["slices.overlaps[roadstead/api.Row]"], unfollowed := true, recurses := true, apart := false }
def StoreFullSaid : Prop := storeFullRow.holds Try.pinned (OpenSpec.ofChange storeFullSpec)

/-- ITS FALSE NEIGHBOUR: 'it returns false'. Refute it at one input. -/
def storeFullWrong : ChangeSpec := { name := "storeFull", fn := fun _ => fun
  | [d1, d2, d3] => { results := [.lit (.bool false)], args := [d1, d2, d3] }
  | _ => none }
def StoreFullWrongFalsely : Prop := storeFullRow.holds Try.pinned (OpenSpec.ofChange storeFullWrong)

/-- 'roadsteadlaw08.StoreUsed': WHATEVER THE INPUT: true; the input reads as it did. -/
def storeUsedSpec : ChangeSpec := { name := "storeUsed", fn := fun _ => fun
  | [d1, d2] => { results := [.lit (.bool true)], args := [d1, d2] }
  | _ => none }
def storeUsedRow : OpenClaim := { program := "ytbhoknaipfnlnaa", sum := "05d7d49d9db4d077a16663019ca6f63e47a0f3fd82f8ef6cb8a09dafc30f4099", func := "roadstead/roadsteadlaw08.StoreUsed", spec := "storeUsed", inPlace := ["slices.overlaps[roadstead/api.Row]"], unfollowed := true, recurses := true, apart := false }
def StoreUsedSaid : Prop := storeUsedRow.holds Try.pinned (OpenSpec.ofChange storeUsedSpec)

/-- ITS FALSE NEIGHBOUR: 'it returns false'. Refute it at one input. -/
def storeUsedWrong : ChangeSpec := { name := "storeUsed", fn := fun _ => fun
  | [d1, d2] => { results := [.lit (.bool false)], args := [d1, d2] }
  | _ => none }
def StoreUsedWrongFalsely : Prop := storeUsedRow.holds Try.pinned (OpenSpec.ofChange storeUsedWrong)

/-- 'roadsteadlaw08.StoreForms': WHATEVER THE INPUT: true; the input reads as it did. -/
def storeFormsSpec : ChangeSpec := { name := "storeForms", fn := fun _ => fun
  | [d1, d2, d3] => { results := [.lit (.bool true)], args := [d1, d2, d3] }
  | _ => none }
def storeFormsRow : OpenClaim := { program := "ytbhoknaipfnlnaa", sum := "05d7d49d9db4d077a16663019ca6f63e47a0f3fd82f8ef6cb8a09dafc30f4099", func := "roadstead/roadsteadlaw08.StoreForms", spec := "storeForms", inPlace := ["slices.overlaps[roadstead/api.Row]"], unfollowed := true, recurses := true, apart := false }
def StoreFormsSaid : Prop := storeFormsRow.holds Try.pinned (OpenSpec.ofChange storeFormsSpec)

/-- ITS FALSE NEIGHBOUR: 'it returns false'. Refute it at one input. -/
def storeFormsWrong : ChangeSpec := { name := "storeForms", fn := fun _ => fun
  | [d1, d2, d3] => { results := [.lit (.bool false)], args := [d1, d2, d3] }
  | _ => none }
def StoreFormsWrongFalsely : Prop := storeFormsRow.holds Try.pinned (OpenSpec.ofChange storeFormsWrong)

/-- 'roadsteadlaw08.StoreGets': WHATEVER THE INPUT: true; the input reads as it did. -/
def storeGetsSpec : ChangeSpec := { name := "storeGets", fn := fun _ => fun
  | [d1, d2, d3] => { results := [.lit (.bool true)], args := [d1, d2, d3] }
  | _ => none }
def storeGetsRow : OpenClaim := { program := "ytbhoknaipfnlnaa", sum := "05d7d49d9db4d077a16663019ca6f63e47a0f3fd82f8ef6cb8a09dafc30f4099", func := "roadstead/roadsteadlaw08.StoreGets", spec := "storeGets", inPlace := ["slices.overlaps[roadstead/api.Row]"], unfollowed := true, recurses := true, apart := false }
def StoreGetsSaid : Prop := storeGetsRow.holds Try.pinned (OpenSpec.ofChange storeGetsSpec)

/-- ITS FALSE NEIGHBOUR: 'it returns false'. Refute it at one input. -/
def storeGetsWrong : ChangeSpec := { name := "storeGets", fn := fun _ => fun
  | [d1, d2, d3] => { results := [.lit (.bool false)], args := [d1, d2, d3] }
  | _ => none }
def StoreGetsWrongFalsely : Prop := storeGetsRow.holds Try.pinned (OpenSpec.ofChange storeGetsWrong)

/-- 'roadsteadlaw08.StoreAgain': WHATEVER THE INPUT: true; the input reads as it did. -/
def storeAgainSpec : ChangeSpec := { name := "storeAgain", fn := fun _ => fun
  | [d1, d2, d3, d4] => { results := [.lit (.bool true)], args := [d1, d2, d3, d4] }
  | _ => none }
def storeAgainRow : OpenClaim := { program := "ytbhoknaipfnlnaa", sum := "05d7d49d9db4d077a16663019ca6f63e47a0f3fd82f8ef6cb8a09dafc30f4099", func := "roadstead/roadsteadlaw08.StoreAgain", spec := "storeAgain", inPlace := ["slices.overlaps[roadstead/api.Row]"], unfollowed := true, recurses := true, apart := false }
def StoreAgainSaid : Prop := storeAgainRow.holds Try.pinned (OpenSpec.ofChange storeAgainSpec)

/-- ITS FALSE NEIGHBOUR: 'it returns false'. Refute it at one input. -/
def storeAgainWrong : ChangeSpec := { name := "storeAgain", fn := fun _ => fun
  | [d1, d2, d3, d4] => { results := [.lit (.bool false)], args := [d1, d2, d3, d4] }
  | _ => none }
def StoreAgainWrongFalsely : Prop := storeAgainRow.holds Try.pinned (OpenSpec.ofChange storeAgainWrong)

/-- 'roadsteadlaw08.StoreLasts': WHATEVER THE INPUT: true; the input reads as it did. -/
def storeLastsSpec : ChangeSpec := { name := "storeLasts", fn := fun _ => fun
  | [d1, d2, d3, d4] => { results := [.lit (.bool true)], args := [d1, d2, d3, d4] }
  | _ => none }
def storeLastsRow : OpenClaim := { program := "ytbhoknaipfnlnaa", sum := "05d7d49d9db4d077a16663019ca6f63e47a0f3fd82f8ef6cb8a09dafc30f4099", func := "roadstead/roadsteadlaw08.StoreLasts", spec := "storeLasts", inPlace := ["slices.overlaps[roadstead/api.Row]"], unfollowed := true, recurses := true, apart := false }
def StoreLastsSaid : Prop := storeLastsRow.holds Try.pinned (OpenSpec.ofChange storeLastsSpec)

/-- ITS FALSE NEIGHBOUR: 'it returns false'. Refute it at one input. -/
def storeLastsWrong : ChangeSpec := { name := "storeLasts", fn := fun _ => fun
  | [d1, d2, d3, d4] => { results := [.lit (.bool false)], args := [d1, d2, d3, d4] }
  | _ => none }
def StoreLastsWrongFalsely : Prop := storeLastsRow.holds Try.pinned (OpenSpec.ofChange storeLastsWrong)

/- THE SECOND FORM. 'bulk': how many values and letters a reading holds, each counted each time it is reached (what is shared counts as often as it is met; a slice's spare places count too). A statement '..UptoSaid' is the law's where the arguments, and the package variables that the reading takes, are together of bulk at most 1048576: NARROWER than '..Said'. Prove '..Said' where nothing that the law and all that it calls make is longer than what came in: it says more and counts as full. Else prove '..UptoSaid'. A law counts once. -/
mutual
def uptoBulk {H : Type} : DataW H → Nat
  | .lit (.string bytes) => bytes.length + 1
  | .lit _ => 1
  | .nil => 1
  | .ptr d => uptoBulk d + 1
  | .slice elems spare => uptoBulkAll elems + uptoBulkAll spare + 1
  | .agg parts => uptoBulkAll parts + 1
  | .iface _ d => uptoBulk d + 1
  | .map entries => uptoBulkEntries entries + 1
  | .held _ => 1
def uptoBulkAll {H : Type} : List (DataW H) → Nat
  | [] => 0
  | d :: r => uptoBulk d + uptoBulkAll r
def uptoBulkEntries {H : Type} : List (Lit × DataW H) → Nat
  | [] => 0
  | x :: r => uptoBulkEntry x + uptoBulkEntries r
def uptoBulkEntry {H : Type} : Lit × DataW H → Nat
  | (.string bytes, d) => bytes.length + uptoBulk d + 1
  | (_, d) => uptoBulk d + 1
 end
def uptoSmall : (H : Type) → List (DataW H) → Bool := fun _ ds => decide (uptoBulkAll ds ≤ 1048576)
def OpenSpec.upto (s : _root_.Go.ChangeSpec) : _root_.Go.OpenSpec := { _root_.Go.OpenSpec.ofChange s with cond := some uptoSmall }

/-- 'roadsteadlaw08.StoreNew', WHERE WHAT IT READS IS OF BULK AT MOST 1048576: true; the input reads as it did. -/
def storeNewUptoRow : OpenClaim := { program := "ytbhoknaipfnlnaa", sum := "05d7d49d9db4d077a16663019ca6f63e47a0f3fd82f8ef6cb8a09dafc30f4099", func := "roadstead/roadsteadlaw08.StoreNew", spec := "storeNew", inPlace := ["slices.overlaps[roadstead/api.Row]"], unfollowed := true, recurses := true, apart := false, narrowed := true }
def StoreNewUptoSaid : Prop := storeNewUptoRow.holds Try.pinned (OpenSpec.upto storeNewSpec)

/-- 'roadsteadlaw08.StoreFull', WHERE WHAT IT READS IS OF BULK AT MOST 1048576: true; the input reads as it did. -/
def storeFullUptoRow : OpenClaim := { program := "ytbhoknaipfnlnaa", sum := "05d7d49d9db4d077a16663019ca6f63e47a0f3fd82f8ef6cb8a09dafc30f4099", func := "roadstead/roadsteadlaw08.StoreFull", spec := "storeFull", inPlace := ["slices.overlaps[roadstead/api.Row]"], unfollowed := true, recurses := true, apart := false, narrowed := true }
def StoreFullUptoSaid : Prop := storeFullUptoRow.holds Try.pinned (OpenSpec.upto storeFullSpec)

/-- 'roadsteadlaw08.StoreUsed', WHERE WHAT IT READS IS OF BULK AT MOST 1048576: true; the input reads as it did. -/
def storeUsedUptoRow : OpenClaim := { program := "ytbhoknaipfnlnaa", sum := "05d7d49d9db4d077a16663019ca6f63e47a0f3fd82f8ef6cb8a09dafc30f4099", func := "roadstead/roadsteadlaw08.StoreUsed", spec := "storeUsed", inPlace := ["slices.overlaps[roadstead/api.Row]"], unfollowed := true, recurses := true, apart := false, narrowed := true }
def StoreUsedUptoSaid : Prop := storeUsedUptoRow.holds Try.pinned (OpenSpec.upto storeUsedSpec)

/-- 'roadsteadlaw08.StoreForms', WHERE WHAT IT READS IS OF BULK AT MOST 1048576: true; the input reads as it did. -/
def storeFormsUptoRow : OpenClaim := { program := "ytbhoknaipfnlnaa", sum := "05d7d49d9db4d077a16663019ca6f63e47a0f3fd82f8ef6cb8a09dafc30f4099", func := "roadstead/roadsteadlaw08.StoreForms", spec := "storeForms", inPlace := ["slices.overlaps[roadstead/api.Row]"], unfollowed := true, recurses := true, apart := false, narrowed := true }
def StoreFormsUptoSaid : Prop := storeFormsUptoRow.holds Try.pinned (OpenSpec.upto storeFormsSpec)

/-- 'roadsteadlaw08.StoreGets', WHERE WHAT IT READS IS OF BULK AT MOST 1048576: true; the input reads as it did. -/
def storeGetsUptoRow : OpenClaim := { program := "ytbhoknaipfnlnaa", sum := "05d7d49d9db4d077a16663019ca6f63e47a0f3fd82f8ef6cb8a09dafc30f4099", func := "roadstead/roadsteadlaw08.StoreGets", spec := "storeGets", inPlace := ["slices.overlaps[roadstead/api.Row]"], unfollowed := true, recurses := true, apart := false, narrowed := true }
def StoreGetsUptoSaid : Prop := storeGetsUptoRow.holds Try.pinned (OpenSpec.upto storeGetsSpec)

/-- 'roadsteadlaw08.StoreAgain', WHERE WHAT IT READS IS OF BULK AT MOST 1048576: true; the input reads as it did. -/
def storeAgainUptoRow : OpenClaim := { program := "ytbhoknaipfnlnaa", sum := "05d7d49d9db4d077a16663019ca6f63e47a0f3fd82f8ef6cb8a09dafc30f4099", func := "roadstead/roadsteadlaw08.StoreAgain", spec := "storeAgain", inPlace := ["slices.overlaps[roadstead/api.Row]"], unfollowed := true, recurses := true, apart := false, narrowed := true }
def StoreAgainUptoSaid : Prop := storeAgainUptoRow.holds Try.pinned (OpenSpec.upto storeAgainSpec)

/-- 'roadsteadlaw08.StoreLasts', WHERE WHAT IT READS IS OF BULK AT MOST 1048576: true; the input reads as it did. -/
def storeLastsUptoRow : OpenClaim := { program := "ytbhoknaipfnlnaa", sum := "05d7d49d9db4d077a16663019ca6f63e47a0f3fd82f8ef6cb8a09dafc30f4099", func := "roadstead/roadsteadlaw08.StoreLasts", spec := "storeLasts", inPlace := ["slices.overlaps[roadstead/api.Row]"], unfollowed := true, recurses := true, apart := false, narrowed := true }
def StoreLastsUptoSaid : Prop := storeLastsUptoRow.holds Try.pinned (OpenSpec.upto storeLastsSpec)

end Rows
end Go.Proofs.Ytbhoknaipfnlnaa
