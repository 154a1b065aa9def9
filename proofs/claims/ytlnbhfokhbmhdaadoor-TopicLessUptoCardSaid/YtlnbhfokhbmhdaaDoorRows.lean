/-
  NARROWER THAN 'FOR EVERY INPUT', by the rows' own cells (each row's printed sentence says how): TopicMatches: laid · TopicOwn: laid · TopicParts: laid · TopicWants: laid · TopicLess: laid · TopicLong: laid.
  DERIVED. THE GIVEN ROWS OF THIS SEAT. 6 by the template 'for every input the law returns true; each argument reads behind the call as it read before'; 0 by the template 'total and deterministic' (their statements: YtlnbhfokhbmhdaaDoorTotals.lean).
  GIVEN WITH THE SEED: the statements are not yours to turn. If you find one false, say at which input.
  Laid BY PROGRAM, IN A SANDBOX (cutbox-rows.mjs): the forced cells as the released guide's own fill.sh prints them over the translation c152a89202084bae… (all of the seat's roots in one cut). By AI agents, Wed Nov 11 2026. No macro, syntax, notation, axiom, sorry.
-/
import Derived.Test.YtlnbhfokhbmhdaaDoorChecked
import GoSem.PinnedTables
import GoSem.Claim
import GoSem.ClaimJoined
import GoSem.ClaimMapViews
import Derived.JoinedTies
import Derived.KernelRfl
namespace Go.Proofs.YtlnbhfokhbmhdaaDoor
/- THE CELL 'sum', in the pinned program and in every row, IS THE sha256 OF THE DUMP (.gsa) THAT YtlnbhfokhbmhdaaDoorProg.lean LOADS. Nothing in Lean hashes anything: it is a label: what it is worth is what the hold of that sum in a sandbox is worth. -/
noncomputable def Tryd.pinned : Pinned := { name := "ytlnbhfokhbmhdaadoor", sum := "c152a89202084bae675777b78ee640c412752f8afc57af435c765951e1fd98e2", checked := Tryd.checked }
namespace Rows
def none {H : Type} : Left H := { results := [], args := [] }

/- WHAT THE LISTED PACKAGE-LEVEL VARIABLES READ AS WHEN THE CALL BEGINS. Each datum BY PROGRAM (the guide's laid-datum.mjs) off the statement by which the dump's own 'gosem.cut.vars' lays the variable. In a bare row this is a premise. The card (YtlnbhfokhbmhdaaDoorCards.lean) ties it to the program's text. -/
def laid_unicode_utf8_acceptRanges {H : Type} : DataW H := .agg [.agg [.lit (.int .u8 128), .lit (.int .u8 191)], .agg [.lit (.int .u8 160), .lit (.int .u8 191)], .agg [.lit (.int .u8 128), .lit (.int .u8 159)], .agg [.lit (.int .u8 144), .lit (.int .u8 191)], .agg [.lit (.int .u8 128), .lit (.int .u8 143)], .agg [.lit (.int .u8 0), .lit (.int .u8 0)], .agg [.lit (.int .u8 0), .lit (.int .u8 0)], .agg [.lit (.int .u8 0), .lit (.int .u8 0)], .agg [.lit (.int .u8 0), .lit (.int .u8 0)], .agg [.lit (.int .u8 0), .lit (.int .u8 0)], .agg [.lit (.int .u8 0), .lit (.int .u8 0)], .agg [.lit (.int .u8 0), .lit (.int .u8 0)], .agg [.lit (.int .u8 0), .lit (.int .u8 0)], .agg [.lit (.int .u8 0), .lit (.int .u8 0)], .agg [.lit (.int .u8 0), .lit (.int .u8 0)], .agg [.lit (.int .u8 0), .lit (.int .u8 0)]]
/-- One of Go's own tables, pinned by name: the form's constant. -/
def laid_unicode_utf8_first : DataW Unit := Go.Pinned.utf8First

/-- 'roadsteadlaw09.TopicMatches': WHATEVER THE INPUT: true; the input reads as it did. -/
def topicMatchesSpec : ChangeSpec := { name := "topicMatches", fn := fun _ => fun
  | [d1, d2, d3, d4] => { results := [.lit (.bool true)], args := [d1, d2, d3, d4] }
  | _ => none }
def topicMatchesRow : OpenClaim := { program := "ytlnbhfokhbmhdaadoor", sum := "c152a89202084bae675777b78ee640c412752f8afc57af435c765951e1fd98e2", func := "roadstead/roadsteadlaw09.TopicMatches", spec := "topicMatches", inPlace := ["internal/bytealg.IndexByteString", "internal/bytealg.IndexString", "internal/bytealg.CountString"], unfollowed := true, recurses := true, named := ["unicode/utf8.first", "unicode/utf8.acceptRanges", "internal/bytealg.MaxLen"], apart := false, laid := [("unicode/utf8.acceptRanges", laid_unicode_utf8_acceptRanges), ("unicode/utf8.first", laid_unicode_utf8_first)] }
def TopicMatchesSaid : Prop := topicMatchesRow.holds Tryd.pinned (OpenSpec.ofChange topicMatchesSpec)

/-- ITS FALSE NEIGHBOUR: 'it returns false'. Refute it at one input. -/
def topicMatchesWrong : ChangeSpec := { name := "topicMatches", fn := fun _ => fun
  | [d1, d2, d3, d4] => { results := [.lit (.bool false)], args := [d1, d2, d3, d4] }
  | _ => none }
def TopicMatchesWrongFalsely : Prop := topicMatchesRow.holds Tryd.pinned (OpenSpec.ofChange topicMatchesWrong)

/-- 'roadsteadlaw09.TopicOwn': WHATEVER THE INPUT: true; the input reads as it did. -/
def topicOwnSpec : ChangeSpec := { name := "topicOwn", fn := fun _ => fun
  | [d1, d2] => { results := [.lit (.bool true)], args := [d1, d2] }
  | _ => none }
def topicOwnRow : OpenClaim := { program := "ytlnbhfokhbmhdaadoor", sum := "c152a89202084bae675777b78ee640c412752f8afc57af435c765951e1fd98e2", func := "roadstead/roadsteadlaw09.TopicOwn", spec := "topicOwn", inPlace := ["internal/bytealg.IndexByteString", "internal/bytealg.IndexString", "internal/bytealg.CountString"], unfollowed := true, recurses := true, named := ["unicode/utf8.first", "unicode/utf8.acceptRanges", "internal/bytealg.MaxLen"], apart := false, laid := [("unicode/utf8.acceptRanges", laid_unicode_utf8_acceptRanges), ("unicode/utf8.first", laid_unicode_utf8_first)] }
def TopicOwnSaid : Prop := topicOwnRow.holds Tryd.pinned (OpenSpec.ofChange topicOwnSpec)

/-- ITS FALSE NEIGHBOUR: 'it returns false'. Refute it at one input. -/
def topicOwnWrong : ChangeSpec := { name := "topicOwn", fn := fun _ => fun
  | [d1, d2] => { results := [.lit (.bool false)], args := [d1, d2] }
  | _ => none }
def TopicOwnWrongFalsely : Prop := topicOwnRow.holds Tryd.pinned (OpenSpec.ofChange topicOwnWrong)

/-- 'roadsteadlaw09.TopicParts': WHATEVER THE INPUT: true; the input reads as it did. -/
def topicPartsSpec : ChangeSpec := { name := "topicParts", fn := fun _ => fun
  | [d1, d2, d3] => { results := [.lit (.bool true)], args := [d1, d2, d3] }
  | _ => none }
def topicPartsRow : OpenClaim := { program := "ytlnbhfokhbmhdaadoor", sum := "c152a89202084bae675777b78ee640c412752f8afc57af435c765951e1fd98e2", func := "roadstead/roadsteadlaw09.TopicParts", spec := "topicParts", inPlace := ["internal/bytealg.IndexByteString", "internal/bytealg.IndexString", "internal/bytealg.CountString"], unfollowed := true, recurses := true, named := ["unicode/utf8.first", "unicode/utf8.acceptRanges", "internal/bytealg.MaxLen"], apart := false, laid := [("unicode/utf8.acceptRanges", laid_unicode_utf8_acceptRanges), ("unicode/utf8.first", laid_unicode_utf8_first)] }
def TopicPartsSaid : Prop := topicPartsRow.holds Tryd.pinned (OpenSpec.ofChange topicPartsSpec)

/-- ITS FALSE NEIGHBOUR: 'it returns false'. Refute it at one input. -/
def topicPartsWrong : ChangeSpec := { name := "topicParts", fn := fun _ => fun
  | [d1, d2, d3] => { results := [.lit (.bool false)], args := [d1, d2, d3] }
  | _ => none }
def TopicPartsWrongFalsely : Prop := topicPartsRow.holds Tryd.pinned (OpenSpec.ofChange topicPartsWrong)

/-- 'roadsteadlaw09.TopicWants': WHATEVER THE INPUT: true; the input reads as it did. -/
def topicWantsSpec : ChangeSpec := { name := "topicWants", fn := fun _ => fun
  | [d1, d2, d3, d4] => { results := [.lit (.bool true)], args := [d1, d2, d3, d4] }
  | _ => none }
def topicWantsRow : OpenClaim := { program := "ytlnbhfokhbmhdaadoor", sum := "c152a89202084bae675777b78ee640c412752f8afc57af435c765951e1fd98e2", func := "roadstead/roadsteadlaw09.TopicWants", spec := "topicWants", inPlace := ["internal/bytealg.IndexByteString", "internal/bytealg.IndexString", "internal/bytealg.CountString"], unfollowed := true, recurses := true, named := ["unicode/utf8.first", "unicode/utf8.acceptRanges", "internal/bytealg.MaxLen"], apart := false, laid := [("unicode/utf8.acceptRanges", laid_unicode_utf8_acceptRanges), ("unicode/utf8.first", laid_unicode_utf8_first)] }
def TopicWantsSaid : Prop := topicWantsRow.holds Tryd.pinned (OpenSpec.ofChange topicWantsSpec)

/-- ITS FALSE NEIGHBOUR: 'it returns false'. Refute it at one input. -/
def topicWantsWrong : ChangeSpec := { name := "topicWants", fn := fun _ => fun
  | [d1, d2, d3, d4] => { results := [.lit (.bool false)], args := [d1, d2, d3, d4] }
  | _ => none }
def TopicWantsWrongFalsely : Prop := topicWantsRow.holds Tryd.pinned (OpenSpec.ofChange topicWantsWrong)

/-- 'roadsteadlaw09.TopicLess': WHATEVER THE INPUT: true; the input reads as it did. -/
def topicLessSpec : ChangeSpec := { name := "topicLess", fn := fun _ => fun
  | [d1, d2] => { results := [.lit (.bool true)], args := [d1, d2] }
  | _ => none }
def topicLessRow : OpenClaim := { program := "ytlnbhfokhbmhdaadoor", sum := "c152a89202084bae675777b78ee640c412752f8afc57af435c765951e1fd98e2", func := "roadstead/roadsteadlaw09.TopicLess", spec := "topicLess", inPlace := ["internal/bytealg.CountString", "internal/bytealg.IndexByteString", "internal/bytealg.IndexString"], unfollowed := true, recurses := true, named := ["unicode/utf8.first", "unicode/utf8.acceptRanges", "internal/bytealg.MaxLen"], apart := false, laid := [("unicode/utf8.acceptRanges", laid_unicode_utf8_acceptRanges), ("unicode/utf8.first", laid_unicode_utf8_first)] }
def TopicLessSaid : Prop := topicLessRow.holds Tryd.pinned (OpenSpec.ofChange topicLessSpec)

/-- ITS FALSE NEIGHBOUR: 'it returns false'. Refute it at one input. -/
def topicLessWrong : ChangeSpec := { name := "topicLess", fn := fun _ => fun
  | [d1, d2] => { results := [.lit (.bool false)], args := [d1, d2] }
  | _ => none }
def TopicLessWrongFalsely : Prop := topicLessRow.holds Tryd.pinned (OpenSpec.ofChange topicLessWrong)

/-- 'roadsteadlaw09.TopicLong': WHATEVER THE INPUT: true; the input reads as it did. -/
def topicLongSpec : ChangeSpec := { name := "topicLong", fn := fun _ => fun
  | [d] => { results := [.lit (.bool true)], args := [d] }
  | _ => none }
def topicLongRow : OpenClaim := { program := "ytlnbhfokhbmhdaadoor", sum := "c152a89202084bae675777b78ee640c412752f8afc57af435c765951e1fd98e2", func := "roadstead/roadsteadlaw09.TopicLong", spec := "topicLong", inPlace := ["internal/bytealg.IndexByteString", "internal/bytealg.IndexString", "internal/bytealg.CountString"], unfollowed := true, recurses := true, named := ["unicode/utf8.first", "unicode/utf8.acceptRanges", "internal/bytealg.MaxLen"], apart := false, laid := [("unicode/utf8.acceptRanges", laid_unicode_utf8_acceptRanges), ("unicode/utf8.first", laid_unicode_utf8_first)] }
def TopicLongSaid : Prop := topicLongRow.holds Tryd.pinned (OpenSpec.ofChange topicLongSpec)

/-- ITS FALSE NEIGHBOUR: 'it returns false'. Refute it at one input. -/
def topicLongWrong : ChangeSpec := { name := "topicLong", fn := fun _ => fun
  | [d] => { results := [.lit (.bool false)], args := [d] }
  | _ => none }
def TopicLongWrongFalsely : Prop := topicLongRow.holds Tryd.pinned (OpenSpec.ofChange topicLongWrong)

/- THE SECOND FORM. 'bulk': how many values and letters a reading holds, each counted each time it is reached (what is shared counts as often as it is met; a slice's spare places count too). A statement '..UptoSaid' is the law's where the arguments, and the package variables that the reading takes, are together of bulk at most 1048576: NARROWER than '..Said'. Prove '..Said' where nothing that the law and all that it calls make is longer than what came in: it says more and counts as full. Else prove '..UptoSaid'. A law counts once. -/
mutual
def uptoBulk {H : Type} : DataW H → Nat
  | .lit (.string bytes) => bytes.length + 1
  | .lit _ => 1
  | .nil => 1
  | .ptr d => uptoBulk d + 1
  | .slice elems spare => uptoBulkAll elems + uptoBulkAll spare + 1
  | .agg parts => uptoBulkAll parts + 1
  | .iface _ d => uptoBulk d + 1
  | .map entries => uptoBulkEntries entries + 1
  | .held _ => 1
def uptoBulkAll {H : Type} : List (DataW H) → Nat
  | [] => 0
  | d :: r => uptoBulk d + uptoBulkAll r
def uptoBulkEntries {H : Type} : List (Lit × DataW H) → Nat
  | [] => 0
  | x :: r => uptoBulkEntry x + uptoBulkEntries r
def uptoBulkEntry {H : Type} : Lit × DataW H → Nat
  | (.string bytes, d) => bytes.length + uptoBulk d + 1
  | (_, d) => uptoBulk d + 1
 end
def uptoSmall : (H : Type) → List (DataW H) → Bool := fun _ ds => decide (uptoBulkAll ds ≤ 1048576)
def OpenSpec.upto (s : _root_.Go.ChangeSpec) : _root_.Go.OpenSpec := { _root_.Go.OpenSpec.ofChange s with cond := some uptoSmall }

/-- 'roadsteadlaw09.TopicMatches', WHERE WHAT IT READS IS OF BULK AT MOST 1048576: true; the input reads as it did. -/
def topicMatchesUptoRow : OpenClaim := { program := "ytlnbhfokhbmhdaadoor", sum := "c152a89202084bae675777b78ee640c412752f8afc57af435c765951e1fd98e2", func := "roadstead/roadsteadlaw09.TopicMatches", spec := "topicMatches", inPlace := ["internal/bytealg.IndexByteString", "internal/bytealg.IndexString", "internal/bytealg.CountString"], unfollowed := true, recurses := true, named := ["unicode/utf8.first", "unicode/utf8.acceptRanges", "internal/bytealg.MaxLen"], apart := false, laid := [("unicode/utf8.acceptRanges", laid_unicode_utf8_acceptRanges), ("unicode/utf8.first", laid_unicode_utf8_first)], narrowed := true }
def TopicMatchesUptoSaid : Prop := topicMatchesUptoRow.holds Tryd.pinned (OpenSpec.upto topicMatchesSpec)

/-- 'roadsteadlaw09.TopicOwn', WHERE WHAT IT READS IS OF BULK AT MOST 1048576: true; the input reads as it did. -/
def topicOwnUptoRow : OpenClaim := { program := "ytlnbhfokhbmhdaadoor", sum := "c152a89202084bae675777b78ee640c412752f8afc57af435c765951e1fd98e2", func := "roadstead/roadsteadlaw09.TopicOwn", spec := "topicOwn", inPlace := ["internal/bytealg.IndexByteString", "internal/bytealg.IndexString", "internal/bytealg.CountString"], unfollowed := true, recurses := true, named := ["unicode/utf8.first", "unicode/utf8.acceptRanges", "internal/bytealg.MaxLen"], apart := false, laid := [("unicode/utf8.acceptRanges", laid_unicode_utf8_acceptRanges), ("unicode/utf8.first", laid_unicode_utf8_first)], narrowed := true }
def TopicOwnUptoSaid : Prop := topicOwnUptoRow.holds Tryd.pinned (OpenSpec.upto topicOwnSpec)

/-- 'roadsteadlaw09.TopicParts', WHERE WHAT IT READS IS OF BULK AT MOST 1048576: true; the input reads as it did. -/
def topicPartsUptoRow : OpenClaim := { program := "ytlnbhfokhbmhdaadoor", sum := "c152a89202084bae675777b78ee640c412752f8afc57af435c765951e1fd98e2", func := "roadstead/roadsteadlaw09.TopicParts", spec := "topicParts", inPlace := ["internal/bytealg.IndexByteString", "internal/bytealg.IndexString", "internal/bytealg.CountString"], unfollowed := true, recurses := true, named := ["unicode/utf8.first", "unicode/utf8.acceptRanges", "internal/bytealg.MaxLen"], apart := false, laid := [("unicode/utf8.acceptRanges", laid_unicode_utf8_acceptRanges), ("unicode/utf8.first", laid_unicode_utf8_first)], narrowed := true }
def TopicPartsUptoSaid : Prop := topicPartsUptoRow.holds Tryd.pinned (OpenSpec.upto topicPartsSpec)

/-- 'roadsteadlaw09.TopicWants', WHERE WHAT IT READS IS OF BULK AT MOST 1048576: true; the input reads as it did. -/
def topicWantsUptoRow : OpenClaim := { program := "ytlnbhfokhbmhdaadoor", sum := "c152a89202084bae675777b78ee640c412752f8afc57af435c765951e1fd98e2", func := "roadstead/roadsteadlaw09.TopicWants", spec := "topicWants", inPlace := ["internal/bytealg.IndexByteString", "internal/bytealg.IndexString", "internal/bytealg.CountString"], unfollowed := true, recurses := true, named := ["unicode/utf8.first", "unicode/utf8.acceptRanges", "internal/bytealg.MaxLen"], apart := false, laid := [("unicode/utf8.acceptRanges", laid_unicode_utf8_acceptRanges), ("unicode/utf8.first", laid_unicode_utf8_first)], narrowed := true }
def TopicWantsUptoSaid : Prop := topicWantsUptoRow.holds Tryd.pinned (OpenSpec.upto topicWantsSpec)

/-- 'roadsteadlaw09.TopicLess', WHERE WHAT IT READS IS OF BULK AT MOST 1048576: true; the input reads as it did. -/
def topicLessUptoRow : OpenClaim := { program := "ytlnbhfokhbmhdaadoor", sum := "c152a89202084bae675777b78ee640c412752f8afc57af435c765951e1fd98e2", func := "roadstead/roadsteadlaw09.TopicLess", spec := "topicLess", inPlace := ["internal/bytealg.CountString", "internal/bytealg.IndexByteString", "internal/bytealg.IndexString"], unfollowed := true, recurses := true, named := ["unicode/utf8.first", "unicode/utf8.acceptRanges", "internal/bytealg.MaxLen"], apart := false, laid := [("unicode/utf8.acceptRanges", laid_unicode_utf8_acceptRanges), ("unicode/utf8.first", laid_unicode_utf8_first)], narrowed := true }
def TopicLessUptoSaid : Prop := topicLessUptoRow.holds Tryd.pinned (OpenSpec.upto topicLessSpec)

/-- 'roadsteadlaw09.TopicLong', WHERE WHAT IT READS IS OF BULK AT MOST 1048576: true; the input reads as it did. -/
def topicLongUptoRow : OpenClaim := { program := "ytlnbhfokhbmhdaadoor", sum := "c152a89202084bae675777b78ee640c412752f8afc57af435c765951e1fd98e2", func := "roadstead/roadsteadlaw09.TopicLong", spec := "topicLong", inPlace := ["internal/bytealg.IndexByteString", "internal/bytealg.IndexString", "internal/bytealg.CountString"], unfollowed := true, recurses := true, named := ["unicode/utf8.first", "unicode/utf8.acceptRanges", "internal/bytealg.MaxLen"], apart := false, laid := [("unicode/utf8.acceptRanges", laid_unicode_utf8_acceptRanges), ("unicode/utf8.first", laid_unicode_utf8_first)], narrowed := true }
def TopicLongUptoSaid : Prop := topicLongUptoRow.holds Tryd.pinned (OpenSpec.upto topicLongSpec)

end Rows
end Go.Proofs.YtlnbhfokhbmhdaaDoor
