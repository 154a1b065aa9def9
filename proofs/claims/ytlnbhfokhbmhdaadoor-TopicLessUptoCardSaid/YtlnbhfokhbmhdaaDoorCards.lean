/-
  DERIVED. GIVEN WITH THE SEED: THE CARDS: each row of YtlnbhfokhbmhdaaDoorRows.lean that lists a variable, with what it lists TIED to the program's text (the seventh form; the later family's looks); each row that meets fmt, with fmt's text TOLD by the authors' own Lean function (tested against real Go, not proved from fmt's source: count such statements apart). THE CARD IS WHAT COUNTS. Prove the row's statement (the work); the ties are given (YtlnbhfokhbmhdaaDoorTie.lean); close each card by the builder's one call (the guide's Derived/Test/ToyasCard.lean, 'card_holds'). Laid BY PROGRAM, IN A SANDBOX (cutbox-door.mjs). By AI agents, Wed Nov 11 2026. No macro, syntax, notation, axiom, sorry.
-/
import Derived.Test.YtlnbhfokhbmhdaaDoorRows
import GoSem.ClaimSeven
namespace Go.Proofs.YtlnbhfokhbmhdaaDoor
namespace Rows

/-- THE TIED CARD OF 'roadsteadlaw09.TopicMatches'. -/
def topicMatchesCard : Claim7 := { stood := { row := topicMatchesRow, standIns := [], harness := (true, "524c86ef2e687b6f8d10f8847808a3b02e3789f9ccf78c3ddee94ccfa378d3d2"), looks := false }, kinds := [], alts := [], laidByText := true, laidKinds := [.data, .pinned], laidTests := true, laidLooks := .later }
def TopicMatchesCardSaid : Prop := Claim7.holds Tryd.pinned (.plain (OpenSpec.ofChange topicMatchesSpec)) topicMatchesCard

/-- THE TIED CARD OF 'roadsteadlaw09.TopicOwn'. -/
def topicOwnCard : Claim7 := { stood := { row := topicOwnRow, standIns := [], harness := (true, "524c86ef2e687b6f8d10f8847808a3b02e3789f9ccf78c3ddee94ccfa378d3d2"), looks := false }, kinds := [], alts := [], laidByText := true, laidKinds := [.data, .pinned], laidTests := true, laidLooks := .later }
def TopicOwnCardSaid : Prop := Claim7.holds Tryd.pinned (.plain (OpenSpec.ofChange topicOwnSpec)) topicOwnCard

/-- THE TIED CARD OF 'roadsteadlaw09.TopicParts'. -/
def topicPartsCard : Claim7 := { stood := { row := topicPartsRow, standIns := [], harness := (true, "524c86ef2e687b6f8d10f8847808a3b02e3789f9ccf78c3ddee94ccfa378d3d2"), looks := false }, kinds := [], alts := [], laidByText := true, laidKinds := [.data, .pinned], laidTests := true, laidLooks := .later }
def TopicPartsCardSaid : Prop := Claim7.holds Tryd.pinned (.plain (OpenSpec.ofChange topicPartsSpec)) topicPartsCard

/-- THE TIED CARD OF 'roadsteadlaw09.TopicWants'. -/
def topicWantsCard : Claim7 := { stood := { row := topicWantsRow, standIns := [], harness := (true, "524c86ef2e687b6f8d10f8847808a3b02e3789f9ccf78c3ddee94ccfa378d3d2"), looks := false }, kinds := [], alts := [], laidByText := true, laidKinds := [.data, .pinned], laidTests := true, laidLooks := .later }
def TopicWantsCardSaid : Prop := Claim7.holds Tryd.pinned (.plain (OpenSpec.ofChange topicWantsSpec)) topicWantsCard

/-- THE TIED CARD OF 'roadsteadlaw09.TopicLess'. -/
def topicLessCard : Claim7 := { stood := { row := topicLessRow, standIns := [], harness := (true, "524c86ef2e687b6f8d10f8847808a3b02e3789f9ccf78c3ddee94ccfa378d3d2"), looks := false }, kinds := [], alts := [], laidByText := true, laidKinds := [.data, .pinned], laidTests := true, laidLooks := .later }
def TopicLessCardSaid : Prop := Claim7.holds Tryd.pinned (.plain (OpenSpec.ofChange topicLessSpec)) topicLessCard

/-- THE TIED CARD OF 'roadsteadlaw09.TopicLong'. -/
def topicLongCard : Claim7 := { stood := { row := topicLongRow, standIns := [], harness := (true, "524c86ef2e687b6f8d10f8847808a3b02e3789f9ccf78c3ddee94ccfa378d3d2"), looks := false }, kinds := [], alts := [], laidByText := true, laidKinds := [.data, .pinned], laidTests := true, laidLooks := .later }
def TopicLongCardSaid : Prop := Claim7.holds Tryd.pinned (.plain (OpenSpec.ofChange topicLongSpec)) topicLongCard

/-- THE SECOND FORM's CARD OF 'roadsteadlaw09.TopicMatches'. -/
def topicMatchesUptoCard : Claim7 := { stood := { row := topicMatchesUptoRow, standIns := [], harness := (true, "524c86ef2e687b6f8d10f8847808a3b02e3789f9ccf78c3ddee94ccfa378d3d2"), looks := false }, kinds := [], alts := [], laidByText := true, laidKinds := [.data, .pinned], laidTests := true, laidLooks := .later }
def TopicMatchesUptoCardSaid : Prop := Claim7.holds Tryd.pinned (.plain (OpenSpec.upto topicMatchesSpec)) topicMatchesUptoCard

/-- THE SECOND FORM's CARD OF 'roadsteadlaw09.TopicOwn'. -/
def topicOwnUptoCard : Claim7 := { stood := { row := topicOwnUptoRow, standIns := [], harness := (true, "524c86ef2e687b6f8d10f8847808a3b02e3789f9ccf78c3ddee94ccfa378d3d2"), looks := false }, kinds := [], alts := [], laidByText := true, laidKinds := [.data, .pinned], laidTests := true, laidLooks := .later }
def TopicOwnUptoCardSaid : Prop := Claim7.holds Tryd.pinned (.plain (OpenSpec.upto topicOwnSpec)) topicOwnUptoCard

/-- THE SECOND FORM's CARD OF 'roadsteadlaw09.TopicParts'. -/
def topicPartsUptoCard : Claim7 := { stood := { row := topicPartsUptoRow, standIns := [], harness := (true, "524c86ef2e687b6f8d10f8847808a3b02e3789f9ccf78c3ddee94ccfa378d3d2"), looks := false }, kinds := [], alts := [], laidByText := true, laidKinds := [.data, .pinned], laidTests := true, laidLooks := .later }
def TopicPartsUptoCardSaid : Prop := Claim7.holds Tryd.pinned (.plain (OpenSpec.upto topicPartsSpec)) topicPartsUptoCard

/-- THE SECOND FORM's CARD OF 'roadsteadlaw09.TopicWants'. -/
def topicWantsUptoCard : Claim7 := { stood := { row := topicWantsUptoRow, standIns := [], harness := (true, "524c86ef2e687b6f8d10f8847808a3b02e3789f9ccf78c3ddee94ccfa378d3d2"), looks := false }, kinds := [], alts := [], laidByText := true, laidKinds := [.data, .pinned], laidTests := true, laidLooks := .later }
def TopicWantsUptoCardSaid : Prop := Claim7.holds Tryd.pinned (.plain (OpenSpec.upto topicWantsSpec)) topicWantsUptoCard

/-- THE SECOND FORM's CARD OF 'roadsteadlaw09.TopicLess'. -/
def topicLessUptoCard : Claim7 := { stood := { row := topicLessUptoRow, standIns := [], harness := (true, "524c86ef2e687b6f8d10f8847808a3b02e3789f9ccf78c3ddee94ccfa378d3d2"), looks := false }, kinds := [], alts := [], laidByText := true, laidKinds := [.data, .pinned], laidTests := true, laidLooks := .later }
def TopicLessUptoCardSaid : Prop := Claim7.holds Tryd.pinned (.plain (OpenSpec.upto topicLessSpec)) topicLessUptoCard

/-- THE SECOND FORM's CARD OF 'roadsteadlaw09.TopicLong'. -/
def topicLongUptoCard : Claim7 := { stood := { row := topicLongUptoRow, standIns := [], harness := (true, "524c86ef2e687b6f8d10f8847808a3b02e3789f9ccf78c3ddee94ccfa378d3d2"), looks := false }, kinds := [], alts := [], laidByText := true, laidKinds := [.data, .pinned], laidTests := true, laidLooks := .later }
def TopicLongUptoCardSaid : Prop := Claim7.holds Tryd.pinned (.plain (OpenSpec.upto topicLongSpec)) topicLongUptoCard
end Rows
end Go.Proofs.YtlnbhfokhbmhdaaDoor
