/-
  DERIVED. GIVEN WITH THE SEED: THE CARDS: each row of YtpmjodnmnffmhaaGreatDoorRows.lean that lists a variable, with what it lists TIED to the program's text (the seventh form; the later family's looks); each row that meets fmt, with fmt's text TOLD by the authors' own Lean function (tested against real Go, not proved from fmt's source: count such statements apart). THE CARD IS WHAT COUNTS. Prove the row's statement (the work); the ties are given (YtpmjodnmnffmhaaGreatDoorTie.lean); close each card by the builder's one call (the guide's Derived/Test/ToyasCard.lean, 'card_holds'). Laid BY PROGRAM, IN A SANDBOX (cutbox-door.mjs). By AI agents, Wed Nov 11 2026. No macro, syntax, notation, axiom, sorry.
-/
import Derived.Test.YtpmjodnmnffmhaaGreatDoorRows
import GoSem.ClaimSeven
namespace Go.Proofs.YtpmjodnmnffmhaaGreatDoor
namespace Rows

/-- THE TIED CARD OF 'standbylaw16.CutLists'. -/
def cutListsCard : Claim7 := { stood := { row := cutListsRow, standIns := [], harness := (true, "982b85d7fc28f81cd50639e72151f7db201b988bd90d7a0b40d133412f752128"), looks := false }, kinds := [], alts := [], laidByText := true, laidKinds := [.data, .data, .data], laidTests := true, laidLooks := .later }
def CutListsCardSaid : Prop := Claim7.holds Tryz.pinned (.plain (OpenSpec.ofChange cutListsSpec)) cutListsCard

/-- THE TIED CARD OF 'standbylaw16.CutExtremes'. -/
def cutExtremesCard : Claim7 := { stood := { row := cutExtremesRow, standIns := [], harness := (true, "982b85d7fc28f81cd50639e72151f7db201b988bd90d7a0b40d133412f752128"), looks := false }, kinds := [], alts := [], laidByText := true, laidKinds := [.data, .data, .data], laidTests := true, laidLooks := .later }
def CutExtremesCardSaid : Prop := Claim7.holds Tryz.pinned (.plain (OpenSpec.ofChange cutExtremesSpec)) cutExtremesCard

/-- THE TIED CARD OF 'standbylaw16.CutCombines'. -/
def cutCombinesCard : Claim7 := { stood := { row := cutCombinesRow, standIns := [], harness := (true, "982b85d7fc28f81cd50639e72151f7db201b988bd90d7a0b40d133412f752128"), looks := false }, kinds := [], alts := [], laidByText := true, laidKinds := [.data, .data, .data], laidTests := true, laidLooks := .later }
def CutCombinesCardSaid : Prop := Claim7.holds Tryz.pinned (.plain (OpenSpec.ofChange cutCombinesSpec)) cutCombinesCard

/-- THE TIED CARD OF 'standbylaw16.CutPrefixes'. -/
def cutPrefixesCard : Claim7 := { stood := { row := cutPrefixesRow, standIns := [], harness := (true, "982b85d7fc28f81cd50639e72151f7db201b988bd90d7a0b40d133412f752128"), looks := false }, kinds := [], alts := [], laidByText := true, laidKinds := [.data, .data, .data], laidTests := true, laidLooks := .later }
def CutPrefixesCardSaid : Prop := Claim7.holds Tryz.pinned (.plain (OpenSpec.ofChange cutPrefixesSpec)) cutPrefixesCard

/-- THE TIED CARD OF 'standbylaw16.CutAlgebra'. -/
def cutAlgebraCard : Claim7 := { stood := { row := cutAlgebraRow, standIns := [], harness := (true, "982b85d7fc28f81cd50639e72151f7db201b988bd90d7a0b40d133412f752128"), looks := false }, kinds := [], alts := [], laidByText := true, laidKinds := [.data, .data, .data], laidTests := true, laidLooks := .later }
def CutAlgebraCardSaid : Prop := Claim7.holds Tryz.pinned (.plain (OpenSpec.ofChange cutAlgebraSpec)) cutAlgebraCard

/-- THE TIED CARD OF 'standbylaw16.CutGenerates'. -/
def cutGeneratesCard : Claim7 := { stood := { row := cutGeneratesRow, standIns := [], harness := (true, "982b85d7fc28f81cd50639e72151f7db201b988bd90d7a0b40d133412f752128"), looks := false }, kinds := [], alts := [], laidByText := true, laidKinds := [.data, .data, .data], laidTests := true, laidLooks := .later }
def CutGeneratesCardSaid : Prop := Claim7.holds Tryz.pinned (.plain (OpenSpec.ofChange cutGeneratesSpec)) cutGeneratesCard

/-- THE TIED CARD OF 'standbylaw16.CutBounds'. -/
def cutBoundsCard : Claim7 := { stood := { row := cutBoundsRow, standIns := [], harness := (true, "982b85d7fc28f81cd50639e72151f7db201b988bd90d7a0b40d133412f752128"), looks := false }, kinds := [], alts := [], laidByText := true, laidKinds := [.data, .data, .data], laidTests := true, laidLooks := .later }
def CutBoundsCardSaid : Prop := Claim7.holds Tryz.pinned (.plain (OpenSpec.ofChange cutBoundsSpec)) cutBoundsCard

/-- THE TIED CARD OF 'standbylaw16.CutCounts'. -/
def cutCountsCard : Claim7 := { stood := { row := cutCountsRow, standIns := [], harness := (true, "982b85d7fc28f81cd50639e72151f7db201b988bd90d7a0b40d133412f752128"), looks := false }, kinds := [], alts := [], laidByText := true, laidKinds := [.data, .data, .data], laidTests := true, laidLooks := .later }
def CutCountsCardSaid : Prop := Claim7.holds Tryz.pinned (.plain (OpenSpec.ofChange cutCountsSpec)) cutCountsCard

/-- THE TIED CARD OF 'standbylaw18.ConsistencyDecides'. -/
def consistencyDecidesCard : Claim7 := { stood := { row := consistencyDecidesRow, standIns := [], harness := (true, "982b85d7fc28f81cd50639e72151f7db201b988bd90d7a0b40d133412f752128"), looks := false }, kinds := [], alts := [], laidByText := true, laidKinds := [.data, .data, .data], laidTests := true, laidLooks := .later }
def ConsistencyDecidesCardSaid : Prop := Claim7.holds Tryz.pinned (.plain (OpenSpec.ofChange consistencyDecidesSpec)) consistencyDecidesCard

/-- THE SECOND FORM's CARD OF 'standbylaw16.CutLists'. -/
def cutListsUptoCard : Claim7 := { stood := { row := cutListsUptoRow, standIns := [], harness := (true, "982b85d7fc28f81cd50639e72151f7db201b988bd90d7a0b40d133412f752128"), looks := false }, kinds := [], alts := [], laidByText := true, laidKinds := [.data, .data, .data], laidTests := true, laidLooks := .later }
def CutListsUptoCardSaid : Prop := Claim7.holds Tryz.pinned (.plain (OpenSpec.upto cutListsSpec)) cutListsUptoCard

/-- THE SECOND FORM's CARD OF 'standbylaw16.CutExtremes'. -/
def cutExtremesUptoCard : Claim7 := { stood := { row := cutExtremesUptoRow, standIns := [], harness := (true, "982b85d7fc28f81cd50639e72151f7db201b988bd90d7a0b40d133412f752128"), looks := false }, kinds := [], alts := [], laidByText := true, laidKinds := [.data, .data, .data], laidTests := true, laidLooks := .later }
def CutExtremesUptoCardSaid : Prop := Claim7.holds Tryz.pinned (.plain (OpenSpec.upto cutExtremesSpec)) cutExtremesUptoCard

/-- THE SECOND FORM's CARD OF 'standbylaw16.CutCombines'. -/
def cutCombinesUptoCard : Claim7 := { stood := { row := cutCombinesUptoRow, standIns := [], harness := (true, "982b85d7fc28f81cd50639e72151f7db201b988bd90d7a0b40d133412f752128"), looks := false }, kinds := [], alts := [], laidByText := true, laidKinds := [.data, .data, .data], laidTests := true, laidLooks := .later }
def CutCombinesUptoCardSaid : Prop := Claim7.holds Tryz.pinned (.plain (OpenSpec.upto cutCombinesSpec)) cutCombinesUptoCard

/-- THE SECOND FORM's CARD OF 'standbylaw16.CutPrefixes'. -/
def cutPrefixesUptoCard : Claim7 := { stood := { row := cutPrefixesUptoRow, standIns := [], harness := (true, "982b85d7fc28f81cd50639e72151f7db201b988bd90d7a0b40d133412f752128"), looks := false }, kinds := [], alts := [], laidByText := true, laidKinds := [.data, .data, .data], laidTests := true, laidLooks := .later }
def CutPrefixesUptoCardSaid : Prop := Claim7.holds Tryz.pinned (.plain (OpenSpec.upto cutPrefixesSpec)) cutPrefixesUptoCard

/-- THE SECOND FORM's CARD OF 'standbylaw16.CutAlgebra'. -/
def cutAlgebraUptoCard : Claim7 := { stood := { row := cutAlgebraUptoRow, standIns := [], harness := (true, "982b85d7fc28f81cd50639e72151f7db201b988bd90d7a0b40d133412f752128"), looks := false }, kinds := [], alts := [], laidByText := true, laidKinds := [.data, .data, .data], laidTests := true, laidLooks := .later }
def CutAlgebraUptoCardSaid : Prop := Claim7.holds Tryz.pinned (.plain (OpenSpec.upto cutAlgebraSpec)) cutAlgebraUptoCard

/-- THE SECOND FORM's CARD OF 'standbylaw16.CutGenerates'. -/
def cutGeneratesUptoCard : Claim7 := { stood := { row := cutGeneratesUptoRow, standIns := [], harness := (true, "982b85d7fc28f81cd50639e72151f7db201b988bd90d7a0b40d133412f752128"), looks := false }, kinds := [], alts := [], laidByText := true, laidKinds := [.data, .data, .data], laidTests := true, laidLooks := .later }
def CutGeneratesUptoCardSaid : Prop := Claim7.holds Tryz.pinned (.plain (OpenSpec.upto cutGeneratesSpec)) cutGeneratesUptoCard

/-- THE SECOND FORM's CARD OF 'standbylaw16.CutBounds'. -/
def cutBoundsUptoCard : Claim7 := { stood := { row := cutBoundsUptoRow, standIns := [], harness := (true, "982b85d7fc28f81cd50639e72151f7db201b988bd90d7a0b40d133412f752128"), looks := false }, kinds := [], alts := [], laidByText := true, laidKinds := [.data, .data, .data], laidTests := true, laidLooks := .later }
def CutBoundsUptoCardSaid : Prop := Claim7.holds Tryz.pinned (.plain (OpenSpec.upto cutBoundsSpec)) cutBoundsUptoCard

/-- THE SECOND FORM's CARD OF 'standbylaw16.CutCounts'. -/
def cutCountsUptoCard : Claim7 := { stood := { row := cutCountsUptoRow, standIns := [], harness := (true, "982b85d7fc28f81cd50639e72151f7db201b988bd90d7a0b40d133412f752128"), looks := false }, kinds := [], alts := [], laidByText := true, laidKinds := [.data, .data, .data], laidTests := true, laidLooks := .later }
def CutCountsUptoCardSaid : Prop := Claim7.holds Tryz.pinned (.plain (OpenSpec.upto cutCountsSpec)) cutCountsUptoCard

/-- THE SECOND FORM's CARD OF 'standbylaw18.ConsistencyDecides'. -/
def consistencyDecidesUptoCard : Claim7 := { stood := { row := consistencyDecidesUptoRow, standIns := [], harness := (true, "982b85d7fc28f81cd50639e72151f7db201b988bd90d7a0b40d133412f752128"), looks := false }, kinds := [], alts := [], laidByText := true, laidKinds := [.data, .data, .data], laidTests := true, laidLooks := .later }
def ConsistencyDecidesUptoCardSaid : Prop := Claim7.holds Tryz.pinned (.plain (OpenSpec.upto consistencyDecidesSpec)) consistencyDecidesUptoCard
end Rows
end Go.Proofs.YtpmjodnmnffmhaaGreatDoor
