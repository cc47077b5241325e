/-
  DERIVED. GIVEN WITH THE SEED: THE CARDS: each row of YtgojhiknicmopaaDoorRows.lean that lists a variable, with what it lists TIED to the program's text (the seventh form; the later family's looks); each row that meets fmt, with fmt's text TOLD by the authors' own Lean function (tested against real Go, not proved from fmt's source: count such statements apart). THE CARD IS WHAT COUNTS. Prove the row's statement (the work); the ties are given (YtgojhiknicmopaaDoorTie.lean); close each card by the builder's one call (the guide's Derived/Test/ToyasCard.lean, 'card_holds'). Laid BY PROGRAM, IN A SANDBOX (cutbox-door.mjs). By AI agents, Wed Nov 11 2026. No macro, syntax, notation, axiom, sorry.
-/
import Derived.Test.YtgojhiknicmopaaDoorRows
import GoSem.ClaimSeven
namespace Go.Proofs.YtgojhiknicmopaaDoor
namespace Rows

/-- THE TIED CARD OF 'standbylaw43.TrackerUnites'. -/
def trackerUnitesCard : Claim7 := { stood := { row := trackerUnitesRow, standIns := [], harness := (true, "dcabe32ae61d318fbf05bed016eb18d07d82532c6760b69cb287494840d13797"), looks := false }, kinds := [], alts := [], laidByText := true, laidKinds := [.data], laidTests := true, laidLooks := .later }
def TrackerUnitesCardSaid : Prop := Claim7.holds Tryd.pinned (.plain (OpenSpec.ofChange trackerUnitesSpec)) trackerUnitesCard

/-- THE SECOND FORM's CARD OF 'standbylaw43.TrackerUnites'. -/
def trackerUnitesUptoCard : Claim7 := { stood := { row := trackerUnitesUptoRow, standIns := [], harness := (true, "dcabe32ae61d318fbf05bed016eb18d07d82532c6760b69cb287494840d13797"), looks := false }, kinds := [], alts := [], laidByText := true, laidKinds := [.data], laidTests := true, laidLooks := .later }
def TrackerUnitesUptoCardSaid : Prop := Claim7.holds Tryd.pinned (.plain (OpenSpec.upto trackerUnitesSpec)) trackerUnitesUptoCard
end Rows
end Go.Proofs.YtgojhiknicmopaaDoor
