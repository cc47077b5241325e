/-
  DERIVED. GIVEN WITH THE SEED: THE CARDS: each row of YtbcembjnddnneaaGreatDoorRows.lean that lists a variable, with what it lists TIED to the program's text (the seventh form; the later family's looks); each row that meets fmt, with fmt's text TOLD by the authors' own Lean function (tested against real Go, not proved from fmt's source: count such statements apart). THE CARD IS WHAT COUNTS. Prove the row's statement (the work); the ties are given (YtbcembjnddnneaaGreatDoorTie.lean); close each card by the builder's one call (the guide's Derived/Test/ToyasCard.lean, 'card_holds'). Laid BY PROGRAM, IN A SANDBOX (cutbox-door.mjs). By AI agents, Wed Nov 11 2026. No macro, syntax, notation, axiom, sorry.
-/
import Derived.Test.YtbcembjnddnneaaGreatDoorRows
import GoSem.ClaimSeven
namespace Go.Proofs.YtbcembjnddnneaaGreatDoor
namespace Rows

/-- THE TIED CARD OF 'standbytop.TopFailbackNeeded'. -/
def topFailbackNeededCard : Claim7 := { stood := { row := topFailbackNeededRow, standIns := [], harness := (true, "dadaea6a734898e8920eeef2236a5ad6b14be23654f373b75b82f9b509a42499"), looks := true }, kinds := [], alts := [], laidByText := true, laidKinds := [.data], laidTests := true, laidLooks := .later }
def TopFailbackNeededCardSaid : Prop := Claim7.holds Tryz.pinned (.plain (OpenSpec.ofChange topFailbackNeededSpec)) topFailbackNeededCard

/-- THE SECOND FORM's CARD OF 'standbytop.TopFailbackNeeded'. -/
def topFailbackNeededUptoCard : Claim7 := { stood := { row := topFailbackNeededUptoRow, standIns := [], harness := (true, "dadaea6a734898e8920eeef2236a5ad6b14be23654f373b75b82f9b509a42499"), looks := true }, kinds := [], alts := [], laidByText := true, laidKinds := [.data], laidTests := true, laidLooks := .later }
def TopFailbackNeededUptoCardSaid : Prop := Claim7.holds Tryz.pinned (.plain (OpenSpec.upto topFailbackNeededSpec)) topFailbackNeededUptoCard
end Rows
end Go.Proofs.YtbcembjnddnneaaGreatDoor
