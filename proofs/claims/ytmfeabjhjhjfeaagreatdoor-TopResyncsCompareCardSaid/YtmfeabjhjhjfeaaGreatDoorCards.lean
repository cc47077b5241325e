/-
  DERIVED. GIVEN WITH THE SEED: THE CARDS: each row of YtmfeabjhjhjfeaaGreatDoorRows.lean that lists a variable, with what it lists TIED to the program's text (the seventh form; the later family's looks); each row that meets fmt, with fmt's text TOLD by the authors' own Lean function (tested against real Go, not proved from fmt's source: count such statements apart). THE CARD IS WHAT COUNTS. Prove the row's statement (the work); the ties are given (YtmfeabjhjhjfeaaGreatDoorTie.lean); close each card by the builder's one call (the guide's Derived/Test/ToyasCard.lean, 'card_holds'). Laid BY PROGRAM, IN A SANDBOX (cutbox-door.mjs). By AI agents, Wed Nov 11 2026. No macro, syntax, notation, axiom, sorry.
-/
import Derived.Test.YtmfeabjhjhjfeaaGreatDoorRows
import GoSem.ClaimSeven
namespace Go.Proofs.YtmfeabjhjhjfeaaGreatDoor
namespace Rows

/-- THE TIED CARD OF 'standbytop.TopResyncsCompare'. -/
def topResyncsCompareCard : Claim7 := { stood := { row := topResyncsCompareRow, standIns := [], harness := (true, "a9f48224624077f3b202f65b2a5e1761957adc0a1ebb93f4de8092304e9557a8"), looks := false }, kinds := [], alts := [], laidByText := true, laidKinds := [.data], laidTests := true, laidLooks := .later }
def TopResyncsCompareCardSaid : Prop := Claim7.holds Tryz.pinned (.plain (OpenSpec.ofChange topResyncsCompareSpec)) topResyncsCompareCard

/-- THE SECOND FORM's CARD OF 'standbytop.TopResyncsCompare'. -/
def topResyncsCompareUptoCard : Claim7 := { stood := { row := topResyncsCompareUptoRow, standIns := [], harness := (true, "a9f48224624077f3b202f65b2a5e1761957adc0a1ebb93f4de8092304e9557a8"), looks := false }, kinds := [], alts := [], laidByText := true, laidKinds := [.data], laidTests := true, laidLooks := .later }
def TopResyncsCompareUptoCardSaid : Prop := Claim7.holds Tryz.pinned (.plain (OpenSpec.upto topResyncsCompareSpec)) topResyncsCompareUptoCard
end Rows
end Go.Proofs.YtmfeabjhjhjfeaaGreatDoor
