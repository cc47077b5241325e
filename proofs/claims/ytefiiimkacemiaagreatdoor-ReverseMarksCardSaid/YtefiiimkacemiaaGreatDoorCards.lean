/-
  DERIVED. GIVEN WITH THE SEED: THE CARDS: each row of YtefiiimkacemiaaGreatDoorRows.lean that lists a variable, with what it lists TIED to the program's text (the seventh form; the later family's looks); each row that meets fmt, with fmt's text TOLD by the authors' own Lean function (tested against real Go, not proved from fmt's source: count such statements apart). THE CARD IS WHAT COUNTS. Prove the row's statement (the work); the ties are given (YtefiiimkacemiaaGreatDoorTie.lean); close each card by the builder's one call (the guide's Derived/Test/ToyasCard.lean, 'card_holds'). Laid BY PROGRAM, IN A SANDBOX (cutbox-door.mjs). By AI agents, Wed Nov 11 2026. No macro, syntax, notation, axiom, sorry.
-/
import Derived.Test.YtefiiimkacemiaaGreatDoorRows
import GoSem.ClaimSeven
namespace Go.Proofs.YtefiiimkacemiaaGreatDoor
namespace Rows

/-- THE TIED CARD OF 'standbylaw47.ReverseMarks'. -/
def reverseMarksCard : Claim7 := { stood := { row := reverseMarksRow, standIns := [], harness := (true, "df8dd28e4f344204d069d781e9e7c4c2e29e9402a64fdf9846f8c69dbdd42979"), looks := false }, kinds := [], alts := [], laidByText := true, laidKinds := [.data], laidTests := true, laidLooks := .later }
def ReverseMarksCardSaid : Prop := Claim7.holds Tryz.pinned (.plain (OpenSpec.ofChange reverseMarksSpec)) reverseMarksCard

/-- THE SECOND FORM's CARD OF 'standbylaw47.ReverseMarks'. -/
def reverseMarksUptoCard : Claim7 := { stood := { row := reverseMarksUptoRow, standIns := [], harness := (true, "df8dd28e4f344204d069d781e9e7c4c2e29e9402a64fdf9846f8c69dbdd42979"), looks := false }, kinds := [], alts := [], laidByText := true, laidKinds := [.data], laidTests := true, laidLooks := .later }
def ReverseMarksUptoCardSaid : Prop := Claim7.holds Tryz.pinned (.plain (OpenSpec.upto reverseMarksSpec)) reverseMarksUptoCard
end Rows
end Go.Proofs.YtefiiimkacemiaaGreatDoor
