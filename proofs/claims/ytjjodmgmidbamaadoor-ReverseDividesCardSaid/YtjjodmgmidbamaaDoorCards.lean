/-
  DERIVED. GIVEN WITH THE SEED: THE CARDS: each row of YtjjodmgmidbamaaDoorRows.lean that lists a variable, with what it lists TIED to the program's text (the seventh form; the later family's looks); each row that meets fmt, with fmt's text TOLD by the authors' own Lean function (tested against real Go, not proved from fmt's source: count such statements apart). THE CARD IS WHAT COUNTS. Prove the row's statement (the work); the ties are given (YtjjodmgmidbamaaDoorTie.lean); close each card by the builder's one call (the guide's Derived/Test/ToyasCard.lean, 'card_holds'). Laid BY PROGRAM, IN A SANDBOX (cutbox-door.mjs). By AI agents, Wed Nov 11 2026. No macro, syntax, notation, axiom, sorry.
-/
import Derived.Test.YtjjodmgmidbamaaDoorRows
import GoSem.ClaimSeven
namespace Go.Proofs.YtjjodmgmidbamaaDoor
namespace Rows

/-- THE TIED CARD OF 'standbylaw47.ReverseDiscards'. -/
def reverseDiscardsCard : Claim7 := { stood := { row := reverseDiscardsRow, standIns := [], harness := (true, "23ff28c34db89c2f4e03ff02e83e22b3ec02ebb1818baec1f217c02b1e3bc61a"), looks := false }, kinds := [], alts := [], laidByText := true, laidKinds := [.data], laidTests := true, laidLooks := .later }
def ReverseDiscardsCardSaid : Prop := Claim7.holds Tryd.pinned (.plain (OpenSpec.ofChange reverseDiscardsSpec)) reverseDiscardsCard

/-- THE TIED CARD OF 'standbylaw47.ReverseDivides'. -/
def reverseDividesCard : Claim7 := { stood := { row := reverseDividesRow, standIns := [], harness := (true, "23ff28c34db89c2f4e03ff02e83e22b3ec02ebb1818baec1f217c02b1e3bc61a"), looks := false }, kinds := [], alts := [], laidByText := true, laidKinds := [.data], laidTests := true, laidLooks := .later }
def ReverseDividesCardSaid : Prop := Claim7.holds Tryd.pinned (.plain (OpenSpec.ofChange reverseDividesSpec)) reverseDividesCard

/-- THE SECOND FORM's CARD OF 'standbylaw47.ReverseDiscards'. -/
def reverseDiscardsUptoCard : Claim7 := { stood := { row := reverseDiscardsUptoRow, standIns := [], harness := (true, "23ff28c34db89c2f4e03ff02e83e22b3ec02ebb1818baec1f217c02b1e3bc61a"), looks := false }, kinds := [], alts := [], laidByText := true, laidKinds := [.data], laidTests := true, laidLooks := .later }
def ReverseDiscardsUptoCardSaid : Prop := Claim7.holds Tryd.pinned (.plain (OpenSpec.upto reverseDiscardsSpec)) reverseDiscardsUptoCard

/-- THE SECOND FORM's CARD OF 'standbylaw47.ReverseDivides'. -/
def reverseDividesUptoCard : Claim7 := { stood := { row := reverseDividesUptoRow, standIns := [], harness := (true, "23ff28c34db89c2f4e03ff02e83e22b3ec02ebb1818baec1f217c02b1e3bc61a"), looks := false }, kinds := [], alts := [], laidByText := true, laidKinds := [.data], laidTests := true, laidLooks := .later }
def ReverseDividesUptoCardSaid : Prop := Claim7.holds Tryd.pinned (.plain (OpenSpec.upto reverseDividesSpec)) reverseDividesUptoCard
end Rows
end Go.Proofs.YtjjodmgmidbamaaDoor
