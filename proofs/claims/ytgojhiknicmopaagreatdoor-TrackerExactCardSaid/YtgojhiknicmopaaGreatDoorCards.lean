/-
  DERIVED. GIVEN WITH THE SEED: THE CARDS: each row of YtgojhiknicmopaaGreatDoorRows.lean that lists a variable, with what it lists TIED to the program's text (the seventh form; the later family's looks); each row that meets fmt, with fmt's text TOLD by the authors' own Lean function (tested against real Go, not proved from fmt's source: count such statements apart). THE CARD IS WHAT COUNTS. Prove the row's statement (the work); the ties are given (YtgojhiknicmopaaGreatDoorTie.lean); close each card by the builder's one call (the guide's Derived/Test/ToyasCard.lean, 'card_holds'). Laid BY PROGRAM, IN A SANDBOX (cutbox-door.mjs). By AI agents, Wed Nov 11 2026. No macro, syntax, notation, axiom, sorry.
-/
import Derived.Test.YtgojhiknicmopaaGreatDoorRows
import GoSem.ClaimSeven
namespace Go.Proofs.YtgojhiknicmopaaGreatDoor
namespace Rows

/-- THE TIED CARD OF 'standbylaw43.TrackerChecks'. -/
def trackerChecksCard : Claim7 := { stood := { row := trackerChecksRow, standIns := [], harness := (true, "3dc1ef937cb98039a352d753c213c597d4506c9529a7ef9e3e171f873310ddfa"), looks := true }, kinds := [], alts := [], laidByText := true, laidKinds := [.data], laidTests := true, laidLooks := .later }
def TrackerChecksCardSaid : Prop := Claim7.holds Tryz.pinned (.plain (OpenSpec.ofChange trackerChecksSpec)) trackerChecksCard

/-- THE TIED CARD OF 'standbylaw43.TrackerWrites'. -/
def trackerWritesCard : Claim7 := { stood := { row := trackerWritesRow, standIns := [], harness := (true, "3dc1ef937cb98039a352d753c213c597d4506c9529a7ef9e3e171f873310ddfa"), looks := true }, kinds := [], alts := [], laidByText := true, laidKinds := [.data], laidTests := true, laidLooks := .later }
def TrackerWritesCardSaid : Prop := Claim7.holds Tryz.pinned (.plain (OpenSpec.ofChange trackerWritesSpec)) trackerWritesCard

/-- THE TIED CARD OF 'standbylaw43.TrackerAgrees'. -/
def trackerAgreesCard : Claim7 := { stood := { row := trackerAgreesRow, standIns := [], harness := (true, "3dc1ef937cb98039a352d753c213c597d4506c9529a7ef9e3e171f873310ddfa"), looks := true }, kinds := [], alts := [], laidByText := true, laidKinds := [.data], laidTests := true, laidLooks := .later }
def TrackerAgreesCardSaid : Prop := Claim7.holds Tryz.pinned (.plain (OpenSpec.ofChange trackerAgreesSpec)) trackerAgreesCard

/-- THE TIED CARD OF 'standbylaw43.TrackerMerges'. -/
def trackerMergesCard : Claim7 := { stood := { row := trackerMergesRow, standIns := [], harness := (true, "3dc1ef937cb98039a352d753c213c597d4506c9529a7ef9e3e171f873310ddfa"), looks := true }, kinds := [], alts := [], laidByText := true, laidKinds := [.data], laidTests := true, laidLooks := .later }
def TrackerMergesCardSaid : Prop := Claim7.holds Tryz.pinned (.plain (OpenSpec.ofChange trackerMergesSpec)) trackerMergesCard

/-- THE TIED CARD OF 'standbylaw43.TrackerEncodes'. -/
def trackerEncodesCard : Claim7 := { stood := { row := trackerEncodesRow, standIns := [], harness := (true, "3dc1ef937cb98039a352d753c213c597d4506c9529a7ef9e3e171f873310ddfa"), looks := true }, kinds := [], alts := [], laidByText := true, laidKinds := [.data], laidTests := true, laidLooks := .later }
def TrackerEncodesCardSaid : Prop := Claim7.holds Tryz.pinned (.plain (OpenSpec.ofChange trackerEncodesSpec)) trackerEncodesCard

/-- THE TIED CARD OF 'standbylaw43.TrackerReturns'. -/
def trackerReturnsCard : Claim7 := { stood := { row := trackerReturnsRow, standIns := [], harness := (true, "3dc1ef937cb98039a352d753c213c597d4506c9529a7ef9e3e171f873310ddfa"), looks := true }, kinds := [], alts := [], laidByText := true, laidKinds := [.data], laidTests := true, laidLooks := .later }
def TrackerReturnsCardSaid : Prop := Claim7.holds Tryz.pinned (.plain (OpenSpec.ofChange trackerReturnsSpec)) trackerReturnsCard

/-- THE TIED CARD OF 'standbylaw43.TrackerCovers'. -/
def trackerCoversCard : Claim7 := { stood := { row := trackerCoversRow, standIns := [], harness := (true, "3dc1ef937cb98039a352d753c213c597d4506c9529a7ef9e3e171f873310ddfa"), looks := true }, kinds := [], alts := [], laidByText := true, laidKinds := [.data], laidTests := true, laidLooks := .later }
def TrackerCoversCardSaid : Prop := Claim7.holds Tryz.pinned (.plain (OpenSpec.ofChange trackerCoversSpec)) trackerCoversCard

/-- THE TIED CARD OF 'standbylaw43.TrackerExact'. -/
def trackerExactCard : Claim7 := { stood := { row := trackerExactRow, standIns := [], harness := (true, "3dc1ef937cb98039a352d753c213c597d4506c9529a7ef9e3e171f873310ddfa"), looks := true }, kinds := [], alts := [], laidByText := true, laidKinds := [.data], laidTests := true, laidLooks := .later }
def TrackerExactCardSaid : Prop := Claim7.holds Tryz.pinned (.plain (OpenSpec.ofChange trackerExactSpec)) trackerExactCard

/-- THE SECOND FORM's CARD OF 'standbylaw43.TrackerChecks'. -/
def trackerChecksUptoCard : Claim7 := { stood := { row := trackerChecksUptoRow, standIns := [], harness := (true, "3dc1ef937cb98039a352d753c213c597d4506c9529a7ef9e3e171f873310ddfa"), looks := true }, kinds := [], alts := [], laidByText := true, laidKinds := [.data], laidTests := true, laidLooks := .later }
def TrackerChecksUptoCardSaid : Prop := Claim7.holds Tryz.pinned (.plain (OpenSpec.upto trackerChecksSpec)) trackerChecksUptoCard

/-- THE SECOND FORM's CARD OF 'standbylaw43.TrackerWrites'. -/
def trackerWritesUptoCard : Claim7 := { stood := { row := trackerWritesUptoRow, standIns := [], harness := (true, "3dc1ef937cb98039a352d753c213c597d4506c9529a7ef9e3e171f873310ddfa"), looks := true }, kinds := [], alts := [], laidByText := true, laidKinds := [.data], laidTests := true, laidLooks := .later }
def TrackerWritesUptoCardSaid : Prop := Claim7.holds Tryz.pinned (.plain (OpenSpec.upto trackerWritesSpec)) trackerWritesUptoCard

/-- THE SECOND FORM's CARD OF 'standbylaw43.TrackerAgrees'. -/
def trackerAgreesUptoCard : Claim7 := { stood := { row := trackerAgreesUptoRow, standIns := [], harness := (true, "3dc1ef937cb98039a352d753c213c597d4506c9529a7ef9e3e171f873310ddfa"), looks := true }, kinds := [], alts := [], laidByText := true, laidKinds := [.data], laidTests := true, laidLooks := .later }
def TrackerAgreesUptoCardSaid : Prop := Claim7.holds Tryz.pinned (.plain (OpenSpec.upto trackerAgreesSpec)) trackerAgreesUptoCard

/-- THE SECOND FORM's CARD OF 'standbylaw43.TrackerMerges'. -/
def trackerMergesUptoCard : Claim7 := { stood := { row := trackerMergesUptoRow, standIns := [], harness := (true, "3dc1ef937cb98039a352d753c213c597d4506c9529a7ef9e3e171f873310ddfa"), looks := true }, kinds := [], alts := [], laidByText := true, laidKinds := [.data], laidTests := true, laidLooks := .later }
def TrackerMergesUptoCardSaid : Prop := Claim7.holds Tryz.pinned (.plain (OpenSpec.upto trackerMergesSpec)) trackerMergesUptoCard

/-- THE SECOND FORM's CARD OF 'standbylaw43.TrackerEncodes'. -/
def trackerEncodesUptoCard : Claim7 := { stood := { row := trackerEncodesUptoRow, standIns := [], harness := (true, "3dc1ef937cb98039a352d753c213c597d4506c9529a7ef9e3e171f873310ddfa"), looks := true }, kinds := [], alts := [], laidByText := true, laidKinds := [.data], laidTests := true, laidLooks := .later }
def TrackerEncodesUptoCardSaid : Prop := Claim7.holds Tryz.pinned (.plain (OpenSpec.upto trackerEncodesSpec)) trackerEncodesUptoCard

/-- THE SECOND FORM's CARD OF 'standbylaw43.TrackerReturns'. -/
def trackerReturnsUptoCard : Claim7 := { stood := { row := trackerReturnsUptoRow, standIns := [], harness := (true, "3dc1ef937cb98039a352d753c213c597d4506c9529a7ef9e3e171f873310ddfa"), looks := true }, kinds := [], alts := [], laidByText := true, laidKinds := [.data], laidTests := true, laidLooks := .later }
def TrackerReturnsUptoCardSaid : Prop := Claim7.holds Tryz.pinned (.plain (OpenSpec.upto trackerReturnsSpec)) trackerReturnsUptoCard

/-- THE SECOND FORM's CARD OF 'standbylaw43.TrackerCovers'. -/
def trackerCoversUptoCard : Claim7 := { stood := { row := trackerCoversUptoRow, standIns := [], harness := (true, "3dc1ef937cb98039a352d753c213c597d4506c9529a7ef9e3e171f873310ddfa"), looks := true }, kinds := [], alts := [], laidByText := true, laidKinds := [.data], laidTests := true, laidLooks := .later }
def TrackerCoversUptoCardSaid : Prop := Claim7.holds Tryz.pinned (.plain (OpenSpec.upto trackerCoversSpec)) trackerCoversUptoCard

/-- THE SECOND FORM's CARD OF 'standbylaw43.TrackerExact'. -/
def trackerExactUptoCard : Claim7 := { stood := { row := trackerExactUptoRow, standIns := [], harness := (true, "3dc1ef937cb98039a352d753c213c597d4506c9529a7ef9e3e171f873310ddfa"), looks := true }, kinds := [], alts := [], laidByText := true, laidKinds := [.data], laidTests := true, laidLooks := .later }
def TrackerExactUptoCardSaid : Prop := Claim7.holds Tryz.pinned (.plain (OpenSpec.upto trackerExactSpec)) trackerExactUptoCard
end Rows
end Go.Proofs.YtgojhiknicmopaaGreatDoor
