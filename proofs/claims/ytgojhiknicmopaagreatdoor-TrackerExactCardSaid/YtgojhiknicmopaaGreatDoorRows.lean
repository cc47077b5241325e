/-
  NARROWER THAN 'FOR EVERY INPUT', by the rows' own cells (each row's printed sentence says how): TrackerChecks: laid · TrackerWrites: laid · TrackerAgrees: laid · TrackerMerges: laid · TrackerEncodes: laid · TrackerReturns: laid · TrackerCovers: laid · TrackerExact: laid.
  DERIVED. THE GIVEN ROWS OF THIS SEAT. 8 by the template 'for every input the law returns true; each argument reads behind the call as it read before'; 0 by the template 'total and deterministic' (their statements: YtgojhiknicmopaaGreatDoorTotals.lean).
  GIVEN WITH THE SEED: the statements are not yours to turn. If you find one false, say at which input.
  Laid BY PROGRAM, IN A SANDBOX (cutbox-rows.mjs): the forced cells as the released guide's own fill.sh prints them over the translation 5eb87c6c0c99efb3… (all of the seat's roots in one cut). By AI agents, Wed Nov 11 2026. No macro, syntax, notation, axiom, sorry.
-/
import Derived.Test.YtgojhiknicmopaaGreatDoorChecked
import GoSem.Claim
import GoSem.ClaimJoined
import GoSem.ClaimMapViews
import Derived.JoinedTies
import Derived.KernelRfl
namespace Go.Proofs.YtgojhiknicmopaaGreatDoor
/- THE CELL 'sum', in the pinned program and in every row, IS THE sha256 OF THE DUMP (.gsa) THAT YtgojhiknicmopaaGreatDoorProg.lean LOADS. Nothing in Lean hashes anything: it is a label: what it is worth is what the hold of that sum in a sandbox is worth. -/
noncomputable def Tryz.pinned : Pinned := { name := "ytgojhiknicmopaagreatdoor", sum := "5eb87c6c0c99efb3c9c6f71f74ef0086adfce055b46d85dcd05bb60a945e7798", checked := Tryz.checked }
namespace Rows
def none {H : Type} : Left H := { results := [], args := [] }

/- WHAT THE LISTED PACKAGE-LEVEL VARIABLES READ AS WHEN THE CALL BEGINS. Each datum BY PROGRAM (the guide's laid-datum.mjs) off the statement by which the dump's own 'gosem.cut.vars' lays the variable. In a bare row this is a premise. The card (YtgojhiknicmopaaGreatDoorCards.lean) ties it to the program's text. -/
def laid_math_bits_deBruijn64tab {H : Type} : DataW H := .agg [.lit (.int .u8 0), .lit (.int .u8 1), .lit (.int .u8 56), .lit (.int .u8 2), .lit (.int .u8 57), .lit (.int .u8 49), .lit (.int .u8 28), .lit (.int .u8 3), .lit (.int .u8 61), .lit (.int .u8 58), .lit (.int .u8 42), .lit (.int .u8 50), .lit (.int .u8 38), .lit (.int .u8 29), .lit (.int .u8 17), .lit (.int .u8 4), .lit (.int .u8 62), .lit (.int .u8 47), .lit (.int .u8 59), .lit (.int .u8 36), .lit (.int .u8 45), .lit (.int .u8 43), .lit (.int .u8 51), .lit (.int .u8 22), .lit (.int .u8 53), .lit (.int .u8 39), .lit (.int .u8 33), .lit (.int .u8 30), .lit (.int .u8 24), .lit (.int .u8 18), .lit (.int .u8 12), .lit (.int .u8 5), .lit (.int .u8 63), .lit (.int .u8 55), .lit (.int .u8 48), .lit (.int .u8 27), .lit (.int .u8 60), .lit (.int .u8 41), .lit (.int .u8 37), .lit (.int .u8 16), .lit (.int .u8 46), .lit (.int .u8 35), .lit (.int .u8 44), .lit (.int .u8 21), .lit (.int .u8 52), .lit (.int .u8 32), .lit (.int .u8 23), .lit (.int .u8 11), .lit (.int .u8 54), .lit (.int .u8 26), .lit (.int .u8 40), .lit (.int .u8 15), .lit (.int .u8 34), .lit (.int .u8 20), .lit (.int .u8 31), .lit (.int .u8 10), .lit (.int .u8 25), .lit (.int .u8 14), .lit (.int .u8 19), .lit (.int .u8 9), .lit (.int .u8 13), .lit (.int .u8 8), .lit (.int .u8 7), .lit (.int .u8 6)]

/-- 'standbylaw43.TrackerChecks': WHATEVER THE INPUT: true; the input reads as it did. -/
def trackerChecksSpec : ChangeSpec := { name := "trackerChecks", fn := fun _ => fun
  | [d1, d2, d3] => { results := [.lit (.bool true)], args := [d1, d2, d3] }
  | _ => none }
def trackerChecksRow : OpenClaim := { program := "ytgojhiknicmopaagreatdoor", sum := "5eb87c6c0c99efb3c9c6f71f74ef0086adfce055b46d85dcd05bb60a945e7798", func := "standby/standbylaw43.TrackerChecks", spec := "trackerChecks", unfollowed := true, recurses := true, named := ["math/bits.deBruijn64tab"], plainKeys := false, apart := false, laid := [("math/bits.deBruijn64tab", laid_math_bits_deBruijn64tab)] }
def TrackerChecksSaid : Prop := trackerChecksRow.holds Tryz.pinned (OpenSpec.ofChange trackerChecksSpec)

/-- ITS FALSE NEIGHBOUR: 'it returns false'. Refute it at one input. -/
def trackerChecksWrong : ChangeSpec := { name := "trackerChecks", fn := fun _ => fun
  | [d1, d2, d3] => { results := [.lit (.bool false)], args := [d1, d2, d3] }
  | _ => none }
def TrackerChecksWrongFalsely : Prop := trackerChecksRow.holds Tryz.pinned (OpenSpec.ofChange trackerChecksWrong)

/-- 'standbylaw43.TrackerWrites': WHATEVER THE INPUT: true; the input reads as it did. -/
def trackerWritesSpec : ChangeSpec := { name := "trackerWrites", fn := fun _ => fun
  | [d1, d2] => { results := [.lit (.bool true)], args := [d1, d2] }
  | _ => none }
def trackerWritesRow : OpenClaim := { program := "ytgojhiknicmopaagreatdoor", sum := "5eb87c6c0c99efb3c9c6f71f74ef0086adfce055b46d85dcd05bb60a945e7798", func := "standby/standbylaw43.TrackerWrites", spec := "trackerWrites", unfollowed := true, recurses := true, named := ["math/bits.deBruijn64tab"], plainKeys := false, apart := false, laid := [("math/bits.deBruijn64tab", laid_math_bits_deBruijn64tab)] }
def TrackerWritesSaid : Prop := trackerWritesRow.holds Tryz.pinned (OpenSpec.ofChange trackerWritesSpec)

/-- ITS FALSE NEIGHBOUR: 'it returns false'. Refute it at one input. -/
def trackerWritesWrong : ChangeSpec := { name := "trackerWrites", fn := fun _ => fun
  | [d1, d2] => { results := [.lit (.bool false)], args := [d1, d2] }
  | _ => none }
def TrackerWritesWrongFalsely : Prop := trackerWritesRow.holds Tryz.pinned (OpenSpec.ofChange trackerWritesWrong)

/-- 'standbylaw43.TrackerAgrees': WHATEVER THE INPUT: true; the input reads as it did. -/
def trackerAgreesSpec : ChangeSpec := { name := "trackerAgrees", fn := fun _ => fun
  | [d1, d2] => { results := [.lit (.bool true)], args := [d1, d2] }
  | _ => none }
def trackerAgreesRow : OpenClaim := { program := "ytgojhiknicmopaagreatdoor", sum := "5eb87c6c0c99efb3c9c6f71f74ef0086adfce055b46d85dcd05bb60a945e7798", func := "standby/standbylaw43.TrackerAgrees", spec := "trackerAgrees", unfollowed := true, recurses := true, named := ["math/bits.deBruijn64tab"], plainKeys := false, apart := false, laid := [("math/bits.deBruijn64tab", laid_math_bits_deBruijn64tab)] }
def TrackerAgreesSaid : Prop := trackerAgreesRow.holds Tryz.pinned (OpenSpec.ofChange trackerAgreesSpec)

/-- ITS FALSE NEIGHBOUR: 'it returns false'. Refute it at one input. -/
def trackerAgreesWrong : ChangeSpec := { name := "trackerAgrees", fn := fun _ => fun
  | [d1, d2] => { results := [.lit (.bool false)], args := [d1, d2] }
  | _ => none }
def TrackerAgreesWrongFalsely : Prop := trackerAgreesRow.holds Tryz.pinned (OpenSpec.ofChange trackerAgreesWrong)

/-- 'standbylaw43.TrackerMerges': WHATEVER THE INPUT: true; the input reads as it did. -/
def trackerMergesSpec : ChangeSpec := { name := "trackerMerges", fn := fun _ => fun
  | [d1, d2] => { results := [.lit (.bool true)], args := [d1, d2] }
  | _ => none }
def trackerMergesRow : OpenClaim := { program := "ytgojhiknicmopaagreatdoor", sum := "5eb87c6c0c99efb3c9c6f71f74ef0086adfce055b46d85dcd05bb60a945e7798", func := "standby/standbylaw43.TrackerMerges", spec := "trackerMerges", unfollowed := true, recurses := true, named := ["math/bits.deBruijn64tab"], plainKeys := false, apart := false, laid := [("math/bits.deBruijn64tab", laid_math_bits_deBruijn64tab)] }
def TrackerMergesSaid : Prop := trackerMergesRow.holds Tryz.pinned (OpenSpec.ofChange trackerMergesSpec)

/-- ITS FALSE NEIGHBOUR: 'it returns false'. Refute it at one input. -/
def trackerMergesWrong : ChangeSpec := { name := "trackerMerges", fn := fun _ => fun
  | [d1, d2] => { results := [.lit (.bool false)], args := [d1, d2] }
  | _ => none }
def TrackerMergesWrongFalsely : Prop := trackerMergesRow.holds Tryz.pinned (OpenSpec.ofChange trackerMergesWrong)

/-- 'standbylaw43.TrackerEncodes': WHATEVER THE INPUT: true; the input reads as it did. -/
def trackerEncodesSpec : ChangeSpec := { name := "trackerEncodes", fn := fun _ => fun
  | [d1, d2] => { results := [.lit (.bool true)], args := [d1, d2] }
  | _ => none }
def trackerEncodesRow : OpenClaim := { program := "ytgojhiknicmopaagreatdoor", sum := "5eb87c6c0c99efb3c9c6f71f74ef0086adfce055b46d85dcd05bb60a945e7798", func := "standby/standbylaw43.TrackerEncodes", spec := "trackerEncodes", unfollowed := true, recurses := true, named := ["math/bits.deBruijn64tab"], plainKeys := false, apart := false, laid := [("math/bits.deBruijn64tab", laid_math_bits_deBruijn64tab)] }
def TrackerEncodesSaid : Prop := trackerEncodesRow.holds Tryz.pinned (OpenSpec.ofChange trackerEncodesSpec)

/-- ITS FALSE NEIGHBOUR: 'it returns false'. Refute it at one input. -/
def trackerEncodesWrong : ChangeSpec := { name := "trackerEncodes", fn := fun _ => fun
  | [d1, d2] => { results := [.lit (.bool false)], args := [d1, d2] }
  | _ => none }
def TrackerEncodesWrongFalsely : Prop := trackerEncodesRow.holds Tryz.pinned (OpenSpec.ofChange trackerEncodesWrong)

/-- 'standbylaw43.TrackerReturns': WHATEVER THE INPUT: true; the input reads as it did. -/
def trackerReturnsSpec : ChangeSpec := { name := "trackerReturns", fn := fun _ => fun
  | [d1, d2] => { results := [.lit (.bool true)], args := [d1, d2] }
  | _ => none }
def trackerReturnsRow : OpenClaim := { program := "ytgojhiknicmopaagreatdoor", sum := "5eb87c6c0c99efb3c9c6f71f74ef0086adfce055b46d85dcd05bb60a945e7798", func := "standby/standbylaw43.TrackerReturns", spec := "trackerReturns", unfollowed := true, recurses := true, named := ["math/bits.deBruijn64tab"], plainKeys := false, apart := false, laid := [("math/bits.deBruijn64tab", laid_math_bits_deBruijn64tab)] }
def TrackerReturnsSaid : Prop := trackerReturnsRow.holds Tryz.pinned (OpenSpec.ofChange trackerReturnsSpec)

/-- ITS FALSE NEIGHBOUR: 'it returns false'. Refute it at one input. -/
def trackerReturnsWrong : ChangeSpec := { name := "trackerReturns", fn := fun _ => fun
  | [d1, d2] => { results := [.lit (.bool false)], args := [d1, d2] }
  | _ => none }
def TrackerReturnsWrongFalsely : Prop := trackerReturnsRow.holds Tryz.pinned (OpenSpec.ofChange trackerReturnsWrong)

/-- 'standbylaw43.TrackerCovers': WHATEVER THE INPUT: true; the input reads as it did. -/
def trackerCoversSpec : ChangeSpec := { name := "trackerCovers", fn := fun _ => fun
  | [d] => { results := [.lit (.bool true)], args := [d] }
  | _ => none }
def trackerCoversRow : OpenClaim := { program := "ytgojhiknicmopaagreatdoor", sum := "5eb87c6c0c99efb3c9c6f71f74ef0086adfce055b46d85dcd05bb60a945e7798", func := "standby/standbylaw43.TrackerCovers", spec := "trackerCovers", unfollowed := true, recurses := true, named := ["math/bits.deBruijn64tab"], plainKeys := false, apart := false, laid := [("math/bits.deBruijn64tab", laid_math_bits_deBruijn64tab)] }
def TrackerCoversSaid : Prop := trackerCoversRow.holds Tryz.pinned (OpenSpec.ofChange trackerCoversSpec)

/-- ITS FALSE NEIGHBOUR: 'it returns false'. Refute it at one input. -/
def trackerCoversWrong : ChangeSpec := { name := "trackerCovers", fn := fun _ => fun
  | [d] => { results := [.lit (.bool false)], args := [d] }
  | _ => none }
def TrackerCoversWrongFalsely : Prop := trackerCoversRow.holds Tryz.pinned (OpenSpec.ofChange trackerCoversWrong)

/-- 'standbylaw43.TrackerExact': WHATEVER THE INPUT: true; the input reads as it did. -/
def trackerExactSpec : ChangeSpec := { name := "trackerExact", fn := fun _ => fun
  | [d] => { results := [.lit (.bool true)], args := [d] }
  | _ => none }
def trackerExactRow : OpenClaim := { program := "ytgojhiknicmopaagreatdoor", sum := "5eb87c6c0c99efb3c9c6f71f74ef0086adfce055b46d85dcd05bb60a945e7798", func := "standby/standbylaw43.TrackerExact", spec := "trackerExact", unfollowed := true, recurses := true, named := ["math/bits.deBruijn64tab"], plainKeys := false, apart := false, laid := [("math/bits.deBruijn64tab", laid_math_bits_deBruijn64tab)] }
def TrackerExactSaid : Prop := trackerExactRow.holds Tryz.pinned (OpenSpec.ofChange trackerExactSpec)

/-- ITS FALSE NEIGHBOUR: 'it returns false'. Refute it at one input. -/
def trackerExactWrong : ChangeSpec := { name := "trackerExact", fn := fun _ => fun
  | [d] => { results := [.lit (.bool false)], args := [d] }
  | _ => none }
def TrackerExactWrongFalsely : Prop := trackerExactRow.holds Tryz.pinned (OpenSpec.ofChange trackerExactWrong)

/- THE SECOND FORM. 'bulk': how many values and letters a reading holds, each counted each time it is reached (what is shared counts as often as it is met; a slice's spare places count too). A statement '..UptoSaid' is the law's where the arguments, and the package variables that the reading takes, are together of bulk at most 1048576: NARROWER than '..Said'. Prove '..Said' where nothing that the law and all that it calls make is longer than what came in: it says more and counts as full. Else prove '..UptoSaid'. A law counts once. -/
mutual
def uptoBulk {H : Type} : DataW H → Nat
  | .lit (.string bytes) => bytes.length + 1
  | .lit _ => 1
  | .nil => 1
  | .ptr d => uptoBulk d + 1
  | .slice elems spare => uptoBulkAll elems + uptoBulkAll spare + 1
  | .agg parts => uptoBulkAll parts + 1
  | .iface _ d => uptoBulk d + 1
  | .map entries => uptoBulkEntries entries + 1
  | .held _ => 1
def uptoBulkAll {H : Type} : List (DataW H) → Nat
  | [] => 0
  | d :: r => uptoBulk d + uptoBulkAll r
def uptoBulkEntries {H : Type} : List (Lit × DataW H) → Nat
  | [] => 0
  | x :: r => uptoBulkEntry x + uptoBulkEntries r
def uptoBulkEntry {H : Type} : Lit × DataW H → Nat
  | (.string bytes, d) => bytes.length + uptoBulk d + 1
  | (_, d) => uptoBulk d + 1
 end
def uptoSmall : (H : Type) → List (DataW H) → Bool := fun _ ds => decide (uptoBulkAll ds ≤ 1048576)
def OpenSpec.upto (s : _root_.Go.ChangeSpec) : _root_.Go.OpenSpec := { _root_.Go.OpenSpec.ofChange s with cond := some uptoSmall }

/-- 'standbylaw43.TrackerChecks', WHERE WHAT IT READS IS OF BULK AT MOST 1048576: true; the input reads as it did. -/
def trackerChecksUptoRow : OpenClaim := { program := "ytgojhiknicmopaagreatdoor", sum := "5eb87c6c0c99efb3c9c6f71f74ef0086adfce055b46d85dcd05bb60a945e7798", func := "standby/standbylaw43.TrackerChecks", spec := "trackerChecks", unfollowed := true, recurses := true, named := ["math/bits.deBruijn64tab"], plainKeys := false, apart := false, laid := [("math/bits.deBruijn64tab", laid_math_bits_deBruijn64tab)], narrowed := true }
def TrackerChecksUptoSaid : Prop := trackerChecksUptoRow.holds Tryz.pinned (OpenSpec.upto trackerChecksSpec)

/-- 'standbylaw43.TrackerWrites', WHERE WHAT IT READS IS OF BULK AT MOST 1048576: true; the input reads as it did. -/
def trackerWritesUptoRow : OpenClaim := { program := "ytgojhiknicmopaagreatdoor", sum := "5eb87c6c0c99efb3c9c6f71f74ef0086adfce055b46d85dcd05bb60a945e7798", func := "standby/standbylaw43.TrackerWrites", spec := "trackerWrites", unfollowed := true, recurses := true, named := ["math/bits.deBruijn64tab"], plainKeys := false, apart := false, laid := [("math/bits.deBruijn64tab", laid_math_bits_deBruijn64tab)], narrowed := true }
def TrackerWritesUptoSaid : Prop := trackerWritesUptoRow.holds Tryz.pinned (OpenSpec.upto trackerWritesSpec)

/-- 'standbylaw43.TrackerAgrees', WHERE WHAT IT READS IS OF BULK AT MOST 1048576: true; the input reads as it did. -/
def trackerAgreesUptoRow : OpenClaim := { program := "ytgojhiknicmopaagreatdoor", sum := "5eb87c6c0c99efb3c9c6f71f74ef0086adfce055b46d85dcd05bb60a945e7798", func := "standby/standbylaw43.TrackerAgrees", spec := "trackerAgrees", unfollowed := true, recurses := true, named := ["math/bits.deBruijn64tab"], plainKeys := false, apart := false, laid := [("math/bits.deBruijn64tab", laid_math_bits_deBruijn64tab)], narrowed := true }
def TrackerAgreesUptoSaid : Prop := trackerAgreesUptoRow.holds Tryz.pinned (OpenSpec.upto trackerAgreesSpec)

/-- 'standbylaw43.TrackerMerges', WHERE WHAT IT READS IS OF BULK AT MOST 1048576: true; the input reads as it did. -/
def trackerMergesUptoRow : OpenClaim := { program := "ytgojhiknicmopaagreatdoor", sum := "5eb87c6c0c99efb3c9c6f71f74ef0086adfce055b46d85dcd05bb60a945e7798", func := "standby/standbylaw43.TrackerMerges", spec := "trackerMerges", unfollowed := true, recurses := true, named := ["math/bits.deBruijn64tab"], plainKeys := false, apart := false, laid := [("math/bits.deBruijn64tab", laid_math_bits_deBruijn64tab)], narrowed := true }
def TrackerMergesUptoSaid : Prop := trackerMergesUptoRow.holds Tryz.pinned (OpenSpec.upto trackerMergesSpec)

/-- 'standbylaw43.TrackerEncodes', WHERE WHAT IT READS IS OF BULK AT MOST 1048576: true; the input reads as it did. -/
def trackerEncodesUptoRow : OpenClaim := { program := "ytgojhiknicmopaagreatdoor", sum := "5eb87c6c0c99efb3c9c6f71f74ef0086adfce055b46d85dcd05bb60a945e7798", func := "standby/standbylaw43.TrackerEncodes", spec := "trackerEncodes", unfollowed := true, recurses := true, named := ["math/bits.deBruijn64tab"], plainKeys := false, apart := false, laid := [("math/bits.deBruijn64tab", laid_math_bits_deBruijn64tab)], narrowed := true }
def TrackerEncodesUptoSaid : Prop := trackerEncodesUptoRow.holds Tryz.pinned (OpenSpec.upto trackerEncodesSpec)

/-- 'standbylaw43.TrackerReturns', WHERE WHAT IT READS IS OF BULK AT MOST 1048576: true; the input reads as it did. -/
def trackerReturnsUptoRow : OpenClaim := { program := "ytgojhiknicmopaagreatdoor", sum := "5eb87c6c0c99efb3c9c6f71f74ef0086adfce055b46d85dcd05bb60a945e7798", func := "standby/standbylaw43.TrackerReturns", spec := "trackerReturns", unfollowed := true, recurses := true, named := ["math/bits.deBruijn64tab"], plainKeys := false, apart := false, laid := [("math/bits.deBruijn64tab", laid_math_bits_deBruijn64tab)], narrowed := true }
def TrackerReturnsUptoSaid : Prop := trackerReturnsUptoRow.holds Tryz.pinned (OpenSpec.upto trackerReturnsSpec)

/-- 'standbylaw43.TrackerCovers', WHERE WHAT IT READS IS OF BULK AT MOST 1048576: true; the input reads as it did. -/
def trackerCoversUptoRow : OpenClaim := { program := "ytgojhiknicmopaagreatdoor", sum := "5eb87c6c0c99efb3c9c6f71f74ef0086adfce055b46d85dcd05bb60a945e7798", func := "standby/standbylaw43.TrackerCovers", spec := "trackerCovers", unfollowed := true, recurses := true, named := ["math/bits.deBruijn64tab"], plainKeys := false, apart := false, laid := [("math/bits.deBruijn64tab", laid_math_bits_deBruijn64tab)], narrowed := true }
def TrackerCoversUptoSaid : Prop := trackerCoversUptoRow.holds Tryz.pinned (OpenSpec.upto trackerCoversSpec)

/-- 'standbylaw43.TrackerExact', WHERE WHAT IT READS IS OF BULK AT MOST 1048576: true; the input reads as it did. -/
def trackerExactUptoRow : OpenClaim := { program := "ytgojhiknicmopaagreatdoor", sum := "5eb87c6c0c99efb3c9c6f71f74ef0086adfce055b46d85dcd05bb60a945e7798", func := "standby/standbylaw43.TrackerExact", spec := "trackerExact", unfollowed := true, recurses := true, named := ["math/bits.deBruijn64tab"], plainKeys := false, apart := false, laid := [("math/bits.deBruijn64tab", laid_math_bits_deBruijn64tab)], narrowed := true }
def TrackerExactUptoSaid : Prop := trackerExactUptoRow.holds Tryz.pinned (OpenSpec.upto trackerExactSpec)

end Rows
end Go.Proofs.YtgojhiknicmopaaGreatDoor
