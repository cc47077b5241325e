/-
  NARROWER THAN 'FOR EVERY INPUT', by the rows' own cells (each row's printed sentence says how): CutLists: laid · CutExtremes: laid · CutCombines: laid · CutPrefixes: laid · CutAlgebra: laid · CutGenerates: laid · CutBounds: laid · CutCounts: laid · ConsistencyDecides: laid.
  DERIVED. THE GIVEN ROWS OF THIS SEAT. 9 by the template 'for every input the law returns true; each argument reads behind the call as it read before'; 0 by the template 'total and deterministic' (their statements: YtpmjodnmnffmhaaGreatDoorTotals.lean).
  GIVEN WITH THE SEED: the statements are not yours to turn. If you find one false, say at which input.
  Laid BY PROGRAM, IN A SANDBOX (cutbox-rows.mjs): the forced cells as the released guide's own fill.sh prints them over the translation aab6a400b37bb4c3… (all of the seat's roots in one cut). By AI agents, Wed Nov 11 2026. No macro, syntax, notation, axiom, sorry.
-/
import Derived.Test.YtpmjodnmnffmhaaGreatDoorChecked
import GoSem.Claim
import GoSem.ClaimJoined
import GoSem.ClaimMapViews
import Derived.JoinedTies
import Derived.KernelRfl
namespace Go.Proofs.YtpmjodnmnffmhaaGreatDoor
/- THE CELL 'sum', in the pinned program and in every row, IS THE sha256 OF THE DUMP (.gsa) THAT YtpmjodnmnffmhaaGreatDoorProg.lean LOADS. Nothing in Lean hashes anything: it is a label: what it is worth is what the hold of that sum in a sandbox is worth. -/
noncomputable def Tryz.pinned : Pinned := { name := "ytpmjodnmnffmhaagreatdoor", sum := "aab6a400b37bb4c3cd54b9133e53f608d9c13741e8017e46b5c477912431923f", checked := Tryz.checked }
namespace Rows
def none {H : Type} : Left H := { results := [], args := [] }

/- WHAT THE LISTED PACKAGE-LEVEL VARIABLES READ AS WHEN THE CALL BEGINS. Each datum BY PROGRAM (the guide's laid-datum.mjs) off the statement by which the dump's own 'gosem.cut.vars' lays the variable. In a bare row this is a premise. The card (YtpmjodnmnffmhaaGreatDoorCards.lean) ties it to the program's text. -/
def laid_math_bits_deBruijn32tab {H : Type} : DataW H := .agg [.lit (.int .u8 0), .lit (.int .u8 1), .lit (.int .u8 28), .lit (.int .u8 2), .lit (.int .u8 29), .lit (.int .u8 14), .lit (.int .u8 24), .lit (.int .u8 3), .lit (.int .u8 30), .lit (.int .u8 22), .lit (.int .u8 20), .lit (.int .u8 15), .lit (.int .u8 25), .lit (.int .u8 17), .lit (.int .u8 4), .lit (.int .u8 8), .lit (.int .u8 31), .lit (.int .u8 27), .lit (.int .u8 13), .lit (.int .u8 23), .lit (.int .u8 21), .lit (.int .u8 19), .lit (.int .u8 16), .lit (.int .u8 7), .lit (.int .u8 26), .lit (.int .u8 12), .lit (.int .u8 18), .lit (.int .u8 6), .lit (.int .u8 11), .lit (.int .u8 5), .lit (.int .u8 10), .lit (.int .u8 9)]
def laid_math_bits_deBruijn64tab {H : Type} : DataW H := .agg [.lit (.int .u8 0), .lit (.int .u8 1), .lit (.int .u8 56), .lit (.int .u8 2), .lit (.int .u8 57), .lit (.int .u8 49), .lit (.int .u8 28), .lit (.int .u8 3), .lit (.int .u8 61), .lit (.int .u8 58), .lit (.int .u8 42), .lit (.int .u8 50), .lit (.int .u8 38), .lit (.int .u8 29), .lit (.int .u8 17), .lit (.int .u8 4), .lit (.int .u8 62), .lit (.int .u8 47), .lit (.int .u8 59), .lit (.int .u8 36), .lit (.int .u8 45), .lit (.int .u8 43), .lit (.int .u8 51), .lit (.int .u8 22), .lit (.int .u8 53), .lit (.int .u8 39), .lit (.int .u8 33), .lit (.int .u8 30), .lit (.int .u8 24), .lit (.int .u8 18), .lit (.int .u8 12), .lit (.int .u8 5), .lit (.int .u8 63), .lit (.int .u8 55), .lit (.int .u8 48), .lit (.int .u8 27), .lit (.int .u8 60), .lit (.int .u8 41), .lit (.int .u8 37), .lit (.int .u8 16), .lit (.int .u8 46), .lit (.int .u8 35), .lit (.int .u8 44), .lit (.int .u8 21), .lit (.int .u8 52), .lit (.int .u8 32), .lit (.int .u8 23), .lit (.int .u8 11), .lit (.int .u8 54), .lit (.int .u8 26), .lit (.int .u8 40), .lit (.int .u8 15), .lit (.int .u8 34), .lit (.int .u8 20), .lit (.int .u8 31), .lit (.int .u8 10), .lit (.int .u8 25), .lit (.int .u8 14), .lit (.int .u8 19), .lit (.int .u8 9), .lit (.int .u8 13), .lit (.int .u8 8), .lit (.int .u8 7), .lit (.int .u8 6)]
def laid_internal_strconv_uint64pow10 {H : Type} : DataW H := .agg [.lit (.int .u64 1), .lit (.int .u64 10), .lit (.int .u64 100), .lit (.int .u64 1000), .lit (.int .u64 10000), .lit (.int .u64 100000), .lit (.int .u64 1000000), .lit (.int .u64 10000000), .lit (.int .u64 100000000), .lit (.int .u64 1000000000), .lit (.int .u64 10000000000), .lit (.int .u64 100000000000), .lit (.int .u64 1000000000000), .lit (.int .u64 10000000000000), .lit (.int .u64 100000000000000), .lit (.int .u64 1000000000000000), .lit (.int .u64 10000000000000000), .lit (.int .u64 100000000000000000), .lit (.int .u64 1000000000000000000), .lit (.int .u64 10000000000000000000)]

/-- 'standbylaw16.CutLists': WHATEVER THE INPUT: true; the input reads as it did. -/
def cutListsSpec : ChangeSpec := { name := "cutLists", fn := fun _ => fun
  | [d1, d2] => { results := [.lit (.bool true)], args := [d1, d2] }
  | _ => none }
def cutListsRow : OpenClaim := { program := "ytpmjodnmnffmhaagreatdoor", sum := "aab6a400b37bb4c3cd54b9133e53f608d9c13741e8017e46b5c477912431923f", func := "standby/standbylaw16.CutLists", spec := "cutLists", inPlace := ["internal/abi.NoEscape"], unfollowed := true, recurses := true, named := ["internal/strconv.uint64pow10", "math/bits.deBruijn32tab", "math/bits.deBruijn64tab"], plainKeys := false, apart := false, laid := [("math/bits.deBruijn32tab", laid_math_bits_deBruijn32tab), ("math/bits.deBruijn64tab", laid_math_bits_deBruijn64tab), ("internal/strconv.uint64pow10", laid_internal_strconv_uint64pow10)] }
def CutListsSaid : Prop := cutListsRow.holds Tryz.pinned (OpenSpec.ofChange cutListsSpec)

/-- ITS FALSE NEIGHBOUR: 'it returns false'. Refute it at one input. -/
def cutListsWrong : ChangeSpec := { name := "cutLists", fn := fun _ => fun
  | [d1, d2] => { results := [.lit (.bool false)], args := [d1, d2] }
  | _ => none }
def CutListsWrongFalsely : Prop := cutListsRow.holds Tryz.pinned (OpenSpec.ofChange cutListsWrong)

/-- 'standbylaw16.CutExtremes': WHATEVER THE INPUT: true; the input reads as it did. -/
def cutExtremesSpec : ChangeSpec := { name := "cutExtremes", fn := fun _ => fun
  | [d1, d2] => { results := [.lit (.bool true)], args := [d1, d2] }
  | _ => none }
def cutExtremesRow : OpenClaim := { program := "ytpmjodnmnffmhaagreatdoor", sum := "aab6a400b37bb4c3cd54b9133e53f608d9c13741e8017e46b5c477912431923f", func := "standby/standbylaw16.CutExtremes", spec := "cutExtremes", inPlace := ["internal/abi.NoEscape"], unfollowed := true, recurses := true, named := ["internal/strconv.uint64pow10", "math/bits.deBruijn32tab", "math/bits.deBruijn64tab"], plainKeys := false, apart := false, laid := [("math/bits.deBruijn32tab", laid_math_bits_deBruijn32tab), ("math/bits.deBruijn64tab", laid_math_bits_deBruijn64tab), ("internal/strconv.uint64pow10", laid_internal_strconv_uint64pow10)] }
def CutExtremesSaid : Prop := cutExtremesRow.holds Tryz.pinned (OpenSpec.ofChange cutExtremesSpec)

/-- ITS FALSE NEIGHBOUR: 'it returns false'. Refute it at one input. -/
def cutExtremesWrong : ChangeSpec := { name := "cutExtremes", fn := fun _ => fun
  | [d1, d2] => { results := [.lit (.bool false)], args := [d1, d2] }
  | _ => none }
def CutExtremesWrongFalsely : Prop := cutExtremesRow.holds Tryz.pinned (OpenSpec.ofChange cutExtremesWrong)

/-- 'standbylaw16.CutCombines': WHATEVER THE INPUT: true; the input reads as it did. -/
def cutCombinesSpec : ChangeSpec := { name := "cutCombines", fn := fun _ => fun
  | [d1, d2] => { results := [.lit (.bool true)], args := [d1, d2] }
  | _ => none }
def cutCombinesRow : OpenClaim := { program := "ytpmjodnmnffmhaagreatdoor", sum := "aab6a400b37bb4c3cd54b9133e53f608d9c13741e8017e46b5c477912431923f", func := "standby/standbylaw16.CutCombines", spec := "cutCombines", inPlace := ["internal/abi.NoEscape"], unfollowed := true, recurses := true, named := ["internal/strconv.uint64pow10", "math/bits.deBruijn32tab", "math/bits.deBruijn64tab"], plainKeys := false, apart := false, laid := [("math/bits.deBruijn32tab", laid_math_bits_deBruijn32tab), ("math/bits.deBruijn64tab", laid_math_bits_deBruijn64tab), ("internal/strconv.uint64pow10", laid_internal_strconv_uint64pow10)] }
def CutCombinesSaid : Prop := cutCombinesRow.holds Tryz.pinned (OpenSpec.ofChange cutCombinesSpec)

/-- ITS FALSE NEIGHBOUR: 'it returns false'. Refute it at one input. -/
def cutCombinesWrong : ChangeSpec := { name := "cutCombines", fn := fun _ => fun
  | [d1, d2] => { results := [.lit (.bool false)], args := [d1, d2] }
  | _ => none }
def CutCombinesWrongFalsely : Prop := cutCombinesRow.holds Tryz.pinned (OpenSpec.ofChange cutCombinesWrong)

/-- 'standbylaw16.CutPrefixes': WHATEVER THE INPUT: true; the input reads as it did. -/
def cutPrefixesSpec : ChangeSpec := { name := "cutPrefixes", fn := fun _ => fun
  | [d1, d2, d3] => { results := [.lit (.bool true)], args := [d1, d2, d3] }
  | _ => none }
def cutPrefixesRow : OpenClaim := { program := "ytpmjodnmnffmhaagreatdoor", sum := "aab6a400b37bb4c3cd54b9133e53f608d9c13741e8017e46b5c477912431923f", func := "standby/standbylaw16.CutPrefixes", spec := "cutPrefixes", inPlace := ["internal/abi.NoEscape"], unfollowed := true, recurses := true, named := ["internal/strconv.uint64pow10", "math/bits.deBruijn32tab", "math/bits.deBruijn64tab"], plainKeys := false, apart := false, laid := [("math/bits.deBruijn32tab", laid_math_bits_deBruijn32tab), ("math/bits.deBruijn64tab", laid_math_bits_deBruijn64tab), ("internal/strconv.uint64pow10", laid_internal_strconv_uint64pow10)] }
def CutPrefixesSaid : Prop := cutPrefixesRow.holds Tryz.pinned (OpenSpec.ofChange cutPrefixesSpec)

/-- ITS FALSE NEIGHBOUR: 'it returns false'. Refute it at one input. -/
def cutPrefixesWrong : ChangeSpec := { name := "cutPrefixes", fn := fun _ => fun
  | [d1, d2, d3] => { results := [.lit (.bool false)], args := [d1, d2, d3] }
  | _ => none }
def CutPrefixesWrongFalsely : Prop := cutPrefixesRow.holds Tryz.pinned (OpenSpec.ofChange cutPrefixesWrong)

/-- 'standbylaw16.CutAlgebra': WHATEVER THE INPUT: true; the input reads as it did. -/
def cutAlgebraSpec : ChangeSpec := { name := "cutAlgebra", fn := fun _ => fun
  | [d1, d2, d3] => { results := [.lit (.bool true)], args := [d1, d2, d3] }
  | _ => none }
def cutAlgebraRow : OpenClaim := { program := "ytpmjodnmnffmhaagreatdoor", sum := "aab6a400b37bb4c3cd54b9133e53f608d9c13741e8017e46b5c477912431923f", func := "standby/standbylaw16.CutAlgebra", spec := "cutAlgebra", inPlace := ["internal/abi.NoEscape"], unfollowed := true, recurses := true, named := ["internal/strconv.uint64pow10", "math/bits.deBruijn32tab", "math/bits.deBruijn64tab"], plainKeys := false, apart := false, laid := [("math/bits.deBruijn32tab", laid_math_bits_deBruijn32tab), ("math/bits.deBruijn64tab", laid_math_bits_deBruijn64tab), ("internal/strconv.uint64pow10", laid_internal_strconv_uint64pow10)] }
def CutAlgebraSaid : Prop := cutAlgebraRow.holds Tryz.pinned (OpenSpec.ofChange cutAlgebraSpec)

/-- ITS FALSE NEIGHBOUR: 'it returns false'. Refute it at one input. -/
def cutAlgebraWrong : ChangeSpec := { name := "cutAlgebra", fn := fun _ => fun
  | [d1, d2, d3] => { results := [.lit (.bool false)], args := [d1, d2, d3] }
  | _ => none }
def CutAlgebraWrongFalsely : Prop := cutAlgebraRow.holds Tryz.pinned (OpenSpec.ofChange cutAlgebraWrong)

/-- 'standbylaw16.CutGenerates': WHATEVER THE INPUT: true; the input reads as it did. -/
def cutGeneratesSpec : ChangeSpec := { name := "cutGenerates", fn := fun _ => fun
  | [d1, d2] => { results := [.lit (.bool true)], args := [d1, d2] }
  | _ => none }
def cutGeneratesRow : OpenClaim := { program := "ytpmjodnmnffmhaagreatdoor", sum := "aab6a400b37bb4c3cd54b9133e53f608d9c13741e8017e46b5c477912431923f", func := "standby/standbylaw16.CutGenerates", spec := "cutGenerates", inPlace := ["internal/abi.NoEscape"], unfollowed := true, recurses := true, named := ["internal/strconv.uint64pow10", "math/bits.deBruijn32tab", "math/bits.deBruijn64tab"], plainKeys := false, apart := false, laid := [("math/bits.deBruijn32tab", laid_math_bits_deBruijn32tab), ("math/bits.deBruijn64tab", laid_math_bits_deBruijn64tab), ("internal/strconv.uint64pow10", laid_internal_strconv_uint64pow10)] }
def CutGeneratesSaid : Prop := cutGeneratesRow.holds Tryz.pinned (OpenSpec.ofChange cutGeneratesSpec)

/-- ITS FALSE NEIGHBOUR: 'it returns false'. Refute it at one input. -/
def cutGeneratesWrong : ChangeSpec := { name := "cutGenerates", fn := fun _ => fun
  | [d1, d2] => { results := [.lit (.bool false)], args := [d1, d2] }
  | _ => none }
def CutGeneratesWrongFalsely : Prop := cutGeneratesRow.holds Tryz.pinned (OpenSpec.ofChange cutGeneratesWrong)

/-- 'standbylaw16.CutBounds': WHATEVER THE INPUT: true; the input reads as it did. -/
def cutBoundsSpec : ChangeSpec := { name := "cutBounds", fn := fun _ => fun
  | [d1, d2] => { results := [.lit (.bool true)], args := [d1, d2] }
  | _ => none }
def cutBoundsRow : OpenClaim := { program := "ytpmjodnmnffmhaagreatdoor", sum := "aab6a400b37bb4c3cd54b9133e53f608d9c13741e8017e46b5c477912431923f", func := "standby/standbylaw16.CutBounds", spec := "cutBounds", inPlace := ["internal/abi.NoEscape"], unfollowed := true, recurses := true, named := ["internal/strconv.uint64pow10", "math/bits.deBruijn32tab", "math/bits.deBruijn64tab"], plainKeys := false, apart := false, laid := [("math/bits.deBruijn32tab", laid_math_bits_deBruijn32tab), ("math/bits.deBruijn64tab", laid_math_bits_deBruijn64tab), ("internal/strconv.uint64pow10", laid_internal_strconv_uint64pow10)] }
def CutBoundsSaid : Prop := cutBoundsRow.holds Tryz.pinned (OpenSpec.ofChange cutBoundsSpec)

/-- ITS FALSE NEIGHBOUR: 'it returns false'. Refute it at one input. -/
def cutBoundsWrong : ChangeSpec := { name := "cutBounds", fn := fun _ => fun
  | [d1, d2] => { results := [.lit (.bool false)], args := [d1, d2] }
  | _ => none }
def CutBoundsWrongFalsely : Prop := cutBoundsRow.holds Tryz.pinned (OpenSpec.ofChange cutBoundsWrong)

/-- 'standbylaw16.CutCounts': WHATEVER THE INPUT: true; the input reads as it did. -/
def cutCountsSpec : ChangeSpec := { name := "cutCounts", fn := fun _ => fun
  | [d1, d2] => { results := [.lit (.bool true)], args := [d1, d2] }
  | _ => none }
def cutCountsRow : OpenClaim := { program := "ytpmjodnmnffmhaagreatdoor", sum := "aab6a400b37bb4c3cd54b9133e53f608d9c13741e8017e46b5c477912431923f", func := "standby/standbylaw16.CutCounts", spec := "cutCounts", inPlace := ["internal/abi.NoEscape"], unfollowed := true, recurses := true, named := ["internal/strconv.uint64pow10", "math/bits.deBruijn32tab", "math/bits.deBruijn64tab"], plainKeys := false, apart := false, laid := [("math/bits.deBruijn32tab", laid_math_bits_deBruijn32tab), ("math/bits.deBruijn64tab", laid_math_bits_deBruijn64tab), ("internal/strconv.uint64pow10", laid_internal_strconv_uint64pow10)] }
def CutCountsSaid : Prop := cutCountsRow.holds Tryz.pinned (OpenSpec.ofChange cutCountsSpec)

/-- ITS FALSE NEIGHBOUR: 'it returns false'. Refute it at one input. -/
def cutCountsWrong : ChangeSpec := { name := "cutCounts", fn := fun _ => fun
  | [d1, d2] => { results := [.lit (.bool false)], args := [d1, d2] }
  | _ => none }
def CutCountsWrongFalsely : Prop := cutCountsRow.holds Tryz.pinned (OpenSpec.ofChange cutCountsWrong)

/-- 'standbylaw18.ConsistencyDecides': WHATEVER THE INPUT: true; the input reads as it did. -/
def consistencyDecidesSpec : ChangeSpec := { name := "consistencyDecides", fn := fun _ => fun
  | [d1, d2] => { results := [.lit (.bool true)], args := [d1, d2] }
  | _ => none }
def consistencyDecidesRow : OpenClaim := { program := "ytpmjodnmnffmhaagreatdoor", sum := "aab6a400b37bb4c3cd54b9133e53f608d9c13741e8017e46b5c477912431923f", func := "standby/standbylaw18.ConsistencyDecides", spec := "consistencyDecides", inPlace := ["internal/abi.NoEscape"], unfollowed := true, recurses := true, named := ["internal/strconv.uint64pow10", "math/bits.deBruijn32tab", "math/bits.deBruijn64tab"], plainKeys := false, apart := false, laid := [("math/bits.deBruijn32tab", laid_math_bits_deBruijn32tab), ("math/bits.deBruijn64tab", laid_math_bits_deBruijn64tab), ("internal/strconv.uint64pow10", laid_internal_strconv_uint64pow10)] }
def ConsistencyDecidesSaid : Prop := consistencyDecidesRow.holds Tryz.pinned (OpenSpec.ofChange consistencyDecidesSpec)

/-- ITS FALSE NEIGHBOUR: 'it returns false'. Refute it at one input. -/
def consistencyDecidesWrong : ChangeSpec := { name := "consistencyDecides", fn := fun _ => fun
  | [d1, d2] => { results := [.lit (.bool false)], args := [d1, d2] }
  | _ => none }
def ConsistencyDecidesWrongFalsely : Prop := consistencyDecidesRow.holds Tryz.pinned (OpenSpec.ofChange consistencyDecidesWrong)

/- THE SECOND FORM. 'bulk': how many values and letters a reading holds, each counted each time it is reached (what is shared counts as often as it is met; a slice's spare places count too). A statement '..UptoSaid' is the law's where the arguments, and the package variables that the reading takes, are together of bulk at most 1048576: NARROWER than '..Said'. Prove '..Said' where nothing that the law and all that it calls make is longer than what came in: it says more and counts as full. Else prove '..UptoSaid'. A law counts once. -/
mutual
def uptoBulk {H : Type} : DataW H → Nat
  | .lit (.string bytes) => bytes.length + 1
  | .lit _ => 1
  | .nil => 1
  | .ptr d => uptoBulk d + 1
  | .slice elems spare => uptoBulkAll elems + uptoBulkAll spare + 1
  | .agg parts => uptoBulkAll parts + 1
  | .iface _ d => uptoBulk d + 1
  | .map entries => uptoBulkEntries entries + 1
  | .held _ => 1
def uptoBulkAll {H : Type} : List (DataW H) → Nat
  | [] => 0
  | d :: r => uptoBulk d + uptoBulkAll r
def uptoBulkEntries {H : Type} : List (Lit × DataW H) → Nat
  | [] => 0
  | x :: r => uptoBulkEntry x + uptoBulkEntries r
def uptoBulkEntry {H : Type} : Lit × DataW H → Nat
  | (.string bytes, d) => bytes.length + uptoBulk d + 1
  | (_, d) => uptoBulk d + 1
 end
def uptoSmall : (H : Type) → List (DataW H) → Bool := fun _ ds => decide (uptoBulkAll ds ≤ 1048576)
def OpenSpec.upto (s : _root_.Go.ChangeSpec) : _root_.Go.OpenSpec := { _root_.Go.OpenSpec.ofChange s with cond := some uptoSmall }

/-- 'standbylaw16.CutLists', WHERE WHAT IT READS IS OF BULK AT MOST 1048576: true; the input reads as it did. -/
def cutListsUptoRow : OpenClaim := { program := "ytpmjodnmnffmhaagreatdoor", sum := "aab6a400b37bb4c3cd54b9133e53f608d9c13741e8017e46b5c477912431923f", func := "standby/standbylaw16.CutLists", spec := "cutLists", inPlace := ["internal/abi.NoEscape"], unfollowed := true, recurses := true, named := ["internal/strconv.uint64pow10", "math/bits.deBruijn32tab", "math/bits.deBruijn64tab"], plainKeys := false, apart := false, laid := [("math/bits.deBruijn32tab", laid_math_bits_deBruijn32tab), ("math/bits.deBruijn64tab", laid_math_bits_deBruijn64tab), ("internal/strconv.uint64pow10", laid_internal_strconv_uint64pow10)], narrowed := true }
def CutListsUptoSaid : Prop := cutListsUptoRow.holds Tryz.pinned (OpenSpec.upto cutListsSpec)

/-- 'standbylaw16.CutExtremes', WHERE WHAT IT READS IS OF BULK AT MOST 1048576: true; the input reads as it did. -/
def cutExtremesUptoRow : OpenClaim := { program := "ytpmjodnmnffmhaagreatdoor", sum := "aab6a400b37bb4c3cd54b9133e53f608d9c13741e8017e46b5c477912431923f", func := "standby/standbylaw16.CutExtremes", spec := "cutExtremes", inPlace := ["internal/abi.NoEscape"], unfollowed := true, recurses := true, named := ["internal/strconv.uint64pow10", "math/bits.deBruijn32tab", "math/bits.deBruijn64tab"], plainKeys := false, apart := false, laid := [("math/bits.deBruijn32tab", laid_math_bits_deBruijn32tab), ("math/bits.deBruijn64tab", laid_math_bits_deBruijn64tab), ("internal/strconv.uint64pow10", laid_internal_strconv_uint64pow10)], narrowed := true }
def CutExtremesUptoSaid : Prop := cutExtremesUptoRow.holds Tryz.pinned (OpenSpec.upto cutExtremesSpec)

/-- 'standbylaw16.CutCombines', WHERE WHAT IT READS IS OF BULK AT MOST 1048576: true; the input reads as it did. -/
def cutCombinesUptoRow : OpenClaim := { program := "ytpmjodnmnffmhaagreatdoor", sum := "aab6a400b37bb4c3cd54b9133e53f608d9c13741e8017e46b5c477912431923f", func := "standby/standbylaw16.CutCombines", spec := "cutCombines", inPlace := ["internal/abi.NoEscape"], unfollowed := true, recurses := true, named := ["internal/strconv.uint64pow10", "math/bits.deBruijn32tab", "math/bits.deBruijn64tab"], plainKeys := false, apart := false, laid := [("math/bits.deBruijn32tab", laid_math_bits_deBruijn32tab), ("math/bits.deBruijn64tab", laid_math_bits_deBruijn64tab), ("internal/strconv.uint64pow10", laid_internal_strconv_uint64pow10)], narrowed := true }
def CutCombinesUptoSaid : Prop := cutCombinesUptoRow.holds Tryz.pinned (OpenSpec.upto cutCombinesSpec)

/-- 'standbylaw16.CutPrefixes', WHERE WHAT IT READS IS OF BULK AT MOST 1048576: true; the input reads as it did. -/
def cutPrefixesUptoRow : OpenClaim := { program := "ytpmjodnmnffmhaagreatdoor", sum := "aab6a400b37bb4c3cd54b9133e53f608d9c13741e8017e46b5c477912431923f", func := "standby/standbylaw16.CutPrefixes", spec := "cutPrefixes", inPlace := ["internal/abi.NoEscape"], unfollowed := true, recurses := true, named := ["internal/strconv.uint64pow10", "math/bits.deBruijn32tab", "math/bits.deBruijn64tab"], plainKeys := false, apart := false, laid := [("math/bits.deBruijn32tab", laid_math_bits_deBruijn32tab), ("math/bits.deBruijn64tab", laid_math_bits_deBruijn64tab), ("internal/strconv.uint64pow10", laid_internal_strconv_uint64pow10)], narrowed := true }
def CutPrefixesUptoSaid : Prop := cutPrefixesUptoRow.holds Tryz.pinned (OpenSpec.upto cutPrefixesSpec)

/-- 'standbylaw16.CutAlgebra', WHERE WHAT IT READS IS OF BULK AT MOST 1048576: true; the input reads as it did. -/
def cutAlgebraUptoRow : OpenClaim := { program := "ytpmjodnmnffmhaagreatdoor", sum := "aab6a400b37bb4c3cd54b9133e53f608d9c13741e8017e46b5c477912431923f", func := "standby/standbylaw16.CutAlgebra", spec := "cutAlgebra", inPlace := ["internal/abi.NoEscape"], unfollowed := true, recurses := true, named := ["internal/strconv.uint64pow10", "math/bits.deBruijn32tab", "math/bits.deBruijn64tab"], plainKeys := false, apart := false, laid := [("math/bits.deBruijn32tab", laid_math_bits_deBruijn32tab), ("math/bits.deBruijn64tab", laid_math_bits_deBruijn64tab), ("internal/strconv.uint64pow10", laid_internal_strconv_uint64pow10)], narrowed := true }
def CutAlgebraUptoSaid : Prop := cutAlgebraUptoRow.holds Tryz.pinned (OpenSpec.upto cutAlgebraSpec)

/-- 'standbylaw16.CutGenerates', WHERE WHAT IT READS IS OF BULK AT MOST 1048576: true; the input reads as it did. -/
def cutGeneratesUptoRow : OpenClaim := { program := "ytpmjodnmnffmhaagreatdoor", sum := "aab6a400b37bb4c3cd54b9133e53f608d9c13741e8017e46b5c477912431923f", func := "standby/standbylaw16.CutGenerates", spec := "cutGenerates", inPlace := ["internal/abi.NoEscape"], unfollowed := true, recurses := true, named := ["internal/strconv.uint64pow10", "math/bits.deBruijn32tab", "math/bits.deBruijn64tab"], plainKeys := false, apart := false, laid := [("math/bits.deBruijn32tab", laid_math_bits_deBruijn32tab), ("math/bits.deBruijn64tab", laid_math_bits_deBruijn64tab), ("internal/strconv.uint64pow10", laid_internal_strconv_uint64pow10)], narrowed := true }
def CutGeneratesUptoSaid : Prop := cutGeneratesUptoRow.holds Tryz.pinned (OpenSpec.upto cutGeneratesSpec)

/-- 'standbylaw16.CutBounds', WHERE WHAT IT READS IS OF BULK AT MOST 1048576: true; the input reads as it did. -/
def cutBoundsUptoRow : OpenClaim := { program := "ytpmjodnmnffmhaagreatdoor", sum := "aab6a400b37bb4c3cd54b9133e53f608d9c13741e8017e46b5c477912431923f", func := "standby/standbylaw16.CutBounds", spec := "cutBounds", inPlace := ["internal/abi.NoEscape"], unfollowed := true, recurses := true, named := ["internal/strconv.uint64pow10", "math/bits.deBruijn32tab", "math/bits.deBruijn64tab"], plainKeys := false, apart := false, laid := [("math/bits.deBruijn32tab", laid_math_bits_deBruijn32tab), ("math/bits.deBruijn64tab", laid_math_bits_deBruijn64tab), ("internal/strconv.uint64pow10", laid_internal_strconv_uint64pow10)], narrowed := true }
def CutBoundsUptoSaid : Prop := cutBoundsUptoRow.holds Tryz.pinned (OpenSpec.upto cutBoundsSpec)

/-- 'standbylaw16.CutCounts', WHERE WHAT IT READS IS OF BULK AT MOST 1048576: true; the input reads as it did. -/
def cutCountsUptoRow : OpenClaim := { program := "ytpmjodnmnffmhaagreatdoor", sum := "aab6a400b37bb4c3cd54b9133e53f608d9c13741e8017e46b5c477912431923f", func := "standby/standbylaw16.CutCounts", spec := "cutCounts", inPlace := ["internal/abi.NoEscape"], unfollowed := true, recurses := true, named := ["internal/strconv.uint64pow10", "math/bits.deBruijn32tab", "math/bits.deBruijn64tab"], plainKeys := false, apart := false, laid := [("math/bits.deBruijn32tab", laid_math_bits_deBruijn32tab), ("math/bits.deBruijn64tab", laid_math_bits_deBruijn64tab), ("internal/strconv.uint64pow10", laid_internal_strconv_uint64pow10)], narrowed := true }
def CutCountsUptoSaid : Prop := cutCountsUptoRow.holds Tryz.pinned (OpenSpec.upto cutCountsSpec)

/-- 'standbylaw18.ConsistencyDecides', WHERE WHAT IT READS IS OF BULK AT MOST 1048576: true; the input reads as it did. -/
def consistencyDecidesUptoRow : OpenClaim := { program := "ytpmjodnmnffmhaagreatdoor", sum := "aab6a400b37bb4c3cd54b9133e53f608d9c13741e8017e46b5c477912431923f", func := "standby/standbylaw18.ConsistencyDecides", spec := "consistencyDecides", inPlace := ["internal/abi.NoEscape"], unfollowed := true, recurses := true, named := ["internal/strconv.uint64pow10", "math/bits.deBruijn32tab", "math/bits.deBruijn64tab"], plainKeys := false, apart := false, laid := [("math/bits.deBruijn32tab", laid_math_bits_deBruijn32tab), ("math/bits.deBruijn64tab", laid_math_bits_deBruijn64tab), ("internal/strconv.uint64pow10", laid_internal_strconv_uint64pow10)], narrowed := true }
def ConsistencyDecidesUptoSaid : Prop := consistencyDecidesUptoRow.holds Tryz.pinned (OpenSpec.upto consistencyDecidesSpec)

end Rows
end Go.Proofs.YtpmjodnmnffmhaaGreatDoor
