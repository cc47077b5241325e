/-
  No cell of these rows narrows 'for every input' (looked for: loops, veiled, ifaces, maps, wideKeys, modest, calm, conditions, laid).
  DERIVED. THE GIVEN ROWS OF THIS SEAT. 5 by the template 'for every input the law returns true; each argument reads behind the call as it read before'; 0 by the template 'total and deterministic' (their statements: YtjjodmgmidbamaaTotals.lean).
  GIVEN WITH THE SEED: the statements are not yours to turn. If you find one false, say at which input.
  Laid BY PROGRAM, IN A SANDBOX (cutbox-rows.mjs): the forced cells as the released guide's own fill.sh prints them over the translation eb0c58d6c687d8ba… (all of the seat's roots in one cut). By AI agents, Wed Nov 11 2026. No macro, syntax, notation, axiom, sorry.
-/
import Derived.Test.YtjjodmgmidbamaaChecked
import GoSem.Claim
import GoSem.ClaimJoined
import GoSem.ClaimMapViews
import Derived.JoinedTies
import Derived.KernelRfl
namespace Go.Proofs.Ytjjodmgmidbamaa
/- THE CELL 'sum', in the pinned program and in every row, IS THE sha256 OF THE DUMP (.gsa) THAT YtjjodmgmidbamaaProg.lean LOADS. Nothing in Lean hashes anything: it is a label: what it is worth is what the hold of that sum in a sandbox is worth. -/
noncomputable def Try.pinned : Pinned := { name := "ytjjodmgmidbamaa", sum := "eb0c58d6c687d8bac7f456626625e5d34694938237d8fb704dc49b6346e2b5c3", checked := Try.checked }
namespace Rows
def none {H : Type} : Left H := { results := [], args := [] }

/-- 'standbylaw18.ConsistencyDistinguishes': WHATEVER THE INPUT: true; the input reads as it did. -/
def consistencyDistinguishesSpec : ChangeSpec := { name := "consistencyDistinguishes", fn := fun _ => fun
  | [d] => { results := [.lit (.bool true)], args := [d] }
  | _ => none }
def consistencyDistinguishesRow : OpenClaim := { program := "ytjjodmgmidbamaa", sum := "eb0c58d6c687d8bac7f456626625e5d34694938237d8fb704dc49b6346e2b5c3", func := "standby/standbylaw18.ConsistencyDistinguishes", spec := "consistencyDistinguishes", unfollowed := true, recurses := true, plainKeys := false, apart := false }
def ConsistencyDistinguishesSaid : Prop := consistencyDistinguishesRow.holds Try.pinned (OpenSpec.ofChange consistencyDistinguishesSpec)

/-- ITS FALSE NEIGHBOUR: 'it returns false'. Refute it at one input. -/
def consistencyDistinguishesWrong : ChangeSpec := { name := "consistencyDistinguishes", fn := fun _ => fun
  | [d] => { results := [.lit (.bool false)], args := [d] }
  | _ => none }
def ConsistencyDistinguishesWrongFalsely : Prop := consistencyDistinguishesRow.holds Try.pinned (OpenSpec.ofChange consistencyDistinguishesWrong)

/-- 'standbylaw18.ConsistencyConflicts': WHATEVER THE INPUT: true; the input reads as it did. -/
def consistencyConflictsSpec : ChangeSpec := { name := "consistencyConflicts", fn := fun _ => fun
  | [d1, d2] => { results := [.lit (.bool true)], args := [d1, d2] }
  | _ => none }
def consistencyConflictsRow : OpenClaim := { program := "ytjjodmgmidbamaa", sum := "eb0c58d6c687d8bac7f456626625e5d34694938237d8fb704dc49b6346e2b5c3", func := "standby/standbylaw18.ConsistencyConflicts", spec := "consistencyConflicts", unfollowed := true, recurses := true, plainKeys := false, apart := false }
def ConsistencyConflictsSaid : Prop := consistencyConflictsRow.holds Try.pinned (OpenSpec.ofChange consistencyConflictsSpec)

/-- ITS FALSE NEIGHBOUR: 'it returns false'. Refute it at one input. -/
def consistencyConflictsWrong : ChangeSpec := { name := "consistencyConflicts", fn := fun _ => fun
  | [d1, d2] => { results := [.lit (.bool false)], args := [d1, d2] }
  | _ => none }
def ConsistencyConflictsWrongFalsely : Prop := consistencyConflictsRow.holds Try.pinned (OpenSpec.ofChange consistencyConflictsWrong)

/-- 'standbylaw18.ConsistencyShows': WHATEVER THE INPUT: true; the input reads as it did. -/
def consistencyShowsSpec : ChangeSpec := { name := "consistencyShows", fn := fun _ => fun
  | [d1, d2] => { results := [.lit (.bool true)], args := [d1, d2] }
  | _ => none }
def consistencyShowsRow : OpenClaim := { program := "ytjjodmgmidbamaa", sum := "eb0c58d6c687d8bac7f456626625e5d34694938237d8fb704dc49b6346e2b5c3", func := "standby/standbylaw18.ConsistencyShows", spec := "consistencyShows", unfollowed := true, recurses := true, plainKeys := false, apart := false }
def ConsistencyShowsSaid : Prop := consistencyShowsRow.holds Try.pinned (OpenSpec.ofChange consistencyShowsSpec)

/-- ITS FALSE NEIGHBOUR: 'it returns false'. Refute it at one input. -/
def consistencyShowsWrong : ChangeSpec := { name := "consistencyShows", fn := fun _ => fun
  | [d1, d2] => { results := [.lit (.bool false)], args := [d1, d2] }
  | _ => none }
def ConsistencyShowsWrongFalsely : Prop := consistencyShowsRow.holds Try.pinned (OpenSpec.ofChange consistencyShowsWrong)

/-- 'standbylaw18.ConsistencyContinues': WHATEVER THE INPUT: true; the input reads as it did. -/
def consistencyContinuesSpec : ChangeSpec := { name := "consistencyContinues", fn := fun _ => fun
  | [d1, d2, d3] => { results := [.lit (.bool true)], args := [d1, d2, d3] }
  | _ => none }
def consistencyContinuesRow : OpenClaim := { program := "ytjjodmgmidbamaa", sum := "eb0c58d6c687d8bac7f456626625e5d34694938237d8fb704dc49b6346e2b5c3", func := "standby/standbylaw18.ConsistencyContinues", spec := "consistencyContinues", unfollowed := true, recurses := true, plainKeys := false, apart := false }
def ConsistencyContinuesSaid : Prop := consistencyContinuesRow.holds Try.pinned (OpenSpec.ofChange consistencyContinuesSpec)

/-- ITS FALSE NEIGHBOUR: 'it returns false'. Refute it at one input. -/
def consistencyContinuesWrong : ChangeSpec := { name := "consistencyContinues", fn := fun _ => fun
  | [d1, d2, d3] => { results := [.lit (.bool false)], args := [d1, d2, d3] }
  | _ => none }
def ConsistencyContinuesWrongFalsely : Prop := consistencyContinuesRow.holds Try.pinned (OpenSpec.ofChange consistencyContinuesWrong)

/-- 'standbylaw18.ConsistencyRecovers': WHATEVER THE INPUT: true; the input reads as it did. -/
def consistencyRecoversSpec : ChangeSpec := { name := "consistencyRecovers", fn := fun _ => fun
  | [d1, d2] => { results := [.lit (.bool true)], args := [d1, d2] }
  | _ => none }
def consistencyRecoversRow : OpenClaim := { program := "ytjjodmgmidbamaa", sum := "eb0c58d6c687d8bac7f456626625e5d34694938237d8fb704dc49b6346e2b5c3", func := "standby/standbylaw18.ConsistencyRecovers", spec := "consistencyRecovers", unfollowed := true, recurses := true, plainKeys := false, apart := false }
def ConsistencyRecoversSaid : Prop := consistencyRecoversRow.holds Try.pinned (OpenSpec.ofChange consistencyRecoversSpec)

/-- ITS FALSE NEIGHBOUR: 'it returns false'. Refute it at one input. -/
def consistencyRecoversWrong : ChangeSpec := { name := "consistencyRecovers", fn := fun _ => fun
  | [d1, d2] => { results := [.lit (.bool false)], args := [d1, d2] }
  | _ => none }
def ConsistencyRecoversWrongFalsely : Prop := consistencyRecoversRow.holds Try.pinned (OpenSpec.ofChange consistencyRecoversWrong)

/- THE SECOND FORM. 'bulk': how many values and letters a reading holds, each counted each time it is reached (what is shared counts as often as it is met; a slice's spare places count too). A statement '..UptoSaid' is the law's where the arguments, and the package variables that the reading takes, are together of bulk at most 1048576: NARROWER than '..Said'. Prove '..Said' where nothing that the law and all that it calls make is longer than what came in: it says more and counts as full. Else prove '..UptoSaid'. A law counts once. -/
mutual
def uptoBulk {H : Type} : DataW H → Nat
  | .lit (.string bytes) => bytes.length + 1
  | .lit _ => 1
  | .nil => 1
  | .ptr d => uptoBulk d + 1
  | .slice elems spare => uptoBulkAll elems + uptoBulkAll spare + 1
  | .agg parts => uptoBulkAll parts + 1
  | .iface _ d => uptoBulk d + 1
  | .map entries => uptoBulkEntries entries + 1
  | .held _ => 1
def uptoBulkAll {H : Type} : List (DataW H) → Nat
  | [] => 0
  | d :: r => uptoBulk d + uptoBulkAll r
def uptoBulkEntries {H : Type} : List (Lit × DataW H) → Nat
  | [] => 0
  | x :: r => uptoBulkEntry x + uptoBulkEntries r
def uptoBulkEntry {H : Type} : Lit × DataW H → Nat
  | (.string bytes, d) => bytes.length + uptoBulk d + 1
  | (_, d) => uptoBulk d + 1
 end
def uptoSmall : (H : Type) → List (DataW H) → Bool := fun _ ds => decide (uptoBulkAll ds ≤ 1048576)
def OpenSpec.upto (s : _root_.Go.ChangeSpec) : _root_.Go.OpenSpec := { _root_.Go.OpenSpec.ofChange s with cond := some uptoSmall }

/-- 'standbylaw18.ConsistencyDistinguishes', WHERE WHAT IT READS IS OF BULK AT MOST 1048576: true; the input reads as it did. -/
def consistencyDistinguishesUptoRow : OpenClaim := { program := "ytjjodmgmidbamaa", sum := "eb0c58d6c687d8bac7f456626625e5d34694938237d8fb704dc49b6346e2b5c3", func := "standby/standbylaw18.ConsistencyDistinguishes", spec := "consistencyDistinguishes", unfollowed := true, recurses := true, plainKeys := false, apart := false, narrowed := true }
def ConsistencyDistinguishesUptoSaid : Prop := consistencyDistinguishesUptoRow.holds Try.pinned (OpenSpec.upto consistencyDistinguishesSpec)

/-- 'standbylaw18.ConsistencyConflicts', WHERE WHAT IT READS IS OF BULK AT MOST 1048576: true; the input reads as it did. -/
def consistencyConflictsUptoRow : OpenClaim := { program := "ytjjodmgmidbamaa", sum := "eb0c58d6c687d8bac7f456626625e5d34694938237d8fb704dc49b6346e2b5c3", func := "standby/standbylaw18.ConsistencyConflicts", spec := "consistencyConflicts", unfollowed := true, recurses := true, plainKeys := false, apart := false, narrowed := true }
def ConsistencyConflictsUptoSaid : Prop := consistencyConflictsUptoRow.holds Try.pinned (OpenSpec.upto consistencyConflictsSpec)

/-- 'standbylaw18.ConsistencyShows', WHERE WHAT IT READS IS OF BULK AT MOST 1048576: true; the input reads as it did. -/
def consistencyShowsUptoRow : OpenClaim := { program := "ytjjodmgmidbamaa", sum := "eb0c58d6c687d8bac7f456626625e5d34694938237d8fb704dc49b6346e2b5c3", func := "standby/standbylaw18.ConsistencyShows", spec := "consistencyShows", unfollowed := true, recurses := true, plainKeys := false, apart := false, narrowed := true }
def ConsistencyShowsUptoSaid : Prop := consistencyShowsUptoRow.holds Try.pinned (OpenSpec.upto consistencyShowsSpec)

/-- 'standbylaw18.ConsistencyContinues', WHERE WHAT IT READS IS OF BULK AT MOST 1048576: true; the input reads as it did. -/
def consistencyContinuesUptoRow : OpenClaim := { program := "ytjjodmgmidbamaa", sum := "eb0c58d6c687d8bac7f456626625e5d34694938237d8fb704dc49b6346e2b5c3", func := "standby/standbylaw18.ConsistencyContinues", spec := "consistencyContinues", unfollowed := true, recurses := true, plainKeys := false, apart := false, narrowed := true }
def ConsistencyContinuesUptoSaid : Prop := consistencyContinuesUptoRow.holds Try.pinned (OpenSpec.upto consistencyContinuesSpec)

/-- 'standbylaw18.ConsistencyRecovers', WHERE WHAT IT READS IS OF BULK AT MOST 1048576: true; the input reads as it did. -/
def consistencyRecoversUptoRow : OpenClaim := { program := "ytjjodmgmidbamaa", sum := "eb0c58d6c687d8bac7f456626625e5d34694938237d8fb704dc49b6346e2b5c3", func := "standby/standbylaw18.ConsistencyRecovers", spec := "consistencyRecovers", unfollowed := true, recurses := true, plainKeys := false, apart := false, narrowed := true }
def ConsistencyRecoversUptoSaid : Prop := consistencyRecoversUptoRow.holds Try.pinned (OpenSpec.upto consistencyRecoversSpec)

end Rows
end Go.Proofs.Ytjjodmgmidbamaa
