/- facts that all rows share -/
import Derived.SevenTiedAt
import Derived.Test.YtackllehpecfgaaDoorRow
import Derived.Test.YtackllehpecfgaaDoorTypes
import Derived.Test.YtackllehpecfgaaDoorRows
import Derived.Test.YtackllehpecfgaaDoorTie
import Derived.Test.YtackllehpecfgaaDoorCards
namespace Go.Proofs.YtackllehpecfgaaDoor
open Go.RowKit Go.ChangeShapes Go.WideShapes Go.ChangeAt

theorem Tryd.own : ownKnob Tryd.prog.godebug = none := by kernel_rfl

theorem Tryd.laidOut : laidOutB Tryd.prog = true := by kernel_rfl

theorem rd_i : Reads Tryd.prog 3 (Int) := Reads.int Tryd.underlying3 (by kernel_rfl)

theorem rd_w : Reads Tryd.prog 55 (BitVec 64) := Reads.w64 Tryd.underlying55 (by kernel_rfl)

theorem rd_ws : Reads Tryd.prog 22 (List (BitVec 64)) := Reads.slice Tryd.underlying22 (by kernel_rfl) rd_w (by decide)

theorem rd_bm : Reads Tryd.prog 24 (Int × List (BitVec 64) × Unit) := Reads.struct Tryd.underlying24 (by kernel_rfl) (.cons rfl rd_i (.cons rfl rd_ws (.nil _)))

theorem rd_ex : Reads Tryd.prog 26 (Int × Int × Unit) := Reads.struct Tryd.underlying26 (by kernel_rfl) (.cons rfl rd_i (.cons rfl rd_i (.nil _)))

theorem rd_exs : Reads Tryd.prog 44 (List (Int × Int × Unit)) := Reads.slice Tryd.underlying44 (by kernel_rfl) rd_ex (by decide)

theorem Tryd.doorMet (os : Os) (args : Array Value) : laidMetH Tryd.prog [("math/bits.deBruijn64tab", Rows.laid_math_bits_deBruijn64tab)] ((World.doorLaid Tryd.prog 14 os).forCall (fun _ _ => 0) ⟨#[], args, []⟩).memory :=
  laidMetH_of_parts3 (fuel := 8) (laidMet_of_run' 8 (by kernel_rfl) (by kernel_rfl)) (by kernel_rfl) (by kernel_rfl)

theorem tabHolds {W : World} (h : laidMetH Tryd.prog [("math/bits.deBruijn64tab", Rows.laid_math_bits_deBruijn64tab)] W) : TabH (HW W) 0 :=
  tab_of_laid (t := 72) (e := 5) (by kernel_rfl) (by kernel_rfl) Tryd.underlying72 Tryd.underlying5 (by kernel_rfl) (by kernel_rfl) rfl h

end Go.Proofs.YtackllehpecfgaaDoor
