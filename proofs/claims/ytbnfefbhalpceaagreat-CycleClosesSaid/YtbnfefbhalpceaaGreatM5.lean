/- Part 5 of the proof of the statement CycleClosesSaid: lemmas. No condition of its own. -/
import Derived.Lib.TrailingZeros
import Derived.Test.YtbnfefbhalpceaaGreatProg
import Derived.Test.YtbnfefbhalpceaaGreatM4
namespace Go.Proofs.YtbnfefbhalpceaaGreat
open Go.RowKit
def ref22_Few_J2 (x0 : List api_Write) (v1 : Int) (rec1 : (Int) → Prop) (Φ : Bool → Prop) : Bool → Prop
 | v2 =>
 (v2 = true →
 inX v1 x0.length ∧
 (24 < (((ix x0 v1).Data).length : Int) →
 Φ false) ∧
 (¬ (24 < (((ix x0 v1).Data).length : Int)) →
 inI (v1 + 1) ∧
 rec1 (v1 + 1))) ∧
 (¬ (v2 = true) →
 Φ (decide ((x0.length : Int) ≤ 40)))
def ref22_Few_L1 (x0 : List api_Write) (Φ : Bool → Prop) : (Int) → ((Int) → Prop) → Prop
 | v1, rec1 =>
 Join (ref22_Few_J2 x0 v1 rec1 Φ) fun J2 =>
 (v1 < (x0.length : Int) →
 J2 (decide (v1 < 60))) ∧
 (¬ (v1 < (x0.length : Int)) →
 J2 false)
def ref22_Few_W (x0 : List api_Write) (Φ : Bool → Prop) : Prop :=
 LoopW (ref22_Few_L1 x0 Φ) 0
def Z0 (x0 : api_Capture) (Φ : Bool → Prop) : Prop :=
 ((x0.Sizes.length : Int) ≤ 20 →
 ((x0.Positions.length : Int) ≤ 20 →
 ((x0.Nodes.length : Int) ≤ 60 →
 ref22_Few_W x0.Writes fun v1 =>
 Φ v1) ∧
 (¬ ((x0.Nodes.length : Int) ≤ 60) →
 Φ false)) ∧
 (¬ ((x0.Positions.length : Int) ≤ 20) →
 Φ false)) ∧
 (¬ ((x0.Sizes.length : Int) ≤ 20) →
 Φ false)
def Z1 (x0 : Int) (Φ : Bool → Prop) : Prop :=
 (x0 < 1 →
 Φ true) ∧
 (¬ (x0 < 1) →
 Φ (decide (4096 < x0)))
def Z2 (x0 : List Int) (Φ : Int → Prop) : (Int) → ((Int) → Prop) → Prop
 | v1, rec1 =>
 (v1 < (x0.length : Int) →
 inX v1 x0.length ∧
 Z1 (ix x0 v1) fun v2 =>
 (v2 = true →
 (0 ≤ v1 →
 Φ 2) ∧
 (¬ (0 ≤ v1) →
 Φ 0)) ∧
 (¬ (v2 = true) →
 inI (v1 + 1) ∧
 rec1 (v1 + 1))) ∧
 (¬ (v1 < (x0.length : Int)) →
 (0 ≤ ((-1) : Int) →
 Φ 2) ∧
 (¬ (0 ≤ ((-1) : Int)) →
 Φ 0))
def Z3 (x0 : List Int) (Φ : Int → Prop) : Prop :=
 ((x0.length : Int) < 1 →
 Φ 6) ∧
 (¬ ((x0.length : Int) < 1) →
 (8 < (x0.length : Int) →
 Φ 6) ∧
 (¬ (8 < (x0.length : Int)) →
 LoopW (Z2 x0 Φ) 0))
def image_New_1_W (x0 : Int) (Φ : List Sec → Prop) : Prop :=
 0 ≤ x0 ∧
 lenOk x0.toNat 8 ∧
 Φ (List.replicate x0.toNat (sec0 : Sec))
def image_New_L1 (x0 : List Int) (Φ : List (List Sec) × Int → Prop) : (Int × List (List Sec)) → ((Int × List (List Sec)) → Prop) → Prop
 | (v2, v3), rec1 =>
 (v2 < (x0.length : Int) →
 inX v2 x0.length ∧
 image_New_1_W (ix x0 v2) fun v4 =>
 lenOk (v3 ++ ([v4] : List (List Sec))).length 24 ∧
 inI (v2 + 1) ∧
 rec1 ((v2 + 1), (v3 ++ ([v4] : List (List Sec))))) ∧
 (¬ (v2 < (x0.length : Int)) →
 Φ (v3, 0))
def image_New_W (x0 : List Int) (Φ : List (List Sec) × Int → Prop) : Prop :=
 Z3 x0 fun v1 =>
 (v1 ≠ 0 →
 Φ (([] : List (List Sec)), v1)) ∧
 (¬ (v1 ≠ 0) →
 0 ≤ (x0.length : Int) ∧
 lenOk (x0.length : Int).toNat 24 ∧
 LoopW (image_New_L1 x0 Φ) (0, ([] : List (List Sec))))
def cycle_in_W (x0 : Int) (x1 : Int) (x2 : Int) (Φ : Bool → Prop) : Prop :=
 (x1 ≤ x0 →
 Φ (decide (x0 ≤ x2))) ∧
 (¬ (x1 ≤ x0) →
 Φ false)
def Z4 (x0 : List Int) (Φ : List Int → Prop) : Prop :=
 (x0 = [] →
 Φ ([] : List Int)) ∧
 (
 lenOk (([] : List Int) ++ x0).length 8 ∧
 Φ (([] : List Int) ++ x0))
def cycle_Open_W (x0 : List Int) (x1 : Int) (x2 : Int) (Φ : api_Capture × Int → Prop) : Prop :=
 image_New_W x0 fun v1 =>
 (v1.2 ≠ 0 →
 Φ ((api_Capture.mk 0 ([] : List Int) ([] : List Int) ([] : List Int) ([] : List api_Write)), v1.2)) ∧
 (¬ (v1.2 ≠ 0) →
 cycle_in_W x1 1 8 fun v2 =>
 (¬ (v2 = true) →
 Φ ((api_Capture.mk 0 ([] : List Int) ([] : List Int) ([] : List Int) ([] : List api_Write)), 6)) ∧
 (¬ (¬ (v2 = true)) →
 cycle_in_W x2 0 1073741823 fun v3 =>
 (¬ (v3 = true) →
 Φ ((api_Capture.mk 0 ([] : List Int) ([] : List Int) ([] : List Int) ([] : List api_Write)), 2)) ∧
 (¬ (¬ (v3 = true)) →
 ∃ v4 : List Int × Unit, Z4 x0 (fun z => (z, ()) = v4) ∧
 0 ≤ x1 ∧
 lenOk x1.toNat 8 ∧
 Φ ((api_Capture.mk x2 v4.1 (List.replicate x1.toNat (0 : Int)) ([] : List Int) ([] : List api_Write)), 0))))
def Z5 (x0 : Int) (x1 : Int) (x2 : List (BitVec 8)) (Φ : api_Write → Prop) : (Int × List Sec) → ((Int × List Sec) → Prop) → Prop
 | (v1, v2), rec1 =>
 (v1 < (x2.length : Int) →
 inX v1 x2.length ∧
 lenOk (v2 ++ ([(Sec.mk (ix x2 v1) (0#8) (0#8) (0#8) (0#8) (0#8) (0#8) (0#8))] : List Sec)).length 8 ∧
 inI (v1 + 1) ∧
 rec1 ((v1 + 1), (v2 ++ ([(Sec.mk (ix x2 v1) (0#8) (0#8) (0#8) (0#8) (0#8) (0#8) (0#8))] : List Sec)))) ∧
 (¬ (v1 < (x2.length : Int)) →
 Φ (api_Write.mk x0 x1 v2))
def law23_write_W (x0 : Int) (x1 : Int) (x2 : List (BitVec 8)) (Φ : api_Write → Prop) : Prop :=
 LoopW (Z5 x0 x1 x2 Φ) (0, ([] : List Sec))
def Z6 (x0 : Int) (Φ : Bool → Prop) : Prop :=
 cycle_in_W x0 0 1073741824 fun v1 =>
 Φ (decide (¬ (v1 = true)))
def Z7 (x0 : List Int) (Φ : Int → Prop) : (Int) → ((Int) → Prop) → Prop
 | v2, rec1 =>
 (v2 < (x0.length : Int) →
 inX v2 x0.length ∧
 Z6 (ix x0 v2) fun v3 =>
 (v3 = true →
 (0 ≤ v2 →
 Φ 2) ∧
 (¬ (0 ≤ v2) →
 Φ 0)) ∧
 (¬ (v3 = true) →
 inI (v2 + 1) ∧
 rec1 (v2 + 1))) ∧
 (¬ (v2 < (x0.length : Int)) →
 (0 ≤ ((-1) : Int) →
 Φ 2) ∧
 (¬ (0 ≤ ((-1) : Int)) →
 Φ 0))
def Z8 (x0 : List Int) (x1 : Int) (Φ : Int → Prop) : Prop :=
 cycle_in_W (x0.length : Int) x1 8 fun v1 =>
 (¬ (v1 = true) →
 Φ 6) ∧
 (¬ (¬ (v1 = true)) →
 LoopW (Z7 x0 Φ) 0)
def Z9 (x0 : List Sec) (Φ : Int → Prop) : Prop :=
 Φ (x0.length : Int)
def Z10 (x0 : List (List Sec)) (Φ : List Int → Prop) : (Int × List Int) → ((Int × List Int) → Prop) → Prop
 | (v1, v2), rec1 =>
 (v1 < (x0.length : Int) →
 inX v1 x0.length ∧
 Z9 (ix x0 v1) fun v3 =>
 lenOk (v2 ++ ([v3] : List Int)).length 8 ∧
 inI (v1 + 1) ∧
 rec1 ((v1 + 1), (v2 ++ ([v3] : List Int)))) ∧
 (¬ (v1 < (x0.length : Int)) →
 Φ v2)
def image_sizes_W (x0 : List (List Sec)) (Φ : List Int → Prop) : Prop :=
 0 ≤ (x0.length : Int) ∧
 lenOk (x0.length : Int).toNat 8 ∧
 LoopW (Z10 x0 Φ) (0, ([] : List Int))
def image_Check_W (x0 : List (List Sec)) (Φ : Int → Prop) : Prop :=
 image_sizes_W x0 fun v1 =>
 Z3 v1 fun v2 =>
 Φ v2
def image_fits_J1 (x0 : List (List Sec)) (x1 : api_Write) (Φ : Int → Prop) : Bool → Prop
 | v1 =>
 (v1 = true →
 Φ 7) ∧
 (¬ (v1 = true) →
 ((x1.Data.length : Int) = 0 →
 Φ 1) ∧
 (¬ ((x1.Data.length : Int) = 0) →
 (x1.Start < 0 →
 Φ 2) ∧
 (¬ (x1.Start < 0) →
 inX x1.Volume x0.length ∧
 inI (((ix x0 x1.Volume).length : Int) - (x1.Data.length : Int)) ∧
 ((((ix x0 x1.Volume).length : Int) - (x1.Data.length : Int)) < x1.Start →
 Φ 2) ∧
 (¬ ((((ix x0 x1.Volume).length : Int) - (x1.Data.length : Int)) < x1.Start) →
 Φ 0))))
def image_fits_W (x0 : List (List Sec)) (x1 : api_Write) (Φ : Int → Prop) : Prop :=
 Join (image_fits_J1 x0 x1 Φ) fun J1 =>
 (x1.Volume < 0 →
 J1 true) ∧
 (¬ (x1.Volume < 0) →
 J1 (decide ((x0.length : Int) ≤ x1.Volume)))
def image_Fits_W (x0 : List (List Sec)) (x1 : api_Write) (Φ : Int → Prop) : Prop :=
 image_Check_W x0 fun v1 =>
 (v1 ≠ 0 →
 Φ v1) ∧
 (¬ (v1 ≠ 0) →
 image_fits_W x0 x1 fun v2 =>
 Φ v2)
def Z11 (x0 : List Sec) (Φ : List Sec → Prop) : Prop :=
 (x0 = [] →
 Φ ([] : List Sec)) ∧
 (
 lenOk (([] : List Sec) ++ x0).length 8 ∧
 Φ (([] : List Sec) ++ x0))
def Z12 (x0 : api_Write) (Φ : api_Write → Prop) : Prop :=
 Z11 x0.Data fun v1 =>
 Φ (api_Write.mk x0.Volume x0.Start v1)
def Z13 (x0 : api_Capture) (v1 : List Int × Unit) (v2 : List Int × Unit) (v3 : List Int × Unit) (Φ : api_Capture → Prop) : (Int × List api_Write) → ((Int × List api_Write) → Prop) → Prop
 | (v4, v5), rec1 =>
 (v4 < (x0.Writes.length : Int) →
 inX v4 x0.Writes.length ∧
 Z12 (ix x0.Writes v4) fun v6 =>
 lenOk (v5 ++ ([v6] : List api_Write)).length 40 ∧
 inI (v4 + 1) ∧
 rec1 ((v4 + 1), (v5 ++ ([v6] : List api_Write)))) ∧
 (¬ (v4 < (x0.Writes.length : Int)) →
 Φ (api_Capture.mk x0.Number v1.1 v2.1 v3.1 v5))
def Z14 (x0 : api_Capture) (Φ : api_Capture → Prop) : Prop :=
 ∃ v1 : List Int × Unit, Z4 x0.Sizes (fun z => (z, ()) = v1) ∧
 ∃ v2 : List Int × Unit, Z4 x0.Positions (fun z => (z, ()) = v2) ∧
 ∃ v3 : List Int × Unit, Z4 x0.Nodes (fun z => (z, ()) = v3) ∧
 LoopW (Z13 x0 v1 v2 v3 Φ) (0, ([] : List api_Write))
def cycle_Add_L1 (x0 : api_Capture) (x1 : Int) (x2 : api_Write) (v1 : List (List Sec) × Int) (Φ : api_Capture × Int → Prop) : (Int) → ((Int) → Prop) → Prop
 | v4, rec1 =>
 (v4 < (x0.Writes.length : Int) →
 inX v4 x0.Writes.length ∧
 inX v4 x0.Nodes.length ∧
 inI ((x0.Positions.length : Int) - 1) ∧
 cycle_in_W (ix x0.Nodes v4) 0 ((x0.Positions.length : Int) - 1) fun v5 =>
 (¬ (v5 = true) →
 Φ ((api_Capture.mk 0 ([] : List Int) ([] : List Int) ([] : List Int) ([] : List api_Write)), 7)) ∧
 (¬ (¬ (v5 = true)) →
 image_Fits_W v1.1 (ix x0.Writes v4) fun v6 =>
 (¬ (v6 = 0) →
 Φ ((api_Capture.mk 0 ([] : List Int) ([] : List Int) ([] : List Int) ([] : List api_Write)), v6)) ∧
 (¬ (¬ (v6 = 0)) →
 inI (v4 + 1) ∧
 rec1 (v4 + 1)))) ∧
 (¬ (v4 < (x0.Writes.length : Int)) →
 inI ((x0.Positions.length : Int) - 1) ∧
 cycle_in_W x1 0 ((x0.Positions.length : Int) - 1) fun v7 =>
 (¬ (v7 = true) →
 Φ ((api_Capture.mk 0 ([] : List Int) ([] : List Int) ([] : List Int) ([] : List api_Write)), 7)) ∧
 (¬ (¬ (v7 = true)) →
 image_Fits_W v1.1 x2 fun v8 =>
 (¬ (v8 = 0) →
 Φ ((api_Capture.mk 0 ([] : List Int) ([] : List Int) ([] : List Int) ([] : List api_Write)), v8)) ∧
 (¬ (¬ (v8 = 0)) →
 (¬ ((x0.Writes.length : Int) < 4096) →
 Φ ((api_Capture.mk 0 ([] : List Int) ([] : List Int) ([] : List Int) ([] : List api_Write)), 11)) ∧
 (¬ (¬ ((x0.Writes.length : Int) < 4096)) →
 Z14 x0 fun v9 =>
 lenOk (v9.Nodes ++ ([x1] : List Int)).length 8 ∧
 ∃ v10 : api_Write × Unit, Z12 x2 (fun z => (z, ()) = v10) ∧
 lenOk (v9.Writes ++ ([v10.1] : List api_Write)).length 40 ∧
 Φ ((api_Capture.mk v9.Number v9.Sizes v9.Positions (v9.Nodes ++ ([x1] : List Int)) (v9.Writes ++ ([v10.1] : List api_Write))), 0)))))
def cycle_Add_W (x0 : api_Capture) (x1 : Int) (x2 : api_Write) (Φ : api_Capture × Int → Prop) : Prop :=
 image_New_W x0.Sizes fun v1 =>
 (¬ (v1.2 = 0) →
 Φ ((api_Capture.mk 0 ([] : List Int) ([] : List Int) ([] : List Int) ([] : List api_Write)), v1.2)) ∧
 (¬ (¬ (v1.2 = 0)) →
 cycle_in_W x0.Number 0 1073741823 fun v2 =>
 (¬ (v2 = true) →
 Φ ((api_Capture.mk 0 ([] : List Int) ([] : List Int) ([] : List Int) ([] : List api_Write)), 2)) ∧
 (¬ (¬ (v2 = true)) →
 Z8 x0.Positions 1 fun v3 =>
 (¬ (v3 = 0) →
 Φ ((api_Capture.mk 0 ([] : List Int) ([] : List Int) ([] : List Int) ([] : List api_Write)), v3)) ∧
 (¬ (¬ (v3 = 0)) →
 ((x0.Nodes.length : Int) = (x0.Writes.length : Int) →
 (¬ ((x0.Writes.length : Int) ≤ 4096) →
 Φ ((api_Capture.mk 0 ([] : List Int) ([] : List Int) ([] : List Int) ([] : List api_Write)), 6)) ∧
 (¬ (¬ ((x0.Writes.length : Int) ≤ 4096)) →
 LoopW (cycle_Add_L1 x0 x1 x2 v1 Φ) 0)) ∧
 (¬ ((x0.Nodes.length : Int) = (x0.Writes.length : Int)) →
 Φ ((api_Capture.mk 0 ([] : List Int) ([] : List Int) ([] : List Int) ([] : List api_Write)), 6)))))
def Z15 (x0 : Int) (Φ : Bool → Prop) : Prop :=
 Φ (decide (0 < x0))
def Z16 (x0 : cycle_division) (x1 : Bool) : (List (Int × api_Write × Unit) × Int) → ((List (Int × api_Write × Unit) × Int) → Prop) → Prop
 | (l1, v1), rec1 =>
 (v1 < (x0.c.Writes.length : Int) →
 inX v1 x0.c.Writes.length ∧
 inX v1 x0.part.length ∧
 ((ix x0.part v1) = x1 →
 Yl l1 fun v2 r3 => (v1, (ix x0.c.Writes v1), ()) = v2 ∧ (
 inI (v1 + 1) ∧
 rec1 (r3, (v1 + 1))) ∧ (
 True)) ∧
 (¬ ((ix x0.part v1) = x1) →
 inI (v1 + 1) ∧
 rec1 (l1, (v1 + 1)))) ∧
 (¬ (v1 < (x0.c.Writes.length : Int)) →
 l1 = [])
def cycle_division_writes_1_I (x0 : cycle_division) (x1 : Bool) (l : List (Int × api_Write × Unit)) : Prop :=
 LoopW (Z16 x0 x1) (l, 0)
def Z17 (x0 : api_Write) (Φ : Int → Prop) : Bool → Prop
 | v1 =>
 (v1 = true →
 Φ 7) ∧
 (¬ (v1 = true) →
 ((x0.Data.length : Int) = 0 →
 Φ 1) ∧
 (¬ ((x0.Data.length : Int) = 0) →
 (x0.Start < 0 →
 Φ 2) ∧
 (¬ (x0.Start < 0) →
 inI (4096 - (x0.Data.length : Int)) ∧
 ((4096 - (x0.Data.length : Int)) < x0.Start →
 Φ 2) ∧
 (¬ ((4096 - (x0.Data.length : Int)) < x0.Start) →
 Φ 0))))
def Z18 (x0 : api_Write) (Φ : Int → Prop) : Prop :=
 Join (Z17 x0 Φ) fun J1 =>
 (x0.Volume < 0 →
 J1 true) ∧
 (¬ (x0.Volume < 0) →
 J1 (decide (8 ≤ x0.Volume)))
def Z19 (x0 : coalesce_place) (Φ : coalesce_place → Prop) : Prop :=
 inI (x0.sector + 1) ∧
 Φ (coalesce_place.mk x0.volume (x0.sector + 1))
def Z20 (x0 : Int) (Φ : Bool → Prop) : Prop :=
 Φ (decide (x0 ≠ x0))
def Z21 (x0 : Int) (x1 : Int) (Φ : Int → Prop) : Prop :=
 Z20 x0 fun v1 =>
 Z20 x1 fun v2 =>
 (v1 = true →
 (v2 = true →
 Φ 0) ∧
 (¬ (v2 = true) →
 Φ (-1))) ∧
 (¬ (v1 = true) →
 (v2 = true →
 Φ 1) ∧
 (¬ (v2 = true) →
 (x0 < x1 →
 Φ (-1)) ∧
 (¬ (x0 < x1) →
 (x1 < x0 →
 Φ 1) ∧
 (¬ (x1 < x0) →
 Φ 0))))
def cmp_Or_int_L1 (x0 : List Int) (Φ : Int → Prop) : (Int) → ((Int) → Prop) → Prop
 | v1, rec1 =>
 (v1 < (x0.length : Int) →
 inX v1 x0.length ∧
 ((ix x0 v1) ≠ 0 →
 Φ (ix x0 v1)) ∧
 (¬ ((ix x0 v1) ≠ 0) →
 inI (v1 + 1) ∧
 rec1 (v1 + 1))) ∧
 (¬ (v1 < (x0.length : Int)) →
 Φ 0)
def cmp_Or_int_W (x0 : List Int) (Φ : Int → Prop) : Prop :=
 LoopW (cmp_Or_int_L1 x0 Φ) 0
def Z22 (x0 : coalesce_place) (x1 : coalesce_place) (Φ : Int → Prop) : Prop :=
 ∃ v1 : Int × Unit, Z21 x0.volume x1.volume (fun z => (z, ()) = v1) ∧
 ∃ v2 : Int × Unit, Z21 x0.sector x1.sector (fun z => (z, ()) = v2) ∧
 ∃ v3 : Int × Unit, cmp_Or_int_W ([v1.1, v2.1] : List Int) (fun z => (z, ()) = v3) ∧
 Φ v3.1
def pleB (a b : coalesce_place) : Bool := decide (a.volume < b.volume ∨ a.volume = b.volume ∧ a.sector ≤ b.sector)
def Z23 (xs : List coalesce_place) (Φ : List coalesce_place → Prop) : Prop := xs.length ≤ 1099511627776 ∧ Φ (sortG pleB xs)
def Z24 (x0 : List api_Write) (v3 : Int) (rec2 : (Int × (List (coalesce_place × Sec))) → Prop) (_ : List api_Write × Int → Prop) : (Int × Int × Int × (List (coalesce_place × Sec))) → ((Int × Int × Int × (List (coalesce_place × Sec))) → Prop) → Prop
 | (v5, v6, v7, v8), rec3 =>
 (v5 < (((ix x0 v3).Data).length : Int) →
 inX v5 ((ix x0 v3).Data).length ∧
 Z19 (coalesce_place.mk v6 v7) fun v9 =>
 inI (v5 + 1) ∧
 rec3 ((v5 + 1), v9.volume, v9.sector, (mput v8 (coalesce_place.mk v6 v7) (ix ((ix x0 v3).Data) v5)))) ∧
 (¬ (v5 < (((ix x0 v3).Data).length : Int)) →
 inI (v3 + 1) ∧
 rec2 ((v3 + 1), v8))
def Z25 (v4 : List (coalesce_place × Sec)) (v13 : List coalesce_place) (v14 : Int) (rec5 : (Int × Int × Int × List api_Write × List Sec) → Prop) (_ : List api_Write × Int → Prop) : List api_Write × List Sec → Prop
 | (v19, v20) =>
 inI ((v19.length : Int) - 1) ∧
 inX ((v19.length : Int) - 1) v19.length ∧
 ((v19.length : Int) - 1) + 1 = (v19.length : Int) ∧
 lenOk (v20 ++ ([(mget v4 (ix v13 v14) sec0)] : List Sec)).length 8 ∧
 Z19 (ix v13 v14) fun v21 =>
 inI (v14 + 1) ∧
 rec5 ((v14 + 1), v21.volume, v21.sector, v19, (v20 ++ ([(mget v4 (ix v13 v14) sec0)] : List Sec)))
def Z26 (v4 : List (coalesce_place × Sec)) (v13 : List coalesce_place) (Φ : List api_Write × Int → Prop) : (Int × Int × Int × List api_Write × List Sec) → ((Int × Int × Int × List api_Write × List Sec) → Prop) → Prop
 | (v14, v15, v16, v17, v18), rec5 =>
 (v14 < (v13.length : Int) →
 inX v14 v13.length ∧
 Join (Z25 v4 v13 v14 rec5 Φ) fun J6 =>
 ((ix v13 v14) ≠ (coalesce_place.mk v15 v16) →
 lenOk ((put v17 ((v17.length : Int) - 1) (api_Write.mk ((ix v17 ((v17.length : Int) - 1)).Volume) ((ix v17 ((v17.length : Int) - 1)).Start) v18)) ++ ([(api_Write.mk ((ix v13 v14).volume) ((ix v13 v14).sector) ([] : List Sec))] : List api_Write)).length 40 ∧
 J6 (((put v17 ((v17.length : Int) - 1) (api_Write.mk ((ix v17 ((v17.length : Int) - 1)).Volume) ((ix v17 ((v17.length : Int) - 1)).Start) v18)) ++ ([(api_Write.mk ((ix v13 v14).volume) ((ix v13 v14).sector) ([] : List Sec))] : List api_Write)), ([] : List Sec))) ∧
 (¬ ((ix v13 v14) ≠ (coalesce_place.mk v15 v16)) →
 J6 (v17, v18))) ∧
 (¬ (v14 < (v13.length : Int)) →
 Φ ((put v17 ((v17.length : Int) - 1) (api_Write.mk ((ix v17 ((v17.length : Int) - 1)).Volume) ((ix v17 ((v17.length : Int) - 1)).Start) v18)), 0))
def Z27 (v4 : List (coalesce_place × Sec)) (Φ : List api_Write × Int → Prop) : (((Nat × List Nat)) × List coalesce_place) → ((((Nat × List Nat)) × List coalesce_place) → Prop) → Prop
 | (v10, v11), rec4 =>
 v4.length = v10.1 ∧ ((∀ i, i < v4.length → i ∈ v10.2) →
 Z23 v11 fun v13 =>
 LoopW (Z26 v4 v13 Φ) (0, (-1), 0, ([] : List api_Write), ([] : List Sec))) ∧
 ∀ i12, i12 < v4.length → i12 ∉ v10.2 →
 v4.length = v10.1 ∧
 i12 < v4.length ∧
 lenOk (v11 ++ ([((ent v4 i12).1)] : List coalesce_place)).length 16 ∧
 rec4 ((v10.1, (i12 :: v10.2)), (v11 ++ ([((ent v4 i12).1)] : List coalesce_place)))
def Z28 (x0 : List api_Write) (Φ : List api_Write × Int → Prop) : (Int × (List (coalesce_place × Sec))) → ((Int × (List (coalesce_place × Sec))) → Prop) → Prop
 | (v3, v4), rec2 =>
 (v3 < (x0.length : Int) →
 inX v3 x0.length ∧
 LoopW (Z24 x0 v3 rec2 Φ) (0, (ix x0 v3).Volume, (ix x0 v3).Start, v4)) ∧
 (¬ (v3 < (x0.length : Int)) →
 0 ≤ (v4.length : Int) ∧
 lenOk (v4.length : Int).toNat 16 ∧
 LoopW (Z27 v4 Φ) ((v4.length, []), ([] : List coalesce_place)))
def Z29 (x0 : List api_Write) (Φ : List api_Write × Int → Prop) : (Int) → ((Int) → Prop) → Prop
 | v1, rec1 =>
 (v1 < (x0.length : Int) →
 inX v1 x0.length ∧
 Z18 (ix x0 v1) fun v2 =>
 (v2 ≠ 0 →
 Φ (([] : List api_Write), v2)) ∧
 (¬ (v2 ≠ 0) →
 inI (v1 + 1) ∧
 rec1 (v1 + 1))) ∧
 (¬ (v1 < (x0.length : Int)) →
 LoopW (Z28 x0 Φ) (0, ([] : List (coalesce_place × Sec))))
def Z30 (x0 : List api_Write) (Φ : List api_Write × Int → Prop) : Prop :=
 LoopW (Z29 x0 Φ) 0
def Z31 (v1 : api_Write) (v2 : List Sec) (rec1 : (List (Int × api_Write × Unit) × List Sec) → Prop) (v3 : Int × api_Write × Unit) (r4 : List (Int × api_Write × Unit)) (_ : api_Write → Prop) : (Int × List Sec) → ((Int × List Sec) → Prop) → Prop
 | (v6, v7), rec3 =>
 (v6 < (v2.length : Int) →
 inI (v1.Start + v6) ∧
 inI ((v1.Start + v6) - v3.2.1.Start) ∧
 inI ((v3.2.1.Data.length : Int) - 1) ∧
 cycle_in_W ((v1.Start + v6) - v3.2.1.Start) 0 ((v3.2.1.Data.length : Int) - 1) fun v8 =>
 (v8 = true →
 inX ((v1.Start + v6) - v3.2.1.Start) v3.2.1.Data.length ∧
 inX v6 v7.length ∧
 inI (v6 + 1) ∧
 rec3 ((v6 + 1), (put v7 v6 (ix v3.2.1.Data ((v1.Start + v6) - v3.2.1.Start))))) ∧
 (¬ (v8 = true) →
 inI (v6 + 1) ∧
 rec3 ((v6 + 1), v7))) ∧
 (¬ (v6 < (v2.length : Int)) →
 rec1 (r4, v7))
def Z32 (v1 : api_Write) (v2 : List Sec) (rec1 : (List (Int × api_Write × Unit) × List Sec) → Prop) (v3 : Int × api_Write × Unit) (r4 : List (Int × api_Write × Unit)) (Φ : api_Write → Prop) : Bool → Prop
 | v5 =>
 (v5 = true →
 rec1 (r4, v2)) ∧
 (¬ (v5 = true) →
 LoopW (Z31 v1 v2 rec1 v3 r4 Φ) (0, v2))
def Z33 (x1 : Int) (v1 : api_Write) (Φ : api_Write → Prop) : (List (Int × api_Write × Unit) × List Sec) → ((List (Int × api_Write × Unit) × List Sec) → Prop) → Prop
 | (lst, v2), rec1 =>
 match lst with
 | [] =>
 Φ (api_Write.mk v1.Volume v1.Start v2)
 | v3 :: r4 =>
 Join (Z32 v1 v2 rec1 v3 r4 Φ) fun J2 =>
 (v3.1 < x1 →
 J2 true) ∧
 (¬ (v3.1 < x1) →
 J2 (decide (v3.2.1.Volume ≠ v1.Volume)))
def Z34 (x0 : cycle_division) (x1 : Int) (x2 : api_Write) (Φ : api_Write → Prop) : Prop :=
 Z12 x2 fun v1 =>
 ∃ l9 : List (Int × api_Write × Unit), cycle_division_writes_1_I x0 true l9 ∧
 LoopW (Z33 x1 v1 Φ) (l9, v1.Data)
def Z35 (x0 : api_Capture) (x1 : Int) (v12 : List Bool) (v18 : List api_Write × Int) (v19 : List Int × Unit) (v20 : List Int × Unit) (v21 : List Int × Unit) (Φ : api_Capture × api_Cycle × Int → Prop) : (List (Int × api_Write × Unit) × (List Int × List api_Write)) → ((List (Int × api_Write × Unit) × (List Int × List api_Write)) → Prop) → Prop
 | (lst, v22, v23), rec6 =>
 match lst with
 | [] =>
 Φ ((api_Capture.mk (x0.Number + 1) v20.1 v21.1 v22 v23), (api_Cycle.mk x0.Number (x0.Number + 1) x1 v19.1 v18.1), 0)
 | v24 :: r25 =>
 inX v24.1 x0.Nodes.length ∧
 lenOk (v22 ++ ([(ix x0.Nodes v24.1)] : List Int)).length 8 ∧
 ∃ v26 : api_Write × Unit, Z34 (cycle_division.mk x0 v12) v24.1 v24.2.1 (fun z => (z, ()) = v26) ∧
 lenOk (v23 ++ ([v26.1] : List api_Write)).length 40 ∧
 rec6 (r25, ((v22 ++ ([(ix x0.Nodes v24.1)] : List Int)), (v23 ++ ([v26.1] : List api_Write))))
def Z36 (x0 : api_Capture) (x1 : Int) (x2 : List Int) (v12 : List Bool) (Φ : api_Capture × api_Cycle × Int → Prop) : (List (Int × api_Write × Unit) × List api_Write) → ((List (Int × api_Write × Unit) × List api_Write) → Prop) → Prop
 | (lst, v15), rec5 =>
 match lst with
 | [] =>
 Z30 v15 fun v18 =>
 (¬ (v18.2 = 0) →
 Φ ((api_Capture.mk 0 ([] : List Int) ([] : List Int) ([] : List Int) ([] : List api_Write)), (api_Cycle.mk 0 0 0 ([] : List Int) ([] : List api_Write)), v18.2)) ∧
 (¬ (¬ (v18.2 = 0)) →
 inI (x0.Number + 1) ∧
 ∃ v19 : List Int × Unit, Z4 x2 (fun z => (z, ()) = v19) ∧
 inI (x0.Number + 1) ∧
 ∃ v20 : List Int × Unit, Z4 x0.Sizes (fun z => (z, ()) = v20) ∧
 ∃ v21 : List Int × Unit, Z4 x2 (fun z => (z, ()) = v21) ∧
 ∃ l27 : List (Int × api_Write × Unit), cycle_division_writes_1_I (cycle_division.mk x0 v12) false l27 ∧
 LoopW (Z35 x0 x1 v12 v18 v19 v20 v21 Φ) (l27, (([] : List Int), ([] : List api_Write))))
 | v16 :: r17 =>
 lenOk (v15 ++ ([v16.2.1] : List api_Write)).length 40 ∧
 rec5 (r17, (v15 ++ ([v16.2.1] : List api_Write)))
def Z37 (x0 : api_Capture) (x1 : Int) (v12 : List Bool) (v32 : List api_Write × Int) (v33 : List Int × Unit) (v34 : List Int × Unit) (v35 : List Int × Unit) (Φ : api_Capture × api_Cycle × Int → Prop) : (List (Int × api_Write × Unit) × (List Int × List api_Write)) → ((List (Int × api_Write × Unit) × (List Int × List api_Write)) → Prop) → Prop
 | (lst, v36, v37), rec8 =>
 match lst with
 | [] =>
 Φ ((api_Capture.mk (x0.Number + 1) v34.1 v35.1 v36 v37), (api_Cycle.mk x0.Number (x0.Number + 1) x1 v33.1 v32.1), 0)
 | v38 :: r39 =>
 inX v38.1 x0.Nodes.length ∧
 lenOk (v36 ++ ([(ix x0.Nodes v38.1)] : List Int)).length 8 ∧
 ∃ v40 : api_Write × Unit, Z34 (cycle_division.mk x0 v12) v38.1 v38.2.1 (fun z => (z, ()) = v40) ∧
 lenOk (v37 ++ ([v40.1] : List api_Write)).length 40 ∧
 rec8 (r39, ((v36 ++ ([(ix x0.Nodes v38.1)] : List Int)), (v37 ++ ([v40.1] : List api_Write))))
def Z38 (x0 : api_Capture) (x1 : Int) (x2 : List Int) (v12 : List Bool) (Φ : api_Capture × api_Cycle × Int → Prop) : (List (Int × api_Write × Unit) × List api_Write) → ((List (Int × api_Write × Unit) × List api_Write) → Prop) → Prop
 | (lst, v29), rec7 =>
 match lst with
 | [] =>
 Z30 v29 fun v32 =>
 (¬ (v32.2 = 0) →
 Φ ((api_Capture.mk 0 ([] : List Int) ([] : List Int) ([] : List Int) ([] : List api_Write)), (api_Cycle.mk 0 0 0 ([] : List Int) ([] : List api_Write)), v32.2)) ∧
 (¬ (¬ (v32.2 = 0)) →
 inI (x0.Number + 1) ∧
 ∃ v33 : List Int × Unit, Z4 x2 (fun z => (z, ()) = v33) ∧
 inI (x0.Number + 1) ∧
 ∃ v34 : List Int × Unit, Z4 x0.Sizes (fun z => (z, ()) = v34) ∧
 ∃ v35 : List Int × Unit, Z4 x2 (fun z => (z, ()) = v35) ∧
 ∃ l41 : List (Int × api_Write × Unit), cycle_division_writes_1_I (cycle_division.mk x0 v12) false l41 ∧
 LoopW (Z37 x0 x1 v12 v32 v33 v34 v35 Φ) (l41, (([] : List Int), ([] : List api_Write))))
 | v30 :: r31 =>
 lenOk (v29 ++ ([v30.2.1] : List api_Write)).length 40 ∧
 rec7 (r31, (v29 ++ ([v30.2.1] : List api_Write)))
def Z39 (x0 : api_Capture) (x1 : Int) (x2 : List Int) (v11 : List Int) (v12 : List Bool) (Φ : api_Capture × api_Cycle × Int → Prop) : (Int) → ((Int) → Prop) → Prop
 | v13, rec4 =>
 (v13 < (v11.length : Int) →
 inX v13 v11.length ∧
 Z15 (ix v11 v13) fun v14 =>
 (v14 = true →
 (¬ (¬ (0 ≤ v13)) →
 Φ ((api_Capture.mk 0 ([] : List Int) ([] : List Int) ([] : List Int) ([] : List api_Write)), (api_Cycle.mk 0 0 0 ([] : List Int) ([] : List api_Write)), 2)) ∧
 (¬ (¬ (¬ (0 ≤ v13))) →
 ∃ l28 : List (Int × api_Write × Unit), cycle_division_writes_1_I (cycle_division.mk x0 v12) true l28 ∧
 LoopW (Z36 x0 x1 x2 v12 Φ) (l28, ([] : List api_Write)))) ∧
 (¬ (v14 = true) →
 inI (v13 + 1) ∧
 rec4 (v13 + 1))) ∧
 (¬ (v13 < (v11.length : Int)) →
 (¬ (¬ (0 ≤ ((-1) : Int))) →
 Φ ((api_Capture.mk 0 ([] : List Int) ([] : List Int) ([] : List Int) ([] : List api_Write)), (api_Cycle.mk 0 0 0 ([] : List Int) ([] : List api_Write)), 2)) ∧
 (¬ (¬ (¬ (0 ≤ ((-1) : Int)))) →
 ∃ l42 : List (Int × api_Write × Unit), cycle_division_writes_1_I (cycle_division.mk x0 v12) true l42 ∧
 LoopW (Z38 x0 x1 x2 v12 Φ) (l42, ([] : List api_Write))))
def Z40 (x0 : api_Capture) (x1 : Int) (x2 : List Int) (Φ : api_Capture × api_Cycle × Int → Prop) : (Int × List Int × List Bool) → ((Int × List Int × List Bool) → Prop) → Prop
 | (v10, v11, v12), rec3 =>
 (v10 < (x0.Nodes.length : Int) →
 inX v10 x0.Nodes.length ∧
 inX (ix x0.Nodes v10) v11.length ∧
 lenOk (v12 ++ ([decide (0 < (ix v11 (ix x0.Nodes v10)))] : List Bool)).length 1 ∧
 inX (ix x0.Nodes v10) v11.length ∧
 inI ((ix v11 (ix x0.Nodes v10)) - 1) ∧
 inX (ix x0.Nodes v10) v11.length ∧
 inI (v10 + 1) ∧
 rec3 ((v10 + 1), (put v11 (ix x0.Nodes v10) (if ((ix v11 (ix x0.Nodes v10)) - 1) < 0 then 0 else ((ix v11 (ix x0.Nodes v10)) - 1))), (v12 ++ ([decide (0 < (ix v11 (ix x0.Nodes v10)))] : List Bool)))) ∧
 (¬ (v10 < (x0.Nodes.length : Int)) →
 LoopW (Z39 x0 x1 x2 v11 v12 Φ) 0)
def Z41 (x0 : api_Capture) (x1 : Int) (x2 : List Int) (Φ : api_Capture × api_Cycle × Int → Prop) : (Int × List Int) → ((Int × List Int) → Prop) → Prop
 | (v8, v9), rec2 =>
 (v8 < (x2.length : Int) →
 inX v8 x2.length ∧
 inX v8 x0.Positions.length ∧
 inX v8 v9.length ∧
 inX v8 (put v9 v8 (Go.IntKind.wrap Go.IntKind.i64 ((ix x2 v8) - (ix x0.Positions v8)))).length ∧
 (¬ (0 ≤ (ix (put v9 v8 (Go.IntKind.wrap Go.IntKind.i64 ((ix x2 v8) - (ix x0.Positions v8)))) v8)) →
 Φ ((api_Capture.mk 0 ([] : List Int) ([] : List Int) ([] : List Int) ([] : List api_Write)), (api_Cycle.mk 0 0 0 ([] : List Int) ([] : List api_Write)), 2)) ∧
 (¬ (¬ (0 ≤ (ix (put v9 v8 (Go.IntKind.wrap Go.IntKind.i64 ((ix x2 v8) - (ix x0.Positions v8)))) v8))) →
 inI (v8 + 1) ∧
 rec2 ((v8 + 1), (put v9 v8 (Go.IntKind.wrap Go.IntKind.i64 ((ix x2 v8) - (ix x0.Positions v8))))))) ∧
 (¬ (v8 < (x2.length : Int)) →
 LoopW (Z40 x0 x1 x2 Φ) (0, v9, ([] : List Bool)))
def Z42 (x0 : api_Capture) (x1 : Int) (x2 : List Int) (v1 : List (List Sec) × Int) (Φ : api_Capture × api_Cycle × Int → Prop) : (Int) → ((Int) → Prop) → Prop
 | v4, rec1 =>
 (v4 < (x0.Writes.length : Int) →
 inX v4 x0.Writes.length ∧
 inX v4 x0.Nodes.length ∧
 inI ((x0.Positions.length : Int) - 1) ∧
 cycle_in_W (ix x0.Nodes v4) 0 ((x0.Positions.length : Int) - 1) fun v5 =>
 (¬ (v5 = true) →
 Φ ((api_Capture.mk 0 ([] : List Int) ([] : List Int) ([] : List Int) ([] : List api_Write)), (api_Cycle.mk 0 0 0 ([] : List Int) ([] : List api_Write)), 7)) ∧
 (¬ (¬ (v5 = true)) →
 image_Fits_W v1.1 (ix x0.Writes v4) fun v6 =>
 (¬ (v6 = 0) →
 Φ ((api_Capture.mk 0 ([] : List Int) ([] : List Int) ([] : List Int) ([] : List api_Write)), (api_Cycle.mk 0 0 0 ([] : List Int) ([] : List api_Write)), v6)) ∧
 (¬ (¬ (v6 = 0)) →
 inI (v4 + 1) ∧
 rec1 (v4 + 1)))) ∧
 (¬ (v4 < (x0.Writes.length : Int)) →
 cycle_in_W x1 0 1073741824 fun v7 =>
 (¬ (v7 = true) →
 Φ ((api_Capture.mk 0 ([] : List Int) ([] : List Int) ([] : List Int) ([] : List api_Write)), (api_Cycle.mk 0 0 0 ([] : List Int) ([] : List api_Write)), 24)) ∧
 (¬ (¬ (v7 = true)) →
 (¬ ((x2.length : Int) = (x0.Positions.length : Int)) →
 Φ ((api_Capture.mk 0 ([] : List Int) ([] : List Int) ([] : List Int) ([] : List api_Write)), (api_Cycle.mk 0 0 0 ([] : List Int) ([] : List api_Write)), 6)) ∧
 (¬ (¬ ((x2.length : Int) = (x0.Positions.length : Int))) →
 0 ≤ (x2.length : Int) ∧
 lenOk (x2.length : Int).toNat 8 ∧
 LoopW (Z41 x0 x1 x2 Φ) (0, (List.replicate (x2.length : Int).toNat (0 : Int))))))
def cycle_Close_W (x0 : api_Capture) (x1 : Int) (x2 : List Int) (Φ : api_Capture × api_Cycle × Int → Prop) : Prop :=
 image_New_W x0.Sizes fun v1 =>
 (¬ (v1.2 = 0) →
 Φ ((api_Capture.mk 0 ([] : List Int) ([] : List Int) ([] : List Int) ([] : List api_Write)), (api_Cycle.mk 0 0 0 ([] : List Int) ([] : List api_Write)), v1.2)) ∧
 (¬ (¬ (v1.2 = 0)) →
 cycle_in_W x0.Number 0 1073741823 fun v2 =>
 (¬ (v2 = true) →
 Φ ((api_Capture.mk 0 ([] : List Int) ([] : List Int) ([] : List Int) ([] : List api_Write)), (api_Cycle.mk 0 0 0 ([] : List Int) ([] : List api_Write)), 2)) ∧
 (¬ (¬ (v2 = true)) →
 Z8 x0.Positions 1 fun v3 =>
 (¬ (v3 = 0) →
 Φ ((api_Capture.mk 0 ([] : List Int) ([] : List Int) ([] : List Int) ([] : List api_Write)), (api_Cycle.mk 0 0 0 ([] : List Int) ([] : List api_Write)), v3)) ∧
 (¬ (¬ (v3 = 0)) →
 ((x0.Nodes.length : Int) = (x0.Writes.length : Int) →
 (¬ ((x0.Writes.length : Int) ≤ 4096) →
 Φ ((api_Capture.mk 0 ([] : List Int) ([] : List Int) ([] : List Int) ([] : List api_Write)), (api_Cycle.mk 0 0 0 ([] : List Int) ([] : List api_Write)), 6)) ∧
 (¬ (¬ ((x0.Writes.length : Int) ≤ 4096)) →
 LoopW (Z42 x0 x1 x2 v1 Φ) 0)) ∧
 (¬ ((x0.Nodes.length : Int) = (x0.Writes.length : Int)) →
 Φ ((api_Capture.mk 0 ([] : List Int) ([] : List Int) ([] : List Int) ([] : List api_Write)), (api_Cycle.mk 0 0 0 ([] : List Int) ([] : List api_Write)), 6)))))
def Z43 (x0 : List Sec) (x1 : List Sec) (Φ : Bool → Prop) : (Int) → ((Int) → Prop) → Prop
 | v1, rec1 =>
 (v1 < (x0.length : Int) →
 inX v1 x0.length ∧
 inX v1 x1.length ∧
 ((ix x0 v1) ≠ (ix x1 v1) →
 Φ false) ∧
 (¬ ((ix x0 v1) ≠ (ix x1 v1)) →
 inI (v1 + 1) ∧
 rec1 (v1 + 1))) ∧
 (¬ (v1 < (x0.length : Int)) →
 Φ true)
def Z44 (x0 : List Sec) (x1 : List Sec) (Φ : Bool → Prop) : Prop :=
 ((x0.length : Int) ≠ (x1.length : Int) →
 Φ false) ∧
 (¬ ((x0.length : Int) ≠ (x1.length : Int)) →
 LoopW (Z43 x0 x1 Φ) 0)
def Z45 (x0 : List api_Write) (x1 : List api_Write) (Φ : Bool → Prop) : (Int) → ((Int) → Prop) → Prop
 | v1, rec1 =>
 (v1 < (x0.length : Int) →
 inX v1 x0.length ∧
 inX v1 x1.length ∧
 (((ix x0 v1).Volume) ≠ ((ix x1 v1).Volume) →
 Φ false) ∧
 (¬ (((ix x0 v1).Volume) ≠ ((ix x1 v1).Volume)) →
 inX v1 x0.length ∧
 inX v1 x1.length ∧
 (((ix x0 v1).Start) ≠ ((ix x1 v1).Start) →
 Φ false) ∧
 (¬ (((ix x0 v1).Start) ≠ ((ix x1 v1).Start)) →
 inX v1 x0.length ∧
 inX v1 x1.length ∧
 ∃ v2 : Bool × Unit, Z44 ((ix x0 v1).Data) ((ix x1 v1).Data) (fun z => (z, ()) = v2) ∧
 (¬ (v2.1 = true) →
 Φ false) ∧
 (¬ (¬ (v2.1 = true)) →
 inI (v1 + 1) ∧
 rec1 (v1 + 1))))) ∧
 (¬ (v1 < (x0.length : Int)) →
 Φ true)
def Z46 (x0 : List api_Write) (x1 : List api_Write) (Φ : Bool → Prop) : Prop :=
 ((x0.length : Int) ≠ (x1.length : Int) →
 Φ false) ∧
 (¬ ((x0.length : Int) ≠ (x1.length : Int)) →
 LoopW (Z45 x0 x1 Φ) 0)
def ref22_Same_W (x0 : List api_Write) (x1 : List api_Write) (Φ : Bool → Prop) : Prop :=
 Z46 x0 x1 fun v1 =>
 Φ v1
def Z47 (x0 : BitVec 64) (x1 : BitVec 64) (Φ : BitVec 64 × BitVec 64 → Prop) : Prop :=
 Φ (((((x0 >>> ((32#64).toNat : Int).toNat) * (x1 >>> ((32#64).toNat : Int).toNat)) + ((((x0 >>> ((32#64).toNat : Int).toNat) * (x1 &&& (4294967295#64))) + (((x0 &&& (4294967295#64)) * (x1 &&& (4294967295#64))) >>> ((32#64).toNat : Int).toNat)) >>> ((32#64).toNat : Int).toNat)) + ((((((x0 >>> ((32#64).toNat : Int).toNat) * (x1 &&& (4294967295#64))) + (((x0 &&& (4294967295#64)) * (x1 &&& (4294967295#64))) >>> ((32#64).toNat : Int).toNat)) &&& (4294967295#64)) + ((x0 &&& (4294967295#64)) * (x1 >>> ((32#64).toNat : Int).toNat))) >>> ((32#64).toNat : Int).toNat)), (x0 * x1))
def Z48 (x0 : BitVec 64) (x1 : BitVec 64) (Φ : BitVec 64 × BitVec 64 → Prop) : Prop :=
 Z47 x0 x1 fun v1 =>
 Φ (v1.1, v1.2)
def Z49 (Φ : List Int → Prop) : (Int × List Int) → ((Int × List Int) → Prop) → Prop
 | (v3, v4), rec2 =>
 (v3 < (v4.length : Int) →
 inS v3 (v4.length : Int) v4.length ∧
 inS 0 v3 v4.length ∧
 inI (v3 + ((min (sub v4 0 v3).length (v4.length - (v3 : Int).toNat) : Nat) : Int)) ∧
 rec2 ((v3 + ((min (sub v4 0 v3).length (v4.length - (v3 : Int).toNat) : Nat) : Int)), (paste v4 v3 (sub v4 0 v3)))) ∧
 (¬ (v3 < (v4.length : Int)) →
 Φ v4)
def Z50 (x0 : List Int) (v1 : BitVec 64 × BitVec 64) (Φ : List Int → Prop) : Bool → Prop
 | v2 =>
 (v2 = true →
 False) ∧
 (¬ (v2 = true) →
 0 ≤ v1.2.toInt ∧
 lenOk v1.2.toInt.toNat 8 ∧
 LoopW (Z49 Φ) (((min x0.length ((List.replicate v1.2.toInt.toNat (0 : Int)).length - (0 : Int).toNat) : Nat) : Int), (paste (List.replicate v1.2.toInt.toNat (0 : Int)) 0 x0)))
def Z51 (x0 : List Int) (x1 : Int) (Φ : List Int → Prop) : Prop :=
 (x1 < 0 →
 False) ∧
 (¬ (x1 < 0) →
 Z48 (BitVec.ofInt 64 (x0.length : Int)) (BitVec.ofInt 64 x1) fun v1 =>
 Join (Z50 x0 v1 Φ) fun J1 =>
 ((0#64) < v1.1 →
 J1 true) ∧
 (¬ ((0#64) < v1.1) →
 J1 (decide ((9223372036854775807#64) < v1.2))))
def Z52 (Φ : List Int → Prop) : Prop :=
 Z51 ([4096] : List Int) 8 fun v1 =>
 Φ v1
def Z53 (x0 : List api_Write) (v1 : List (List Sec) × Int) (Φ : Int → Prop) : (Int) → ((Int) → Prop) → Prop
 | v2, rec1 =>
 (v2 < (x0.length : Int) →
 inX v2 x0.length ∧
 image_Fits_W v1.1 (ix x0 v2) fun v3 =>
 (v3 ≠ 0 →
 Φ v3) ∧
 (¬ (v3 ≠ 0) →
 (v2 = 0 →
 inI (v2 + 1) ∧
 rec1 (v2 + 1)) ∧
 (¬ (v2 = 0) →
 inI (v2 - 1) ∧
 inX (v2 - 1) x0.length ∧
 (((ix x0 v2).Volume) < ((ix x0 (v2 - 1)).Volume) →
 Φ 3) ∧
 (¬ (((ix x0 v2).Volume) < ((ix x0 (v2 - 1)).Volume)) →
 (((ix x0 v2).Volume) = ((ix x0 (v2 - 1)).Volume) →
 inI (((ix x0 (v2 - 1)).Start) + (((ix x0 (v2 - 1)).Data).length : Int)) ∧
 (((ix x0 v2).Start) ≤ (((ix x0 (v2 - 1)).Start) + (((ix x0 (v2 - 1)).Data).length : Int)) →
 Φ 3) ∧
 (¬ (((ix x0 v2).Start) ≤ (((ix x0 (v2 - 1)).Start) + (((ix x0 (v2 - 1)).Data).length : Int))) →
 inI (v2 + 1) ∧
 rec1 (v2 + 1))) ∧
 (¬ (((ix x0 v2).Volume) = ((ix x0 (v2 - 1)).Volume)) →
 inI (v2 + 1) ∧
 rec1 (v2 + 1)))))) ∧
 (¬ (v2 < (x0.length : Int)) →
 Φ 0)
def Z54 (x0 : List api_Write) (x1 : List Int) (Φ : Int → Prop) : Prop :=
 image_New_W x1 fun v1 =>
 (v1.2 ≠ 0 →
 Φ v1.2) ∧
 (¬ (v1.2 ≠ 0) →
 LoopW (Z53 x0 v1 Φ) 0)
def Z55 (x0 : api_Cycle) (x1 : List Int) (Φ : Int → Prop) : Bool → Prop
 | v2 =>
 (v2 = true →
 Φ 2) ∧
 (¬ (v2 = true) →
 cycle_in_W x0.Time 0 1073741824 fun v3 =>
 (¬ (v3 = true) →
 Φ 24) ∧
 (¬ (¬ (v3 = true)) →
 Z8 x0.Positions 0 fun v4 =>
 (v4 ≠ 0 →
 Φ v4) ∧
 (¬ (v4 ≠ 0) →
 Z54 x0.Writes x1 fun v5 =>
 Φ v5)))
def cycle_Check_W (x0 : api_Cycle) (x1 : List Int) (Φ : Int → Prop) : Prop :=
 image_New_W x1 fun v1 =>
 (v1.2 ≠ 0 →
 Φ v1.2) ∧
 (¬ (v1.2 ≠ 0) →
 Join (Z55 x0 x1 Φ) fun J1 =>
 (x0.Base < 0 →
 J1 true) ∧
 (¬ (x0.Base < 0) →
 (x0.Number ≤ x0.Base →
 J1 true) ∧
 (¬ (x0.Number ≤ x0.Base) →
 J1 (decide (1073741824 < x0.Number)))))
def Z56 (x0 : List (List api_Write)) (Φ : List api_Write → Prop) : (Int × List api_Write) → ((Int × List api_Write) → Prop) → Prop
 | (v4, v5), rec3 =>
 (v4 < (x0.length : Int) →
 inX v4 x0.length ∧
 lenOk (v5 ++ (ix x0 v4)).length 40 ∧
 inI (v4 + 1) ∧
 rec3 ((v4 + 1), (v5 ++ (ix x0 v4)))) ∧
 (¬ (v4 < (x0.length : Int)) →
 Φ v5)
def Z57 (x0 : List (List api_Write)) (Φ : List api_Write → Prop) : List api_Write → Prop
 | v3 =>
 LoopW (Z56 x0 Φ) (0, v3)
def Z58 (x0 : List (List api_Write)) (Φ : List api_Write → Prop) : (Int × Int) → ((Int × Int) → Prop) → Prop
 | (v1, v2), rec1 =>
 (v2 < (x0.length : Int) →
 inX v2 x0.length ∧
 inI (v1 + ((ix x0 v2).length : Int)) ∧
 ((v1 + ((ix x0 v2).length : Int)) < 0 →
 False) ∧
 (¬ ((v1 + ((ix x0 v2).length : Int)) < 0) →
 inI (v2 + 1) ∧
 rec1 ((v1 + ((ix x0 v2).length : Int)), (v2 + 1)))) ∧
 (¬ (v2 < (x0.length : Int)) →
 Join (Z57 x0 Φ) fun J2 =>
 (v1 < 0 →
 False) ∧
 (¬ (v1 < 0) →
 inI ((0 : Int) - 0) ∧
 inI (v1 - ((0 : Int) - 0)) ∧
 (0 < (v1 - ((0 : Int) - 0)) →
 (0 : Int) = 0 ∧
 (0 : Int) < (v1 - ((0 : Int) - 0)) ∧
 lenOk (v1 - ((0 : Int) - 0)).toNat 40 ∧
 inS 0 0 (List.replicate (v1 - ((0 : Int) - 0)).toNat ((api_Write.mk 0 0 ([] : List Sec)) : api_Write)).length ∧
 J2 (sub (List.replicate (v1 - ((0 : Int) - 0)).toNat ((api_Write.mk 0 0 ([] : List Sec)) : api_Write)) 0 0)) ∧
 (¬ (0 < (v1 - ((0 : Int) - 0))) →
 J2 ([] : List api_Write))))
def Z59 (x0 : List (List api_Write)) (Φ : List api_Write → Prop) : Prop :=
 LoopW (Z58 x0 Φ) (0, 0)
def Z60 (v1 : Int) (rec1 : (Int) → Prop) (Φ : List api_Write × Int → Prop) : Int → Prop
 | v2 =>
 (v2 ≠ 0 →
 Φ (([] : List api_Write), v2)) ∧
 (¬ (v2 ≠ 0) →
 inI (v1 + 1) ∧
 rec1 (v1 + 1))
def Z61 (x0 : List api_Write) (x1 : List api_Write) (v1 : Int) (rec1 : (Int) → Prop) (Φ : List api_Write × Int → Prop) : (Int) → ((Int) → Prop) → Prop
 | v3, rec3 =>
 (v3 < ((ix ([x0, x1] : List (List api_Write)) v1).length : Int) →
 inX v3 (ix ([x0, x1] : List (List api_Write)) v1).length ∧
 Z18 (ix (ix ([x0, x1] : List (List api_Write)) v1) v3) fun v4 =>
 (v4 ≠ 0 →
 Z60 v1 rec1 Φ v4) ∧
 (¬ (v4 ≠ 0) →
 (v3 = 0 →
 inI (v3 + 1) ∧
 rec3 (v3 + 1)) ∧
 (¬ (v3 = 0) →
 inI (v3 - 1) ∧
 inX (v3 - 1) (ix ([x0, x1] : List (List api_Write)) v1).length ∧
 (((ix (ix ([x0, x1] : List (List api_Write)) v1) v3).Volume) < ((ix (ix ([x0, x1] : List (List api_Write)) v1) (v3 - 1)).Volume) →
 Z60 v1 rec1 Φ 3) ∧
 (¬ (((ix (ix ([x0, x1] : List (List api_Write)) v1) v3).Volume) < ((ix (ix ([x0, x1] : List (List api_Write)) v1) (v3 - 1)).Volume)) →
 (((ix (ix ([x0, x1] : List (List api_Write)) v1) v3).Volume) = ((ix (ix ([x0, x1] : List (List api_Write)) v1) (v3 - 1)).Volume) →
 inI (((ix (ix ([x0, x1] : List (List api_Write)) v1) (v3 - 1)).Start) + (((ix (ix ([x0, x1] : List (List api_Write)) v1) (v3 - 1)).Data).length : Int)) ∧
 (((ix (ix ([x0, x1] : List (List api_Write)) v1) v3).Start) ≤ (((ix (ix ([x0, x1] : List (List api_Write)) v1) (v3 - 1)).Start) + (((ix (ix ([x0, x1] : List (List api_Write)) v1) (v3 - 1)).Data).length : Int)) →
 Z60 v1 rec1 Φ 3) ∧
 (¬ (((ix (ix ([x0, x1] : List (List api_Write)) v1) v3).Start) ≤ (((ix (ix ([x0, x1] : List (List api_Write)) v1) (v3 - 1)).Start) + (((ix (ix ([x0, x1] : List (List api_Write)) v1) (v3 - 1)).Data).length : Int))) →
 inI (v3 + 1) ∧
 rec3 (v3 + 1))) ∧
 (¬ (((ix (ix ([x0, x1] : List (List api_Write)) v1) v3).Volume) = ((ix (ix ([x0, x1] : List (List api_Write)) v1) (v3 - 1)).Volume)) →
 inI (v3 + 1) ∧
 rec3 (v3 + 1)))))) ∧
 (¬ (v3 < ((ix ([x0, x1] : List (List api_Write)) v1).length : Int)) →
 Z60 v1 rec1 Φ 0)
def Z62 (v5 : List api_Write) (v6 : Int) (rec4 : (Int × (List (coalesce_place × Sec))) → Prop) (_ : List api_Write × Int → Prop) : (Int × Int × Int × (List (coalesce_place × Sec))) → ((Int × Int × Int × (List (coalesce_place × Sec))) → Prop) → Prop
 | (v8, v9, v10, v11), rec5 =>
 (v8 < (((ix v5 v6).Data).length : Int) →
 inX v8 ((ix v5 v6).Data).length ∧
 Z19 (coalesce_place.mk v9 v10) fun v12 =>
 inI (v8 + 1) ∧
 rec5 ((v8 + 1), v12.volume, v12.sector, (mput v11 (coalesce_place.mk v9 v10) (ix ((ix v5 v6).Data) v8)))) ∧
 (¬ (v8 < (((ix v5 v6).Data).length : Int)) →
 inI (v6 + 1) ∧
 rec4 ((v6 + 1), v11))
def Z63 (v7 : List (coalesce_place × Sec)) (v16 : List coalesce_place) (v17 : Int) (rec7 : (Int × Int × Int × List api_Write × List Sec) → Prop) (_ : List api_Write × Int → Prop) : List api_Write × List Sec → Prop
 | (v22, v23) =>
 inI ((v22.length : Int) - 1) ∧
 inX ((v22.length : Int) - 1) v22.length ∧
 ((v22.length : Int) - 1) + 1 = (v22.length : Int) ∧
 lenOk (v23 ++ ([(mget v7 (ix v16 v17) sec0)] : List Sec)).length 8 ∧
 Z19 (ix v16 v17) fun v24 =>
 inI (v17 + 1) ∧
 rec7 ((v17 + 1), v24.volume, v24.sector, v22, (v23 ++ ([(mget v7 (ix v16 v17) sec0)] : List Sec)))
def Z64 (v7 : List (coalesce_place × Sec)) (v16 : List coalesce_place) (Φ : List api_Write × Int → Prop) : (Int × Int × Int × List api_Write × List Sec) → ((Int × Int × Int × List api_Write × List Sec) → Prop) → Prop
 | (v17, v18, v19, v20, v21), rec7 =>
 (v17 < (v16.length : Int) →
 inX v17 v16.length ∧
 Join (Z63 v7 v16 v17 rec7 Φ) fun J8 =>
 ((ix v16 v17) ≠ (coalesce_place.mk v18 v19) →
 lenOk ((put v20 ((v20.length : Int) - 1) (api_Write.mk ((ix v20 ((v20.length : Int) - 1)).Volume) ((ix v20 ((v20.length : Int) - 1)).Start) v21)) ++ ([(api_Write.mk ((ix v16 v17).volume) ((ix v16 v17).sector) ([] : List Sec))] : List api_Write)).length 40 ∧
 J8 (((put v20 ((v20.length : Int) - 1) (api_Write.mk ((ix v20 ((v20.length : Int) - 1)).Volume) ((ix v20 ((v20.length : Int) - 1)).Start) v21)) ++ ([(api_Write.mk ((ix v16 v17).volume) ((ix v16 v17).sector) ([] : List Sec))] : List api_Write)), ([] : List Sec))) ∧
 (¬ ((ix v16 v17) ≠ (coalesce_place.mk v18 v19)) →
 J8 (v20, v21))) ∧
 (¬ (v17 < (v16.length : Int)) →
 Φ ((put v20 ((v20.length : Int) - 1) (api_Write.mk ((ix v20 ((v20.length : Int) - 1)).Volume) ((ix v20 ((v20.length : Int) - 1)).Start) v21)), 0))
def Z65 (v7 : List (coalesce_place × Sec)) (Φ : List api_Write × Int → Prop) : (((Nat × List Nat)) × List coalesce_place) → ((((Nat × List Nat)) × List coalesce_place) → Prop) → Prop
 | (v13, v14), rec6 =>
 v7.length = v13.1 ∧ ((∀ i, i < v7.length → i ∈ v13.2) →
 Z23 v14 fun v16 =>
 LoopW (Z64 v7 v16 Φ) (0, (-1), 0, ([] : List api_Write), ([] : List Sec))) ∧
 ∀ i15, i15 < v7.length → i15 ∉ v13.2 →
 v7.length = v13.1 ∧
 i15 < v7.length ∧
 lenOk (v14 ++ ([((ent v7 i15).1)] : List coalesce_place)).length 16 ∧
 rec6 ((v13.1, (i15 :: v13.2)), (v14 ++ ([((ent v7 i15).1)] : List coalesce_place)))
def Z66 (v5 : List api_Write) (Φ : List api_Write × Int → Prop) : (Int × (List (coalesce_place × Sec))) → ((Int × (List (coalesce_place × Sec))) → Prop) → Prop
 | (v6, v7), rec4 =>
 (v6 < (v5.length : Int) →
 inX v6 v5.length ∧
 LoopW (Z62 v5 v6 rec4 Φ) (0, (ix v5 v6).Volume, (ix v5 v6).Start, v7)) ∧
 (¬ (v6 < (v5.length : Int)) →
 0 ≤ (v7.length : Int) ∧
 lenOk (v7.length : Int).toNat 16 ∧
 LoopW (Z65 v7 Φ) ((v7.length, []), ([] : List coalesce_place)))
def Z67 (x0 : List api_Write) (x1 : List api_Write) (Φ : List api_Write × Int → Prop) : (Int) → ((Int) → Prop) → Prop
 | v1, rec1 =>
 (v1 < (([x0, x1] : List (List api_Write)).length : Int) →
 inX v1 ([x0, x1] : List (List api_Write)).length ∧
 LoopW (Z61 x0 x1 v1 rec1 Φ) 0) ∧
 (¬ (v1 < (([x0, x1] : List (List api_Write)).length : Int)) →
 Z59 ([x0, x1] : List (List api_Write)) fun v5 =>
 LoopW (Z66 v5 Φ) (0, ([] : List (coalesce_place × Sec))))
def Z68 (x0 : List api_Write) (x1 : List api_Write) (Φ : List api_Write × Int → Prop) : Prop :=
 LoopW (Z67 x0 x1 Φ) 0
def Z69 (x0 : api_Cycle) (x1 : api_Cycle) (Φ : api_Cycle × Int → Prop) : (Int) → ((Int) → Prop) → Prop
 | v4, rec2 =>
 (v4 < (x0.Positions.length : Int) →
 inX v4 x0.Positions.length ∧
 inX v4 x1.Positions.length ∧
 ((ix x1.Positions v4) < (ix x0.Positions v4) →
 Φ ((api_Cycle.mk 0 0 0 ([] : List Int) ([] : List api_Write)), 2)) ∧
 (¬ ((ix x1.Positions v4) < (ix x0.Positions v4)) →
 inI (v4 + 1) ∧
 rec2 (v4 + 1))) ∧
 (¬ (v4 < (x0.Positions.length : Int)) →
 Z68 x0.Writes x1.Writes fun v5 =>
 (v5.2 ≠ 0 →
 Φ ((api_Cycle.mk 0 0 0 ([] : List Int) ([] : List api_Write)), v5.2)) ∧
 (¬ (v5.2 ≠ 0) →
 ∃ v6 : List Int × Unit, Z4 x1.Positions (fun z => (z, ()) = v6) ∧
 Φ ((api_Cycle.mk x0.Base x1.Number x1.Time v6.1 v5.1), 0)))
def Z70 (x0 : api_Cycle) (x1 : api_Cycle) (Φ : api_Cycle × Int → Prop) : (Int) → ((Int) → Prop) → Prop
 | v1, rec1 =>
 (v1 < (([x0, x1] : List api_Cycle).length : Int) →
 inX v1 ([x0, x1] : List api_Cycle).length ∧
 ∃ v2 : List Int × Unit, Z52 (fun z => (z, ()) = v2) ∧
 ∃ v3 : Int × Unit, cycle_Check_W (ix ([x0, x1] : List api_Cycle) v1) v2.1 (fun z => (z, ()) = v3) ∧
 (v3.1 ≠ 0 →
 Φ ((api_Cycle.mk 0 0 0 ([] : List Int) ([] : List api_Write)), v3.1)) ∧
 (¬ (v3.1 ≠ 0) →
 inI (v1 + 1) ∧
 rec1 (v1 + 1))) ∧
 (¬ (v1 < (([x0, x1] : List api_Cycle).length : Int)) →
 (x1.Base ≠ x0.Number →
 Φ ((api_Cycle.mk 0 0 0 ([] : List Int) ([] : List api_Write)), 15)) ∧
 (¬ (x1.Base ≠ x0.Number) →
 ((x0.Positions.length : Int) ≠ (x1.Positions.length : Int) →
 Φ ((api_Cycle.mk 0 0 0 ([] : List Int) ([] : List api_Write)), 6)) ∧
 (¬ ((x0.Positions.length : Int) ≠ (x1.Positions.length : Int)) →
 (x1.Time < x0.Time →
 Φ ((api_Cycle.mk 0 0 0 ([] : List Int) ([] : List api_Write)), 24)) ∧
 (¬ (x1.Time < x0.Time) →
 LoopW (Z69 x0 x1 Φ) 0))))
def Z71 (x0 : api_Cycle) (x1 : api_Cycle) (Φ : api_Cycle × Int → Prop) : Prop :=
 LoopW (Z70 x0 x1 Φ) 0
def Z72 (v8 : api_Capture × api_Cycle × Int) (Φ : Bool → Prop) : Unit → Prop
 | _ =>
 cycle_Close_W v8.1 6 ([2, 1] : List Int) fun v9 =>
 Z71 v8.2.1 v9.2.1 fun v10 =>
 law23_write_W 0 1 ([98#8, 99#8] : List (BitVec 8)) fun v11 =>
 (v9.2.2 = 0 →
 (v10.2 = 0 →
 ref22_Same_W v9.2.1.Writes ([v11] : List api_Write) fun v12 =>
 (v12 = true →
 (v10.1.Base = 0 →
 (v10.1.Number = 2 →
 ref22_Same_W v10.1.Writes ([v11] : List api_Write) fun v13 =>
 Φ v13) ∧
 (¬ (v10.1.Number = 2) →
 Φ false)) ∧
 (¬ (v10.1.Base = 0) →
 Φ false)) ∧
 (¬ (v12 = true) →
 Φ false)) ∧
 (¬ (v10.2 = 0) →
 Φ false)) ∧
 (¬ (v9.2.2 = 0) →
 Φ false)
def law23_awake_W (Φ : Bool → Prop) : Prop :=
 cycle_Open_W ([4] : List Int) 2 0 fun v1 =>
 ∃ v2 : api_Write × Unit, law23_write_W 0 1 ([97#8] : List (BitVec 8)) (fun z => (z, ()) = v2) ∧
 ∃ v3 : api_Capture × Int × Unit, cycle_Add_W v1.1 0 v2.1 (fun z => (z.1, z.2, ()) = v3) ∧
 ∃ v4 : api_Write × Unit, law23_write_W 0 1 ([98#8] : List (BitVec 8)) (fun z => (z, ()) = v4) ∧
 ∃ v5 : api_Capture × Int × Unit, cycle_Add_W v3.1 1 v4.1 (fun z => (z.1, z.2, ()) = v5) ∧
 ∃ v6 : api_Write × Unit, law23_write_W 0 2 ([99#8] : List (BitVec 8)) (fun z => (z, ()) = v6) ∧
 ∃ v7 : api_Capture × Int × Unit, cycle_Add_W v5.1 0 v6.1 (fun z => (z.1, z.2, ()) = v7) ∧
 cycle_Close_W v7.1 5 ([0, 1] : List Int) fun v8 =>
 Join (Z72 v8 Φ) fun J1 =>
 inI (v1.2 + v3.2.1) ∧
 inI ((v1.2 + v3.2.1) + v5.2.1) ∧
 inI (((v1.2 + v3.2.1) + v5.2.1) + v7.2.1) ∧
 inI ((((v1.2 + v3.2.1) + v5.2.1) + v7.2.1) + v8.2.2) ∧
 (((((v1.2 + v3.2.1) + v5.2.1) + v7.2.1) + v8.2.2) ≠ 0 →
 Φ false) ∧
 (¬ (((((v1.2 + v3.2.1) + v5.2.1) + v7.2.1) + v8.2.2) ≠ 0) →
 (v8.2.1.Base ≠ 0 →
 Φ false) ∧
 (¬ (v8.2.1.Base ≠ 0) →
 (v8.2.1.Number ≠ 1 →
 Φ false) ∧
 (¬ (v8.2.1.Number ≠ 1) →
 ∃ v14 : api_Write × Unit, law23_write_W 0 1 ([98#8] : List (BitVec 8)) (fun z => (z, ()) = v14) ∧
 ∃ v15 : Bool × Unit, ref22_Same_W v8.2.1.Writes ([v14.1] : List api_Write) (fun z => (z, ()) = v15) ∧
 (¬ (v15.1 = true) →
 Φ false) ∧
 (¬ (¬ (v15.1 = true)) →
 ∃ v16 : api_Write × Unit, law23_write_W 0 1 ([98#8] : List (BitVec 8)) (fun z => (z, ()) = v16) ∧
 ∃ v17 : api_Write × Unit, law23_write_W 0 2 ([99#8] : List (BitVec 8)) (fun z => (z, ()) = v17) ∧
 ∃ v18 : Bool × Unit, ref22_Same_W v8.1.Writes ([v16.1, v17.1] : List api_Write) (fun z => (z, ()) = v18) ∧
 (¬ (v18.1 = true) →
 Φ false) ∧
 (¬ (¬ (v18.1 = true)) →
 J1 ())))))
def Z73 (x0 : List Int) (Φ : Int → Prop) : (Int) → ((Int) → Prop) → Prop
 | v1, rec1 =>
 (v1 < (x0.length : Int) →
 inX v1 x0.length ∧
 ((ix x0 v1) < 1 →
 Φ 2) ∧
 (¬ ((ix x0 v1) < 1) →
 inX v1 x0.length ∧
 (4096 < (ix x0 v1) →
 Φ 2) ∧
 (¬ (4096 < (ix x0 v1)) →
 inI (v1 + 1) ∧
 rec1 (v1 + 1)))) ∧
 (¬ (v1 < (x0.length : Int)) →
 Φ 0)
def ref07_Sizes_W (x0 : List Int) (Φ : Int → Prop) : Prop :=
 ((x0.length : Int) < 1 →
 Φ 6) ∧
 (¬ ((x0.length : Int) < 1) →
 (8 < (x0.length : Int) →
 Φ 6) ∧
 (¬ (8 < (x0.length : Int)) →
 LoopW (Z73 x0 Φ) 0))
def Z74 (x0 : List Int) (Φ : Int → Prop) : (Int) → ((Int) → Prop) → Prop
 | v1, rec1 =>
 (v1 < (x0.length : Int) →
 inX v1 x0.length ∧
 ((ix x0 v1) < 0 →
 Φ 2) ∧
 (¬ ((ix x0 v1) < 0) →
 inX v1 x0.length ∧
 (1073741824 < (ix x0 v1) →
 Φ 2) ∧
 (¬ (1073741824 < (ix x0 v1)) →
 inI (v1 + 1) ∧
 rec1 (v1 + 1)))) ∧
 (¬ (v1 < (x0.length : Int)) →
 Φ 0)
def Z75 (x0 : List Int) (Φ : Int → Prop) : Prop :=
 LoopW (Z74 x0 Φ) 0
def Z76 (x0 : List Int) (x1 : api_Write) (Φ : Int → Prop) : Prop :=
 (x1.Volume < 0 →
 Φ 7) ∧
 (¬ (x1.Volume < 0) →
 ((x0.length : Int) ≤ x1.Volume →
 Φ 7) ∧
 (¬ ((x0.length : Int) ≤ x1.Volume) →
 ((x1.Data.length : Int) = 0 →
 Φ 1) ∧
 (¬ ((x1.Data.length : Int) = 0) →
 (x1.Start < 0 →
 Φ 2) ∧
 (¬ (x1.Start < 0) →
 inX x1.Volume x0.length ∧
 ((ix x0 x1.Volume) ≤ x1.Start →
 Φ 2) ∧
 (¬ ((ix x0 x1.Volume) ≤ x1.Start) →
 inX x1.Volume x0.length ∧
 inI ((ix x0 x1.Volume) - x1.Start) ∧
 (((ix x0 x1.Volume) - x1.Start) < (x1.Data.length : Int) →
 Φ 2) ∧
 (¬ (((ix x0 x1.Volume) - x1.Start) < (x1.Data.length : Int)) →
 Φ 0))))))
def Z77 (x0 : api_Capture) (Φ : Int → Prop) : (Int) → ((Int) → Prop) → Prop
 | v3, rec1 =>
 (v3 < (x0.Writes.length : Int) →
 inX v3 x0.Nodes.length ∧
 ((ix x0.Nodes v3) < 0 →
 Φ 7) ∧
 (¬ ((ix x0.Nodes v3) < 0) →
 inX v3 x0.Nodes.length ∧
 ((x0.Positions.length : Int) ≤ (ix x0.Nodes v3) →
 Φ 7) ∧
 (¬ ((x0.Positions.length : Int) ≤ (ix x0.Nodes v3)) →
 inX v3 x0.Writes.length ∧
 ∃ v4 : Int × Unit, Z76 x0.Sizes (ix x0.Writes v3) (fun z => (z, ()) = v4) ∧
 (v4.1 ≠ 0 →
 Φ v4.1) ∧
 (¬ (v4.1 ≠ 0) →
 inI (v3 + 1) ∧
 rec1 (v3 + 1))))) ∧
 (¬ (v3 < (x0.Writes.length : Int)) →
 Φ 0)
def Z78 (x0 : api_Capture) (Φ : Int → Prop) : Prop :=
 ref07_Sizes_W x0.Sizes fun v1 =>
 (v1 ≠ 0 →
 Φ v1) ∧
 (¬ (v1 ≠ 0) →
 (x0.Number < 0 →
 Φ 2) ∧
 (¬ (x0.Number < 0) →
 (1073741823 < x0.Number →
 Φ 2) ∧
 (¬ (1073741823 < x0.Number) →
 ((x0.Positions.length : Int) < 1 →
 Φ 6) ∧
 (¬ ((x0.Positions.length : Int) < 1) →
 (8 < (x0.Positions.length : Int) →
 Φ 6) ∧
 (¬ (8 < (x0.Positions.length : Int)) →
 Z75 x0.Positions fun v2 =>
 (v2 ≠ 0 →
 Φ v2) ∧
 (¬ (v2 ≠ 0) →
 ((x0.Nodes.length : Int) ≠ (x0.Writes.length : Int) →
 Φ 6) ∧
 (¬ ((x0.Nodes.length : Int) ≠ (x0.Writes.length : Int)) →
 (4096 < (x0.Writes.length : Int) →
 Φ 6) ∧
 (¬ (4096 < (x0.Writes.length : Int)) →
 LoopW (Z77 x0 Φ) 0))))))))
def ref23_ints_W (x0 : List Int) (Φ : List Int → Prop) : Prop :=
 lenOk x0.length 8 ∧
 Φ x0
def Z79 (x0 : api_Write) (x2 : Int) (Φ : Int × Bool → Prop) : Bool → Prop
 | v2 =>
 (v2 = true →
 inI (x0.Start + (x0.Data.length : Int)) ∧
 ((x0.Start + (x0.Data.length : Int)) ≤ x2 →
 Φ (0, false)) ∧
 (¬ ((x0.Start + (x0.Data.length : Int)) ≤ x2) →
 inI (x2 - x0.Start) ∧
 Φ ((x2 - x0.Start), true))) ∧
 (¬ (v2 = true) →
 inI (x2 - x0.Start) ∧
 Φ ((x2 - x0.Start), decide ((x2 - x0.Start) < (x0.Data.length : Int))))
def Z80 (x0 : api_Write) (x2 : Int) (Φ : Int × Bool → Prop) : Bool → Prop
 | v1 =>
 (v1 = true →
 Φ (0, false)) ∧
 (¬ (v1 = true) →
 Join (Z79 x0 x2 Φ) fun J2 =>
 (x0.Start < 0 →
 J2 (decide (0 ≤ x2))) ∧
 (¬ (x0.Start < 0) →
 J2 false))
def ref22_holds_W (x0 : api_Write) (x1 : Int) (x2 : Int) (Φ : Int × Bool → Prop) : Prop :=
 Join (Z80 x0 x2 Φ) fun J1 =>
 (x0.Volume ≠ x1 →
 J1 true) ∧
 (¬ (x0.Volume ≠ x1) →
 ((x0.Data.length : Int) = 0 →
 J1 true) ∧
 (¬ ((x0.Data.length : Int) = 0) →
 J1 (decide (x2 < x0.Start))))
def Z81 (x0 : List api_Write) (x1 : Int) (x2 : Int) (Φ : Sec × Bool → Prop) : (Int) → ((Int) → Prop) → Prop
 | v1, rec1 =>
 (0 ≤ v1 →
 inX v1 x0.length ∧
 ref22_holds_W (ix x0 v1) x1 x2 fun v2 =>
 (v2.2 = true →
 inX v1 x0.length ∧
 inX v2.1 ((ix x0 v1).Data).length ∧
 Φ ((ix ((ix x0 v1).Data) v2.1), true)) ∧
 (¬ (v2.2 = true) →
 inI (v1 - 1) ∧
 rec1 (v1 - 1))) ∧
 (¬ (0 ≤ v1) →
 Φ (sec0, false))
def Z82 (x0 : List api_Write) (x1 : Int) (x2 : Int) (Φ : Sec × Bool → Prop) : Prop :=
 inI ((x0.length : Int) - 1) ∧
 LoopW (Z81 x0 x1 x2 Φ) ((x0.length : Int) - 1)
def Z83 (x0 : api_Write) (x1 : List api_Write) (Φ : api_Write → Prop) : (Int × List Sec) → ((Int × List Sec) → Prop) → Prop
 | (v1, v2), rec1 =>
 (v1 < (v2.length : Int) →
 inI (x0.Start + v1) ∧
 Z82 x1 x0.Volume (x0.Start + v1) fun v3 =>
 (v3.2 = true →
 inX v1 v2.length ∧
 inI (v1 + 1) ∧
 rec1 ((v1 + 1), (put v2 v1 v3.1))) ∧
 (¬ (v3.2 = true) →
 inI (v1 + 1) ∧
 rec1 ((v1 + 1), v2))) ∧
 (¬ (v1 < (v2.length : Int)) →
 Φ (api_Write.mk ((ix ([(api_Write.mk ((ix ([x0] : List api_Write) 0).Volume) ((ix ([x0] : List api_Write) 0).Start) ([] : List Sec))] : List api_Write) ((([(api_Write.mk ((ix ([x0] : List api_Write) 0).Volume) ((ix ([x0] : List api_Write) 0).Start) ([] : List Sec))] : List api_Write).length : Int) - 1)).Volume) ((ix ([(api_Write.mk ((ix ([x0] : List api_Write) 0).Volume) ((ix ([x0] : List api_Write) 0).Start) ([] : List Sec))] : List api_Write) ((([(api_Write.mk ((ix ([x0] : List api_Write) 0).Volume) ((ix ([x0] : List api_Write) 0).Start) ([] : List Sec))] : List api_Write).length : Int) - 1)).Start) v2))
def Z84 (x0 : api_Write) (x1 : List api_Write) (Φ : api_Write → Prop) : Prop :=
 (0 < (([x0] : List api_Write).length : Int) →
 inX 0 ([x0] : List api_Write).length ∧
 inX 0 ([x0] : List api_Write).length ∧
 inX 0 ([x0] : List api_Write).length ∧
 lenOk ((ix ([x0] : List api_Write) 0).Data).length 8 ∧
 lenOk ([(api_Write.mk ((ix ([x0] : List api_Write) 0).Volume) ((ix ([x0] : List api_Write) 0).Start) ([] : List Sec))] : List api_Write).length 40 ∧
 inI ((0 : Int) + 1) ∧
 (((0 : Int) + 1) < (([x0] : List api_Write).length : Int) →
 inX ((0 : Int) + 1) ([x0] : List api_Write).length ∧
 inX ((0 : Int) + 1) ([x0] : List api_Write).length ∧
 inX ((0 : Int) + 1) ([x0] : List api_Write).length ∧
 lenOk ((ix ([x0] : List api_Write) ((0 : Int) + 1)).Data).length 8 ∧
 False) ∧
 (¬ (((0 : Int) + 1) < (([x0] : List api_Write).length : Int)) →
 inX 0 ([(api_Write.mk ((ix ([x0] : List api_Write) 0).Volume) ((ix ([x0] : List api_Write) 0).Start) ([] : List Sec))] : List api_Write).length ∧
 (0 : Int) + 1 = (([(api_Write.mk ((ix ([x0] : List api_Write) 0).Volume) ((ix ([x0] : List api_Write) 0).Start) ([] : List Sec))] : List api_Write).length : Int) ∧
 LoopW (Z83 x0 x1 Φ) (0, (ix ([x0] : List api_Write) 0).Data))) ∧
 (¬ (0 < (([x0] : List api_Write).length : Int)) →
 False)
def ref22_Most_L1 (Φ : List Int → Prop) : (Int × List Int) → ((Int × List Int) → Prop) → Prop
 | (v1, v2), rec1 =>
 (v1 < 8 →
 lenOk (v2 ++ ([4096] : List Int)).length 8 ∧
 inI (v1 + 1) ∧
 rec1 ((v1 + 1), (v2 ++ ([4096] : List Int)))) ∧
 (¬ (v1 < 8) →
 Φ v2)
def ref22_Most_W (Φ : List Int → Prop) : Prop :=
 LoopW (ref22_Most_L1 Φ) (0, ([] : List Int))
def ref01_List_J2 (v1 : Int) (v2 : List api_Extent) (rec1 : (Int × List api_Extent) → Prop) (_ : List api_Extent → Prop) : Bool → Prop
 | v3 =>
 (v3 = true →
 inI ((v2.length : Int) - 1) ∧
 inX ((v2.length : Int) - 1) v2.length ∧
 inI (((ix v2 ((v2.length : Int) - 1)).Count) + 1) ∧
 inX ((v2.length : Int) - 1) v2.length ∧
 inI (v1 + 1) ∧
 rec1 ((v1 + 1), (put v2 ((v2.length : Int) - 1) (api_Extent.mk ((ix v2 ((v2.length : Int) - 1)).Start) (((ix v2 ((v2.length : Int) - 1)).Count) + 1))))) ∧
 (¬ (v3 = true) →
 lenOk (v2 ++ ([(api_Extent.mk v1 1)] : List api_Extent)).length 16 ∧
 inI (v1 + 1) ∧
 rec1 ((v1 + 1), (v2 ++ ([(api_Extent.mk v1 1)] : List api_Extent))))
def ref01_List_L1 (x0 : List Bool) (Φ : List api_Extent → Prop) : (Int × List api_Extent) → ((Int × List api_Extent) → Prop) → Prop
 | (v1, v2), rec1 =>
 (v1 < (x0.length : Int) →
 inX v1 x0.length ∧
 (¬ ((ix x0 v1) = true) →
 inI (v1 + 1) ∧
 rec1 ((v1 + 1), v2)) ∧
 (¬ (¬ ((ix x0 v1) = true)) →
 Join (ref01_List_J2 v1 v2 rec1 Φ) fun J2 =>
 (0 < v1 →
 inI (v1 - 1) ∧
 inX (v1 - 1) x0.length ∧
 J2 (ix x0 (v1 - 1))) ∧
 (¬ (0 < v1) →
 J2 false))) ∧
 (¬ (v1 < (x0.length : Int)) →
 Φ v2)
def ref01_List_W (x0 : List Bool) (Φ : List api_Extent → Prop) : Prop :=
 LoopW (ref01_List_L1 x0 Φ) (0, ([] : List api_Extent))
def Z85 (v1 : Int) (rec1 : (Int × List Bool) → Prop) (v4 : Int) (_ : List api_Extent → Prop) : (Int × List Bool) → ((Int × List Bool) → Prop) → Prop
 | (v5, v6), rec3 =>
 (v5 < v4 →
 inX v5 v6.length ∧
 inI (v5 + 1) ∧
 rec3 ((v5 + 1), (put v6 v5 true))) ∧
 (¬ (v5 < v4) →
 inI (v1 + 1) ∧
 rec1 ((v1 + 1), v6))
def Z86 (v1 : Int) (v2 : List Bool) (rec1 : (Int × List Bool) → Prop) (Φ : List api_Extent → Prop) : Int × Int → Prop
 | (v3, v4) =>
 LoopW (Z85 v1 rec1 v4 Φ) (v3, v2)
def Z87 (x0 : List api_Write) (x1 : Int) (Φ : List api_Extent → Prop) : (Int × List Bool) → ((Int × List Bool) → Prop) → Prop
 | (v1, v2), rec1 =>
 (v1 < (x0.length : Int) →
 inX v1 x0.length ∧
 (((ix x0 v1).Volume) = x1 →
 inX v1 x0.length ∧
 inX v1 x0.length ∧
 ((((ix x0 v1).Data).length : Int) ≤ 0 →
 inI (v1 + 1) ∧
 rec1 ((v1 + 1), v2)) ∧
 (¬ ((((ix x0 v1).Data).length : Int) ≤ 0) →
 ((v2.length : Int) ≤ ((ix x0 v1).Start) →
 inI (v1 + 1) ∧
 rec1 ((v1 + 1), v2)) ∧
 (¬ ((v2.length : Int) ≤ ((ix x0 v1).Start)) →
 Join (Z86 v1 v2 rec1 Φ) fun J2 =>
 (((ix x0 v1).Start) < 0 →
 inI (((ix x0 v1).Start) + (((ix x0 v1).Data).length : Int)) ∧
 J2 (0, (if (((ix x0 v1).Start) + (((ix x0 v1).Data).length : Int)) < (v2.length : Int) then (((ix x0 v1).Start) + (((ix x0 v1).Data).length : Int)) else (v2.length : Int)))) ∧
 (¬ (((ix x0 v1).Start) < 0) →
 inI (((ix x0 v1).Start) + (if 4096 < (((ix x0 v1).Data).length : Int) then 4096 else (((ix x0 v1).Data).length : Int))) ∧
 J2 ((ix x0 v1).Start, (if (((ix x0 v1).Start) + (if 4096 < (((ix x0 v1).Data).length : Int) then 4096 else (((ix x0 v1).Data).length : Int))) < (v2.length : Int) then (((ix x0 v1).Start) + (if 4096 < (((ix x0 v1).Data).length : Int) then 4096 else (((ix x0 v1).Data).length : Int))) else (v2.length : Int))))))) ∧
 (¬ (((ix x0 v1).Volume) = x1) →
 inI (v1 + 1) ∧
 rec1 ((v1 + 1), v2))) ∧
 (¬ (v1 < (x0.length : Int)) →
 ref01_List_W v2 fun v7 =>
 Φ v7)
def Z88 (x0 : List api_Write) (x1 : Int) (Φ : List api_Extent → Prop) : Prop :=
 0 ≤ (4096 : Int) ∧
 lenOk (4096 : Int).toNat 1 ∧
 LoopW (Z87 x0 x1 Φ) (0, (List.replicate (4096 : Int).toNat (false : Bool)))
def ref22_pick_L2 (x0 : List api_Write) (x1 : Int) (x2 : List api_Extent) (v1 : Int) (v2 : List api_Write) (rec1 : (Int × List api_Write) → Prop) (_ : List api_Write → Prop) : (Int × List Sec) → ((Int × List Sec) → Prop) → Prop
 | (v3, v4), rec2 =>
 inX v1 x2.length ∧
 (v3 < ((ix x2 v1).Count) →
 inX v1 x2.length ∧
 inI (((ix x2 v1).Start) + v3) ∧
 Z82 x0 x1 (((ix x2 v1).Start) + v3) fun v5 =>
 lenOk (v4 ++ ([v5.1] : List Sec)).length 8 ∧
 inI (v3 + 1) ∧
 rec2 ((v3 + 1), (v4 ++ ([v5.1] : List Sec)))) ∧
 (¬ (v3 < ((ix x2 v1).Count)) →
 lenOk (v2 ++ ([(api_Write.mk x1 ((ix x2 v1).Start) v4)] : List api_Write)).length 40 ∧
 inI (v1 + 1) ∧
 rec1 ((v1 + 1), (v2 ++ ([(api_Write.mk x1 ((ix x2 v1).Start) v4)] : List api_Write))))
def ref22_pick_L1 (x0 : List api_Write) (x1 : Int) (x2 : List api_Extent) (Φ : List api_Write → Prop) : (Int × List api_Write) → ((Int × List api_Write) → Prop) → Prop
 | (v1, v2), rec1 =>
 (v1 < (x2.length : Int) →
 inX v1 x2.length ∧
 LoopW (ref22_pick_L2 x0 x1 x2 v1 v2 rec1 Φ) (0, ([] : List Sec))) ∧
 (¬ (v1 < (x2.length : Int)) →
 Φ v2)
def ref22_pick_W (x0 : List api_Write) (x1 : Int) (x2 : List api_Extent) (Φ : List api_Write → Prop) : Prop :=
 LoopW (ref22_pick_L1 x0 x1 x2 Φ) (0, ([] : List api_Write))
def ref22_Fold_L2 (x0 : List api_Write) (Φ : List api_Write × Int → Prop) : (Int × List api_Write) → ((Int × List api_Write) → Prop) → Prop
 | (v4, v5), rec2 =>
 (v4 < 8 →
 Z88 x0 v4 fun v6 =>
 ref22_pick_W x0 v4 v6 fun v7 =>
 lenOk (v5 ++ v7).length 40 ∧
 inI (v4 + 1) ∧
 rec2 ((v4 + 1), (v5 ++ v7))) ∧
 (¬ (v4 < 8) →
 Φ (v5, 0))
def ref22_Fold_L1 (x0 : List api_Write) (Φ : List api_Write × Int → Prop) : (Int) → ((Int) → Prop) → Prop
 | v1, rec1 =>
 (v1 < (x0.length : Int) →
 ∃ v2 : List Int × Unit, ref22_Most_W (fun z => (z, ()) = v2) ∧
 inX v1 x0.length ∧
 ∃ v3 : Int × Unit, Z76 v2.1 (ix x0 v1) (fun z => (z, ()) = v3) ∧
 (v3.1 ≠ 0 →
 Φ (([] : List api_Write), v3.1)) ∧
 (¬ (v3.1 ≠ 0) →
 inI (v1 + 1) ∧
 rec1 (v1 + 1))) ∧
 (¬ (v1 < (x0.length : Int)) →
 LoopW (ref22_Fold_L2 x0 Φ) (0, ([] : List api_Write)))
def ref22_Fold_W (x0 : List api_Write) (Φ : List api_Write × Int → Prop) : Prop :=
 LoopW (ref22_Fold_L1 x0 Φ) 0
def Z89 (x0 : api_Capture) (x2 : List Int) (v3 : Int) (v4 : List Int) (rec2 : (Int × List Int) → Prop) (Φ : api_Capture × api_Cycle × Int → Prop) : Bool → Prop
 | v7 =>
 (v7 = true →
 Φ ((api_Capture.mk 0 ([] : List Int) ([] : List Int) ([] : List Int) ([] : List api_Write)), (api_Cycle.mk 0 0 0 ([] : List Int) ([] : List api_Write)), 2)) ∧
 (¬ (v7 = true) →
 inX v3 x2.length ∧
 inX v3 x0.Positions.length ∧
 inI ((ix x2 v3) - (ix x0.Positions v3)) ∧
 inX v3 v4.length ∧
 inI (v3 + 1) ∧
 rec2 ((v3 + 1), (put v4 v3 ((ix x2 v3) - (ix x0.Positions v3)))))
def Z90 (x0 : api_Capture) (x2 : List Int) (v3 : Int) (v4 : List Int) (rec2 : (Int × List Int) → Prop) (Φ : api_Capture × api_Cycle × Int → Prop) : (Int × Int) → ((Int × Int) → Prop) → Prop
 | (v5, v6), rec3 =>
 (v6 < (x0.Nodes.length : Int) →
 inX v6 x0.Nodes.length ∧
 ((ix x0.Nodes v6) = v3 →
 inI (v5 + 1) ∧
 inI (v6 + 1) ∧
 rec3 ((v5 + 1), (v6 + 1))) ∧
 (¬ ((ix x0.Nodes v6) = v3) →
 inI (v6 + 1) ∧
 rec3 (v5, (v6 + 1)))) ∧
 (¬ (v6 < (x0.Nodes.length : Int)) →
 Join (Z89 x0 x2 v3 v4 rec2 Φ) fun J4 =>
 inX v3 x2.length ∧
 inX v3 x0.Positions.length ∧
 ((ix x2 v3) < (ix x0.Positions v3) →
 J4 true) ∧
 (¬ ((ix x2 v3) < (ix x0.Positions v3)) →
 inX v3 x2.length ∧
 inX v3 x0.Positions.length ∧
 inI ((ix x0.Positions v3) + v5) ∧
 J4 (decide (((ix x0.Positions v3) + v5) < (ix x2 v3)))))
def Z91 (x0 : api_Capture) (v10 : List Bool) (v14 : Int) (v15 : List Int) (v16 : List api_Write) (rec6 : (Int × List Int × List api_Write) → Prop) (_ : api_Capture × api_Cycle × Int → Prop) : (Int × List api_Write) → ((Int × List api_Write) → Prop) → Prop
 | (v17, v18), rec7 =>
 (v17 < (x0.Writes.length : Int) →
 inX v17 v10.length ∧
 ((ix v10 v17) = true →
 inX v17 x0.Writes.length ∧
 lenOk (v18 ++ ([(ix x0.Writes v17)] : List api_Write)).length 40 ∧
 inI (v17 + 1) ∧
 rec7 ((v17 + 1), (v18 ++ ([(ix x0.Writes v17)] : List api_Write)))) ∧
 (¬ ((ix v10 v17) = true) →
 inI (v17 + 1) ∧
 rec7 ((v17 + 1), v18))) ∧
 (¬ (v17 < (x0.Writes.length : Int)) →
 inX v14 x0.Nodes.length ∧
 lenOk (v15 ++ ([(ix x0.Nodes v14)] : List Int)).length 8 ∧
 inX v14 x0.Writes.length ∧
 ∃ v19 : api_Write × Unit, Z84 (ix x0.Writes v14) v18 (fun z => (z, ()) = v19) ∧
 lenOk (v16 ++ ([v19.1] : List api_Write)).length 40 ∧
 inI (v14 + 1) ∧
 rec6 ((v14 + 1), (v15 ++ ([(ix x0.Nodes v14)] : List Int)), (v16 ++ ([v19.1] : List api_Write))))
def Z92 (x0 : api_Capture) (x1 : Int) (x2 : List Int) (v10 : List Bool) (v11 : List api_Write) (v12 : List Int × Unit) (v13 : List Int × Unit) (Φ : api_Capture × api_Cycle × Int → Prop) : (Int × List Int × List api_Write) → ((Int × List Int × List api_Write) → Prop) → Prop
 | (v14, v15, v16), rec6 =>
 (v14 < (x0.Writes.length : Int) →
 inX v14 v10.length ∧
 ((ix v10 v14) = true →
 inI (v14 + 1) ∧
 rec6 ((v14 + 1), v15, v16)) ∧
 (¬ ((ix v10 v14) = true) →
 inI (v14 + 1) ∧
 LoopW (Z91 x0 v10 v14 v15 v16 rec6 Φ) ((v14 + 1), ([] : List api_Write)))) ∧
 (¬ (v14 < (x0.Writes.length : Int)) →
 ref22_Fold_W v11 fun v20 =>
 inI (x0.Number + 1) ∧
 ∃ v21 : List Int × Unit, ref23_ints_W x2 (fun z => (z, ()) = v21) ∧
 Φ ((api_Capture.mk (x0.Number + 1) v12.1 v13.1 v15 v16), (api_Cycle.mk x0.Number (x0.Number + 1) x1 v21.1 v20.1), 0))
def Z93 (x0 : api_Capture) (x1 : Int) (x2 : List Int) (Φ : api_Capture × api_Cycle × Int → Prop) : (Int × List Int × List Bool × List api_Write) → ((Int × List Int × List Bool × List api_Write) → Prop) → Prop
 | (v8, v9, v10, v11), rec5 =>
 (v8 < (x0.Writes.length : Int) →
 inX v8 x0.Nodes.length ∧
 inX (ix x0.Nodes v8) v9.length ∧
 (0 < (ix v9 (ix x0.Nodes v8)) →
 inX v8 x0.Nodes.length ∧
 inX (ix x0.Nodes v8) v9.length ∧
 inI ((ix v9 (ix x0.Nodes v8)) - 1) ∧
 inX (ix x0.Nodes v8) v9.length ∧
 inX v8 v10.length ∧
 inX v8 x0.Writes.length ∧
 lenOk (v11 ++ ([(ix x0.Writes v8)] : List api_Write)).length 40 ∧
 inI (v8 + 1) ∧
 rec5 ((v8 + 1), (put v9 (ix x0.Nodes v8) ((ix v9 (ix x0.Nodes v8)) - 1)), (put v10 v8 true), (v11 ++ ([(ix x0.Writes v8)] : List api_Write)))) ∧
 (¬ (0 < (ix v9 (ix x0.Nodes v8))) →
 inI (v8 + 1) ∧
 rec5 ((v8 + 1), v9, v10, v11))) ∧
 (¬ (v8 < (x0.Writes.length : Int)) →
 inI (x0.Number + 1) ∧
 ∃ v12 : List Int × Unit, ref23_ints_W x0.Sizes (fun z => (z, ()) = v12) ∧
 ∃ v13 : List Int × Unit, ref23_ints_W x2 (fun z => (z, ()) = v13) ∧
 LoopW (Z92 x0 x1 x2 v10 v11 v12 v13 Φ) (0, ([] : List Int), ([] : List api_Write)))
def Z94 (x0 : api_Capture) (x1 : Int) (x2 : List Int) (Φ : api_Capture × api_Cycle × Int → Prop) : (Int × List Int) → ((Int × List Int) → Prop) → Prop
 | (v3, v4), rec2 =>
 (v3 < (x2.length : Int) →
 LoopW (Z90 x0 x2 v3 v4 rec2 Φ) (0, 0)) ∧
 (¬ (v3 < (x2.length : Int)) →
 0 ≤ (x0.Writes.length : Int) ∧
 lenOk (x0.Writes.length : Int).toNat 1 ∧
 LoopW (Z93 x0 x1 x2 Φ) (0, v4, (List.replicate (x0.Writes.length : Int).toNat (false : Bool)), ([] : List api_Write)))
def Z95 (x0 : api_Capture) (x1 : Int) (x2 : List Int) (Φ : api_Capture × api_Cycle × Int → Prop) : Bool → Prop
 | v2 =>
 (v2 = true →
 Φ ((api_Capture.mk 0 ([] : List Int) ([] : List Int) ([] : List Int) ([] : List api_Write)), (api_Cycle.mk 0 0 0 ([] : List Int) ([] : List api_Write)), 24)) ∧
 (¬ (v2 = true) →
 ((x2.length : Int) ≠ (x0.Positions.length : Int) →
 Φ ((api_Capture.mk 0 ([] : List Int) ([] : List Int) ([] : List Int) ([] : List api_Write)), (api_Cycle.mk 0 0 0 ([] : List Int) ([] : List api_Write)), 6)) ∧
 (¬ ((x2.length : Int) ≠ (x0.Positions.length : Int)) →
 0 ≤ (x2.length : Int) ∧
 lenOk (x2.length : Int).toNat 8 ∧
 LoopW (Z94 x0 x1 x2 Φ) (0, (List.replicate (x2.length : Int).toNat (0 : Int)))))
def ref23_Close_W (x0 : api_Capture) (x1 : Int) (x2 : List Int) (Φ : api_Capture × api_Cycle × Int → Prop) : Prop :=
 Z78 x0 fun v1 =>
 (v1 ≠ 0 →
 Φ ((api_Capture.mk 0 ([] : List Int) ([] : List Int) ([] : List Int) ([] : List api_Write)), (api_Cycle.mk 0 0 0 ([] : List Int) ([] : List api_Write)), v1)) ∧
 (¬ (v1 ≠ 0) →
 Join (Z95 x0 x1 x2 Φ) fun J1 =>
 (x1 < 0 →
 J1 true) ∧
 (¬ (x1 < 0) →
 J1 (decide (1073741824 < x1))))
def Z96 (x0 : List Int) (x1 : List Int) (Φ : Bool → Prop) : (Int) → ((Int) → Prop) → Prop
 | v1, rec1 =>
 (v1 < (x0.length : Int) →
 inX v1 x0.length ∧
 inX v1 x1.length ∧
 ((ix x0 v1) ≠ (ix x1 v1) →
 Φ false) ∧
 (¬ ((ix x0 v1) ≠ (ix x1 v1)) →
 inI (v1 + 1) ∧
 rec1 (v1 + 1))) ∧
 (¬ (v1 < (x0.length : Int)) →
 Φ true)
def Z97 (x0 : List Int) (x1 : List Int) (Φ : Bool → Prop) : Prop :=
 ((x0.length : Int) ≠ (x1.length : Int) →
 Φ false) ∧
 (¬ ((x0.length : Int) ≠ (x1.length : Int)) →
 LoopW (Z96 x0 x1 Φ) 0)
def Z98 (x0 : api_Capture) (x1 : api_Capture) (Φ : Bool → Prop) : Prop :=
 (x0.Number = x1.Number →
 Z97 x0.Sizes x1.Sizes fun v1 =>
 (v1 = true →
 Z97 x0.Positions x1.Positions fun v2 =>
 (v2 = true →
 Z97 x0.Nodes x1.Nodes fun v3 =>
 (v3 = true →
 Z46 x0.Writes x1.Writes fun v4 =>
 Φ v4) ∧
 (¬ (v3 = true) →
 Φ false)) ∧
 (¬ (v2 = true) →
 Φ false)) ∧
 (¬ (v1 = true) →
 Φ false)) ∧
 (¬ (x0.Number = x1.Number) →
 Φ false)
def ref23_Same_W (x0 : api_Cycle) (x1 : api_Cycle) (Φ : Bool → Prop) : Prop :=
 (x0.Base = x1.Base →
 (x0.Number = x1.Number →
 (x0.Time = x1.Time →
 Z97 x0.Positions x1.Positions fun v1 =>
 (v1 = true →
 Z46 x0.Writes x1.Writes fun v2 =>
 Φ v2) ∧
 (¬ (v1 = true) →
 Φ false)) ∧
 (¬ (x0.Time = x1.Time) →
 Φ false)) ∧
 (¬ (x0.Number = x1.Number) →
 Φ false)) ∧
 (¬ (x0.Base = x1.Base) →
 Φ false)
def Z99 (x0 : api_Capture) (x1 : Int) (x2 : List Int) (Φ : Bool → Prop) : Bool → Prop
 | v1 =>
 (v1 = true →
 law23_awake_W fun v2 =>
 Φ v2) ∧
 (¬ (v1 = true) →
 cycle_Close_W x0 x1 x2 fun v3 =>
 ref23_Close_W x0 x1 x2 fun v4 =>
 law23_awake_W fun v5 =>
 (v5 = true →
 Z98 v3.1 v4.1 fun v6 =>
 (v6 = true →
 ref23_Same_W v3.2.1 v4.2.1 fun v7 =>
 (v7 = true →
 Φ (decide (v3.2.2 = v4.2.2))) ∧
 (¬ (v7 = true) →
 Φ false)) ∧
 (¬ (v6 = true) →
 Φ false)) ∧
 (¬ (v5 = true) →
 Φ false))
def Z100 (x0 : api_Capture) (x1 : Int) (x2 : List Int) (Φ : Bool → Prop) : Prop :=
 Join (Z99 x0 x1 x2 Φ) fun J1 =>
 Z0 x0 fun v8 =>
 (¬ (v8 = true) →
 J1 true) ∧
 (¬ (¬ (v8 = true)) →
 J1 (decide (20 < (x2.length : Int))))
def gh : Hp → Prop := fun _ => True
theorem ghUp : GUp gh := fun _ _ _ _ => trivial
def ct26 : Ct DD := ⟨26, [23], [4], [[false]], true, fun x Φ => ref22_Few_W x.1 fun y => Φ (y, ())⟩
def pl26 : List PE := [⟨[4, 1, 0, 1], [], [], ⟨[.int], [(0, .kp 0), (3, .v .int)], [], [], []⟩, false⟩, ⟨[0, 5, 4, 1, 0, 1], [], [], ⟨[.bool], [(0, .kp 0), (3, .kp 3), (11, .v .bool)], [], [], []⟩, true⟩]
def ct7 : Ct DD := ⟨7, [25], [4], [[false]], true, fun x Φ => Z0 x.1 fun y => Φ (y, ())⟩
def pl7 : List PE := []
def ct136 : Ct DD := ⟨136, [3], [4], [[false]], true, fun x Φ => Z1 x.1 fun y => Φ (y, ())⟩
def pl136 : List PE := []
def ct96 : Ct DD := ⟨96, [22], [30], [[false]], true, fun x Φ => Z3 x.1 fun y => Φ (y, ())⟩
def pl96 : List PE := [⟨[4, 1, 0, 1, 12, 0, 1, 11, 0, 0, 1, 1], [], [], ⟨[.int], [(0, .kp 0), (1, .kp 1), (7, .kp 4), (8, .v .int)], [], [], []⟩, false⟩]
def ct122 : Ct DD := ⟨122, [3], [68], [[true]], false, fun x Φ => image_New_1_W x.1 fun y => Φ (y, ())⟩
def pl122 : List PE := []
def ct71 : Ct DD := ⟨71, [22], [39, 30], [[true], [false]], false, fun x Φ => image_New_W x.1 fun y => Φ (y.1, y.2, ())⟩
def pl71 : List PE := [⟨[4, 1, 0, 1, 1, 11, 0, 1, 1], [], [], ⟨[.int, .lst 68], [(1, .kp 2), (5, .own 0), (11, .kp 8), (12, .kp 9), (13, .v .int)], [], [68], []⟩, false⟩]
def ct35 : Ct DD := ⟨35, [3, 3, 3], [4], [[false]], true, fun x Φ => cycle_in_W x.1 x.2.1 x.2.2.1 fun y => Φ (y, ())⟩
def pl35 : List PE := []
def ct40 : Ct DD := ⟨40, [22], [22], [[true]], false, fun x Φ => Z4 x.1 fun y => Φ (y, ())⟩
def pl40 : List PE := []
def ct27 : Ct DD := ⟨27, [22, 3, 3], [25, 30], [[false, true, true, false, false], [false]], false, fun x Φ => cycle_Open_W x.1 x.2.1 x.2.2.1 fun y => Φ (y.1, y.2, ())⟩
def pl27 : List PE := []
def ct29 : Ct DD := ⟨29, [3, 3, 52], [70], [[false, false, true]], false, fun x Φ => law23_write_W x.1 x.2.1 x.2.2.1 fun y => Φ (y, ())⟩
def pl29 : List PE := [⟨[4, 1, 0, 1, 1], [], [0], ⟨[.int, .lst 130], [(2, .kp 4), (6, .kp 5), (7, .kp 9), (8, .v .int)], [(1, 70, [.kp 11,.kp 12,.own 0])], [130], []⟩, false⟩]
def ct123 : Ct DD := ⟨123, [3], [4], [[false]], true, fun x Φ => Z6 x.1 fun y => Φ (y, ())⟩
def pl123 : List PE := []
def ct72 : Ct DD := ⟨72, [22, 3], [30], [[false]], true, fun x Φ => Z8 x.1 x.2.1 fun y => Φ (y, ())⟩
def pl72 : List PE := [⟨[4, 1, 0, 1, 12, 0, 1, 11, 0, 0, 1, 1], [], [], ⟨[.int], [(0, .kp 0), (1, .kp 1), (7, .kp 4), (8, .v .int)], [], [], []⟩, false⟩]
def ct138 : Ct DD := ⟨138, [68], [3], [[false]], true, fun x Φ => Z9 x.1 fun y => Φ (y, ())⟩
def pl138 : List PE := []
def ct97 : Ct DD := ⟨97, [39], [22], [[true]], false, fun x Φ => image_sizes_W x.1 fun y => Φ (y, ())⟩
def pl97 : List PE := [⟨[4, 1, 0, 1, 1, 11, 0, 1], [], [], ⟨[.int, .lst 3], [(1, .kp 2), (5, .own 0), (11, .kp 8), (12, .kp 9), (13, .v .int)], [], [3], []⟩, false⟩]
def ct52 : Ct DD := ⟨52, [39], [30], [[false]], true, fun x Φ => image_Check_W x.1 fun y => Φ (y, ())⟩
def pl52 : List PE := []
def ct99 : Ct DD := ⟨99, [39, 70], [30], [[false]], true, fun x Φ => image_fits_W x.1 x.2.1 fun y => Φ (y, ())⟩
def pl99 : List PE := [⟨[4, 0, 1], [], [0], ⟨[.bool], [(0, .kp 1), (3, .kp 3), (5, .v .bool)], [], [], []⟩, true⟩]
def ct125 : Ct DD := ⟨125, [39, 70], [30], [[false]], true, fun x Φ => image_Fits_W x.1 x.2.1 fun y => Φ (y, ())⟩
def pl125 : List PE := []
def ct126 : Ct DD := ⟨126, [68], [68], [[true]], false, fun x Φ => Z11 x.1 fun y => Φ (y, ())⟩
def pl126 : List PE := []
def ct77 : Ct DD := ⟨77, [70], [70], [[false, false, true]], false, fun x Φ => Z12 x.1 fun y => Φ (y, ())⟩
def pl77 : List PE := []
def ct76 : Ct DD := ⟨76, [25], [25], [[false, true, true, true, true]], false, fun x Φ => Z14 x.1 fun y => Φ (y, ())⟩
def pl76 : List PE := [⟨[4, 1, 0, 1, 1, 1], [], [4, 3, 2, 0, 1], ⟨[.int, .lst 70], [(1, .kp 6), (2, .kp 7), (3, .own 0), (19, .kp 22), (20, .kp 23), (21, .v .int)], [], [70], []⟩, false⟩]
def ct28 : Ct DD := ⟨28, [25, 3, 70], [25, 30], [[false, true, true, true, true], [false]], false, fun x Φ => cycle_Add_W x.1 x.2.1 x.2.2.1 fun y => Φ (y.1, y.2, ())⟩
def pl28 : List PE := [⟨[0, 1, 1], [0, 1], [0, 1], ⟨[], [(0, .kp 0), (1, .kp 0), (3, .kp 0), (4, .kp 0)], [], [0, 0, 0, 1, 3, 4, 2, 5], []⟩, false⟩, ⟨[4, 1, 0, 1, 1, 1, 1, 1, 1, 12, 0, 1, 1], [19], [19, 18, 3, 2], ⟨[.int], [(1, .kp 21), (3, .kp 29), (38, .kp 56), (39, .kp 57), (40, .v .int)], [], [], []⟩, false⟩, ⟨[1, 4, 0, 1, 1, 5, 4, 1, 0, 1, 1, 1, 1, 1, 1, 12, 0, 1, 1], [], [], ⟨[], [], [], [8], []⟩, false⟩]
def ct79 : Ct DD := ⟨79, [3], [4], [[false]], true, fun x Φ => Z15 x.1 fun y => Φ (y, ())⟩
def pl79 : List PE := []
def it80 : It DD := ⟨80, [79, 4], [3, 70], fun x l => cycle_division_writes_1_I x.1 x.2.1 l⟩
def pl80 : List PE := [⟨[4, 1], [], [], ⟨[.int], [(0, .kp 0), (1, .kp 3), (2, .kp 4), (8, .kp 7), (9, .kp 8), (10, .v .int)], [], [], []⟩, false⟩, ⟨[0, 1, 4, 0, 1, 1, 5, 4, 1], [], [], ⟨[], [(2, .kp 0), (5, .kp 0), (7, .kp 0), (8, .kp 0), (9, .kp 0)], [], [0, 0, 2, 5, 0, 1, 3, 4, 6, 7, 8, 9, 10, 11, 12, 13], []⟩, false⟩]
def ct81 : Ct DD := ⟨81, [70], [30], [[false]], true, fun x Φ => Z18 x.1 fun y => Φ (y, ())⟩
def pl81 : List PE := [⟨[4, 0, 1], [], [0], ⟨[.bool], [(1, .kp 2), (3, .v .bool)], [], [], []⟩, true⟩]
def ct128 : Ct DD := ⟨128, [186], [186], [[false, false]], true, fun x Φ => Z19 x.1 fun y => Φ (y, ())⟩
def pl128 : List PE := []
def ct163 : Ct DD := ⟨163, [3], [4], [[false]], true, fun x Φ => Z20 x.1 fun y => Φ (y, ())⟩
def pl163 : List PE := []
def ct148 : Ct DD := ⟨148, [3, 3], [3], [[false]], true, fun x Φ => Z21 x.1 x.2.1 fun y => Φ (y, ())⟩
def pl148 : List PE := []
def ct147 : Ct DD := ⟨147, [22], [3], [[false]], true, fun x Φ => cmp_Or_int_W x.1 fun y => Φ (y, ())⟩
def pl147 : List PE := [⟨[4, 1, 0, 1, 1], [], [], ⟨[.int], [(3, .kp 2), (6, .kp 3), (7, .kp 4), (8, .v .int)], [], [], []⟩, false⟩]
def ct130 : Ct DD := ⟨130, [186, 186], [3], [[false]], true, fun x Φ => Z22 x.1 x.2.1 fun y => Φ (y, ())⟩
def pl130 : List PE := []
def tn129 : Tn DD := ⟨129, 186, [130], fun xs Φ => Z23 xs Φ⟩
def ct38 : Ct DD := ⟨38, [23], [23, 30], [[true], [false]], false, fun x Φ => Z30 x.1 fun y => Φ (y.1, y.2, ())⟩
def pl38 : List PE := [⟨[4, 1, 0, 1], [], [], ⟨[.int], [(0, .kp 0), (7, .kp 3), (8, .kp 4), (9, .v .int)], [], [], []⟩, false⟩, ⟨[4, 1, 0, 1, 1, 11, 0, 1, 1], [], [], ⟨[.int, .mp 186 130], [(3, .kp 9), (10, .kp 0), (11, .kp 10), (12, .v .int)], [], [], [(6, .map 186 130 true true)]⟩, false⟩, ⟨[4, 1, 1, 1, 4, 0, 1, 1, 5, 4, 1, 0, 1, 1, 11, 0, 1, 1], [], [12], ⟨[.int, .int, .int, .mp 186 130], [(3, .kp 9), (6, .kp 24), (10, .kp 0), (11, .kp 10), (12, .kp 14), (22, .kp 26), (23, .kp 27), (24, .v .int)], [(13, 186, [.v .int,.v .int])], [], [(6, .map 186 130 true true)]⟩, false⟩, ⟨[4, 1, 0, 1, 1, 12, 0, 1, 1], [], [6], ⟨[.itr, .lst 186], [(0, .kp 9), (3, .own 0), (14, .kp 18)], [], [186], [(13, .itr 6)]⟩, false⟩, ⟨[4, 1, 0, 1, 1, 1, 1, 1, 1, 12, 0, 1, 1], [], [13, 19, 6], ⟨[.int, .int, .int, .lst 70, .lst 130], [(0, .kp 9), (5, .own 0), (6, .kp 28), (26, .kp 29), (27, .kp 30), (28, .v .int)], [(20, 186, [.v .int,.v .int])], [300070, 130], []⟩, false⟩, ⟨[1, 4, 0, 1, 1, 5, 4, 1, 0, 1, 1, 1, 1, 1, 1, 12, 0, 1, 1], [], [36, 20], ⟨[.lst 70, .lst 130], [(0, .kp 9), (5, .own 0), (6, .kp 28), (8, .kp 42), (26, .kp 29), (27, .kp 30), (28, .kp 38)], [], [300070, 130], []⟩, true⟩]
def ct41 : Ct DD := ⟨41, [79, 3, 70], [70], [[false, false, true]], false, fun x Φ => Z34 x.1 x.2.1 x.2.2.1 fun y => Φ (y, ())⟩
def pl41 : List PE := [⟨[4, 1, 0, 1, 1], [5, 6], [6, 5, 3, 1, 0], ⟨[.lst 130], [], [(2, 70, [.kp 21,.kp 22,.own 0])], [130], []⟩, false⟩, ⟨[4, 1, 1, 4, 7, 4, 1, 0, 1, 1], [], [32], ⟨[.int, .lst 130], [(5, .kp 12), (8, .kp 36), (29, .kp 43), (30, .v .int)], [(2, 70, [.kp 21,.kp 22,.own 0])], [130], []⟩, false⟩, ⟨[0, 4, 7, 4, 1, 0, 1, 1], [], [32, 2, 31], ⟨[.bool], [(5, .kp 12), (8, .kp 36), (26, .v .bool)], [], [], []⟩, true⟩]
def ct9 : Ct DD := ⟨9, [25, 3, 22], [25, 29, 30], [[false, true, true, true, true], [false, false, false, true, true], [false]], false, fun x Φ => cycle_Close_W x.1 x.2.1 x.2.2.1 fun y => Φ (y.1, y.2.1, y.2.2, ())⟩
def pl9 : List PE := [⟨[4, 1, 0, 1, 1, 1, 1, 1, 1, 11, 0, 1, 1], [5], [5, 4, 3, 2, 1, 0], ⟨[.int], [(1, .kp 7), (3, .kp 15), (38, .kp 42), (39, .kp 43), (40, .v .int)], [], [], []⟩, false⟩, ⟨[1, 4, 0, 1, 1, 5, 4, 1, 0, 1, 1, 1, 1, 1, 1, 11, 0, 1, 1], [], [], ⟨[], [], [], [8], []⟩, false⟩, ⟨[4, 1, 0, 1, 1, 12, 0, 1, 1, 1, 1, 1], [], [67, 66, 5, 4, 3, 2, 1, 0], ⟨[.int, .lst 3], [(2, .kp 71), (4, .kp 72), (5, .own 0), (14, .kp 77), (15, .kp 78), (16, .v .int)], [], [3], []⟩, false⟩, ⟨[4, 1, 0, 1, 1, 1, 1, 12, 0, 1, 1, 1, 1, 1], [], [67, 66, 5, 4, 3, 2, 1, 0], ⟨[.int, .lst 3, .lst 4], [(4, .kp 72), (5, .own 0), (8, .kp 98), (41, .kp 89), (42, .kp 100), (43, .v .int)], [(92, 79, [.kp 102,.kp 103,.kp 104,.kp 105,.kp 106,.own 1])], [3, 4], []⟩, false⟩, ⟨[4, 1, 0, 1, 12, 0, 1, 11, 0, 1, 1, 1, 1, 1, 12, 0, 1, 1, 1, 1, 1], [], [92, 108, 109, 67, 66, 5, 4, 3, 2, 1, 0], ⟨[.int], [(0, .kp 110), (1, .kp 111), (7, .kp 114), (8, .v .int)], [], [], []⟩, false⟩, ⟨[4, 1, 0, 1, 1, 1, 1, 1, 1, 1], [119, 109, 120], [120, 119, 117, 92, 108, 109, 67, 66, 5, 4, 3, 2, 1, 0], ⟨[.lst 70], [], [(118, 23, [.own 0])], [70], []⟩, false⟩, ⟨[4, 1, 0, 1, 1, 1, 1, 1, 1, 1, 1, 1, 1, 1, 1], [164, 165], [165, 164, 162, 163, 161, 160, 2, 118, 159, 120, 119, 117, 92, 108, 109, 67, 66, 5, 4, 3, 0], ⟨[.lst 3, .lst 70], [], [(1, 25, [.kp 187,.kp 188,.kp 189,.own 0,.own 1])], [3, 70], []⟩, false⟩, ⟨[4, 1, 0, 1, 1, 1, 1, 1, 1, 1], [119, 109, 120], [120, 119, 117, 92, 108, 109, 67, 66, 5, 4, 3, 2, 1, 0], ⟨[.lst 70], [], [(118, 23, [.own 0])], [70], []⟩, false⟩, ⟨[4, 1, 0, 1, 1, 1, 1, 1, 1, 1, 1, 1, 1, 1, 1], [164, 165], [165, 164, 162, 163, 161, 160, 2, 118, 159, 120, 119, 117, 92, 108, 109, 67, 66, 5, 4, 3, 0], ⟨[.lst 3, .lst 70], [], [(1, 25, [.kp 187,.kp 188,.kp 189,.own 0,.own 1])], [3, 70], []⟩, false⟩]
def ct91 : Ct DD := ⟨91, [68, 68], [4], [[false]], true, fun x Φ => Z44 x.1 x.2.1 fun y => Φ (y, ())⟩
def pl91 : List PE := [⟨[4, 1, 0, 1, 1], [], [], ⟨[.int], [(0, .kp 0), (1, .kp 1), (5, .v .int)], [], [], []⟩, false⟩]
def ct47 : Ct DD := ⟨47, [23, 23], [4], [[false]], true, fun x Φ => Z46 x.1 x.2.1 fun y => Φ (y, ())⟩
def pl47 : List PE := [⟨[4, 1, 0, 1, 1], [], [], ⟨[.int], [(0, .kp 0), (1, .kp 1), (5, .v .int)], [], [], []⟩, false⟩]
def ct30 : Ct DD := ⟨30, [23, 23], [4], [[false]], true, fun x Φ => ref22_Same_W x.1 x.2.1 fun y => Φ (y, ())⟩
def pl30 : List PE := []
def ct150 : Ct DD := ⟨150, [222, 222], [222, 222], [[false], [false]], true, fun x Φ => Z47 x.1 x.2.1 fun y => Φ (y.1, y.2, ())⟩
def pl150 : List PE := []
def ct134 : Ct DD := ⟨134, [198, 198], [198, 198], [[false], [false]], true, fun x Φ => Z48 x.1 x.2.1 fun y => Φ (y.1, y.2, ())⟩
def pl134 : List PE := []
def ct92 : Ct DD := ⟨92, [22, 3], [22], [[true]], false, fun x Φ => Z51 x.1 x.2.1 fun y => Φ (y, ())⟩
def pl92 : List PE := [⟨[4, 0, 1, 1, 1, 1, 1, 1], [], [], ⟨[.int, .lst 3], [(7, .own 0), (8, .v .int)], [], [3], []⟩, false⟩, ⟨[0, 1, 1, 1], [], [], ⟨[.bool], [(0, .kp 0), (6, .kp 15), (26, .v .bool)], [], [], []⟩, true⟩]
def ct48 : Ct DD := ⟨48, [], [22], [[true]], false, fun _ Φ => Z52 fun y => Φ (y, ())⟩
def pl48 : List PE := []
def ct73 : Ct DD := ⟨73, [23, 22], [30], [[false]], true, fun x Φ => Z54 x.1 x.2.1 fun y => Φ (y, ())⟩
def pl73 : List PE := [⟨[4, 1, 0, 1, 12, 0, 1, 1, 1], [0], [1, 0], ⟨[.int], [(0, .kp 2), (1, .kp 3), (9, .kp 5), (10, .kp 6), (11, .v .int)], [], [], []⟩, false⟩]
def ct24 : Ct DD := ⟨24, [29, 22], [30], [[false]], true, fun x Φ => cycle_Check_W x.1 x.2.1 fun y => Φ (y, ())⟩
def pl24 : List PE := [⟨[4, 0, 1, 1], [], [1, 0], ⟨[.bool], [(1, .kp 3), (2, .kp 4), (16, .v .bool)], [], [], []⟩, true⟩]
def ct94 : Ct DD := ⟨94, [151], [23], [[true]], false, fun x Φ => Z59 x.1 fun y => Φ (y, ())⟩
def pl94 : List PE := [⟨[4, 1, 0, 1, 1], [], [], ⟨[.int, .int], [(0, .kp 0), (3, .v .int), (9, .kp 3), (10, .kp 4), (11, .v .int)], [], [], []⟩, false⟩, ⟨[4, 1, 0, 1, 1, 1, 1], [], [], ⟨[.int, .lst 70], [(6, .own 0), (25, .kp 0), (26, .kp 11), (27, .v .int)], [], [70], []⟩, false⟩, ⟨[1, 1, 1], [], [], ⟨[.lst 70], [(0, .kp 0), (6, .own 0)], [], [70], []⟩, true⟩]
def ct49 : Ct DD := ⟨49, [23, 23], [23, 30], [[true], [false]], false, fun x Φ => Z68 x.1 x.2.1 fun y => Φ (y.1, y.2, ())⟩
def pl49 : List PE := [⟨[4, 1, 0, 1], [], [0], ⟨[.int], [(0, .kp 1), (1, .kp 2), (11, .kp 7), (12, .kp 8), (13, .v .int)], [], [], []⟩, false⟩, ⟨[1, 4, 0, 1, 1, 5, 4, 1, 0, 1], [], [], ⟨[.int], [(0, .kp 1), (1, .kp 2), (8, .v .int), (11, .kp 7), (12, .kp 8), (13, .kp 10)], [], [], []⟩, true⟩, ⟨[4, 1, 0, 1, 11, 0, 1, 4, 0, 1, 1, 5, 4, 1, 0, 1], [], [], ⟨[.int], [(0, .kp 14), (1, .kp 15), (9, .kp 14), (10, .kp 17), (11, .v .int)], [], [], []⟩, false⟩, ⟨[4, 1, 0, 1, 1, 14, 0, 1, 1], [], [11, 10, 0], ⟨[.int, .mp 186 130], [(3, .kp 16), (10, .kp 17), (11, .kp 18), (12, .v .int)], [], [], [(12, .map 186 130 true true)]⟩, false⟩, ⟨[4, 1, 1, 1, 4, 0, 1, 1, 5, 4, 1, 0, 1, 1, 14, 0, 1, 1], [], [20], ⟨[.int, .int, .int, .mp 186 130], [(3, .kp 16), (6, .kp 32), (10, .kp 17), (11, .kp 18), (12, .kp 22), (22, .kp 34), (23, .kp 35), (24, .v .int)], [(21, 186, [.v .int,.v .int])], [], [(12, .map 186 130 true true)]⟩, false⟩, ⟨[4, 1, 0, 1, 1, 15, 0, 1, 1], [], [12, 11, 10, 0], ⟨[.itr, .lst 186], [(0, .kp 16), (3, .own 0), (14, .kp 26)], [], [186], [(21, .itr 12)]⟩, false⟩, ⟨[4, 1, 0, 1, 1, 1, 1, 1, 1, 15, 0, 1, 1], [], [21, 27, 12, 11, 10, 0], ⟨[.int, .int, .int, .lst 70, .lst 130], [(0, .kp 16), (5, .own 0), (6, .kp 36), (26, .kp 37), (27, .kp 38), (28, .v .int)], [(28, 186, [.v .int,.v .int])], [300070, 130], []⟩, false⟩, ⟨[1, 4, 0, 1, 1, 5, 4, 1, 0, 1, 1, 1, 1, 1, 1, 15, 0, 1, 1], [], [44, 28], ⟨[.lst 70, .lst 130], [(0, .kp 16), (5, .own 0), (6, .kp 36), (8, .kp 50), (26, .kp 37), (27, .kp 38), (28, .kp 46)], [], [300070, 130], []⟩, true⟩]
def ct15 : Ct DD := ⟨15, [29, 29], [29, 30], [[false, false, false, true, true], [false]], false, fun x Φ => Z71 x.1 x.2.1 fun y => Φ (y.1, y.2, ())⟩
def pl15 : List PE := [⟨[4, 1, 0, 1], [], [3, 1, 0], ⟨[.int], [(2, .kp 6), (3, .kp 7), (4, .kp 8), (15, .kp 12), (16, .kp 13), (17, .v .int)], [(2, 29, [.kp 15,.kp 16,.kp 17,.kp 18,.kp 19])], [], []⟩, false⟩, ⟨[4, 1, 0, 1, 1, 1], [], [3, 1, 0], ⟨[.int], [(2, .kp 6), (3, .kp 7), (4, .kp 8), (53, .kp 28), (54, .kp 47), (55, .v .int)], [(2, 29, [.kp 15,.kp 16,.kp 17,.kp 18,.kp 19])], [], []⟩, false⟩]
def ct8 : Ct DD := ⟨8, [], [4], [[false]], true, fun _ Φ => law23_awake_W fun y => Φ (y, ())⟩
def pl8 : List PE := [⟨[1, 1, 1, 1, 1, 1], [26, 28], [29, 23, 24, 25, 26, 27, 28, 22, 18, 19, 20, 21, 17, 16, 12, 13, 14, 15, 3, 11, 10, 6, 7, 8, 9, 5, 4, 1, 2, 0], ⟨[], [(1, .kp 36), (6, .kp 69)], [], [], []⟩, true⟩]
def ct84 : Ct DD := ⟨84, [22], [3], [[false]], true, fun x Φ => ref07_Sizes_W x.1 fun y => Φ (y, ())⟩
def pl84 : List PE := [⟨[4, 1, 0, 1, 1], [], [], ⟨[.int], [(0, .kp 0), (3, .v .int)], [], [], []⟩, false⟩]
def ct85 : Ct DD := ⟨85, [22], [3], [[false]], true, fun x Φ => Z75 x.1 fun y => Φ (y, ())⟩
def pl85 : List PE := [⟨[4, 1, 0, 1], [], [], ⟨[.int], [(0, .kp 0), (3, .v .int)], [], [], []⟩, false⟩]
def ct86 : Ct DD := ⟨86, [22, 70], [3], [[false]], true, fun x Φ => Z76 x.1 x.2.1 fun y => Φ (y, ())⟩
def pl86 : List PE := []
def ct42 : Ct DD := ⟨42, [25], [3], [[false]], true, fun x Φ => Z78 x.1 fun y => Φ (y, ())⟩
def pl42 : List PE := [⟨[4, 1, 0, 1, 1, 1, 1, 1, 1], [], [0], ⟨[.int], [(1, .kp 2), (5, .v .int)], [], [], []⟩, false⟩]
def ct43 : Ct DD := ⟨43, [22], [22], [[true]], false, fun x Φ => ref23_ints_W x.1 fun y => Φ (y, ())⟩
def pl43 : List PE := []
def ct131 : Ct DD := ⟨131, [70, 3, 3], [3, 4], [[false], [false]], true, fun x Φ => ref22_holds_W x.1 x.2.1 x.2.2.1 fun y => Φ (y.1, y.2, ())⟩
def pl131 : List PE := [⟨[0, 1, 1], [], [0], ⟨[.bool], [(2, .kp 3), (3, .kp 4), (32, .v .bool)], [], [], []⟩, true⟩, ⟨[0, 1], [], [0], ⟨[.bool], [(2, .kp 3), (3, .kp 4), (25, .v .bool)], [], [], []⟩, true⟩]
def ct88 : Ct DD := ⟨88, [23, 3, 3], [130, 4], [[false, false, false, false, false, false, false, false], [false]], true, fun x Φ => Z82 x.1 x.2.1 x.2.2.1 fun y => Φ (y.1, y.2, ())⟩
def pl88 : List PE := [⟨[4, 1, 0, 1], [], [], ⟨[.int], [(0, .kp 1), (1, .kp 2), (2, .kp 3), (6, .kp 4), (8, .v .int)], [(0, 130, [.kp 10,.kp 11,.kp 12,.kp 13,.kp 14,.kp 15,.kp 16,.kp 17])], [], []⟩, false⟩]
def ct44 : Ct DD := ⟨44, [70, 23], [70], [[false, false, true]], false, fun x Φ => Z84 x.1 x.2.1 fun y => Φ (y, ())⟩
def pl44 : List PE := [⟨[8, 4, 1, 0, 1, 1, 12, 0, 1], [], [], ⟨[.lst 2], [], [], [2], []⟩, false⟩, ⟨[4, 1, 0, 1, 1], [], [5, 4, 2, 1, 0], ⟨[.int, .lst 130], [(1, .kp 8), (2, .kp 9), (4, .kp 10), (5, .kp 16), (6, .v .int)], [(6, 70, [.kp 18,.kp 19,.own 0])], [130], []⟩, false⟩]
def ct25 : Ct DD := ⟨25, [], [22], [[true]], false, fun _ Φ => ref22_Most_W fun y => Φ (y, ())⟩
def pl25 : List PE := [⟨[4, 1, 0, 1, 1], [], [], ⟨[.int, .lst 3], [(1, .own 0), (2, .v .int)], [], [3], []⟩, false⟩]
def ct133 : Ct DD := ⟨133, [77], [148], [[true]], false, fun x Φ => ref01_List_W x.1 fun y => Φ (y, ())⟩
def pl133 : List PE := [⟨[4, 1, 0, 1, 1], [], [], ⟨[.int, .lst 195], [(0, .kp 0), (3, .own 0), (4, .v .int)], [], [195], []⟩, false⟩, ⟨[1, 4, 0, 1, 5, 4, 1, 0, 1, 1], [], [4], ⟨[.bool], [(0, .kp 0), (3, .kp 5), (4, .kp 6), (24, .v .bool)], [], [], []⟩, true⟩]
def ct90 : Ct DD := ⟨90, [23, 3], [148], [[true]], false, fun x Φ => Z88 x.1 x.2.1 fun y => Φ (y, ())⟩
def pl90 : List PE := [⟨[4, 1, 0, 1, 1], [], [], ⟨[.int, .lst 4], [(0, .kp 1), (1, .kp 2), (5, .own 0), (6, .v .int)], [], [4], []⟩, false⟩, ⟨[2, 1, 4, 0, 1, 5, 4, 1, 0, 1, 1], [], [], ⟨[], [], [], [13], []⟩, false⟩, ⟨[4, 1, 1, 1, 1, 1, 23, 2, 1, 4, 0, 1, 5, 4, 1, 0, 1, 1], [], [18], ⟨[.int, .lst 4], [(0, .kp 8), (5, .kp 38), (6, .v .int)], [], [], [(7, .row 4)]⟩, false⟩, ⟨[1, 1, 1, 23, 2, 1, 4, 0, 1, 5, 4, 1, 0, 1, 1], [], [18, 7], ⟨[.int, .int], [(0, .kp 8), (4, .v .int), (5, .v .int)], [], [], []⟩, true⟩]
def ct89 : Ct DD := ⟨89, [23, 3, 148], [23], [[true]], false, fun x Φ => ref22_pick_W x.1 x.2.1 x.2.2.1 fun y => Φ (y, ())⟩
def pl89 : List PE := [⟨[4, 1, 0, 1, 1], [], [], ⟨[.int, .lst 70], [(0, .kp 0), (1, .kp 1), (2, .kp 2), (7, .own 0), (8, .v .int)], [], [70], []⟩, false⟩, ⟨[4, 1, 0, 1, 4, 0, 1, 5, 4, 1, 0, 1, 1], [], [6], ⟨[.int, .lst 130], [(0, .kp 0), (1, .kp 1), (2, .kp 2), (7, .kp 8), (8, .kp 9), (9, .kp 18), (10, .v .int)], [(7, 70, [.kp 20,.kp 21,.own 0])], [130], []⟩, false⟩]
def ct45 : Ct DD := ⟨45, [23], [23, 3], [[true], [false]], false, fun x Φ => ref22_Fold_W x.1 fun y => Φ (y.1, y.2, ())⟩
def pl45 : List PE := [⟨[4, 1, 0, 1], [], [], ⟨[.int], [(0, .kp 0), (4, .v .int)], [], [], []⟩, false⟩, ⟨[4, 1, 0, 1, 1, 1], [], [], ⟨[.int, .lst 70], [(0, .kp 0), (6, .own 0), (7, .v .int)], [], [70], []⟩, false⟩]
def ct10 : Ct DD := ⟨10, [25, 3, 22], [25, 29, 3], [[false, true, true, true, true], [false, false, false, true, true], [false]], false, fun x Φ => ref23_Close_W x.1 x.2.1 x.2.2.1 fun y => Φ (y.1, y.2.1, y.2.2, ())⟩
def pl10 : List PE := [⟨[4, 1, 0, 1, 1, 1, 1, 1], [], [0], ⟨[.int, .lst 3], [(1, .kp 4), (2, .kp 5), (3, .kp 6), (6, .kp 7), (7, .kp 8), (10, .own 0), (11, .v .int)], [(2, 29, [.kp 15,.kp 16,.kp 17,.kp 18,.kp 19]), (1, 25, [.kp 20,.kp 21,.kp 22,.kp 23,.kp 24])], [3], []⟩, false⟩, ⟨[4, 1, 0, 1, 4, 0, 1, 5, 4, 1, 0, 1, 1, 1, 1, 1], [], [2, 1, 40], ⟨[.int, .int], [(1, .kp 4), (2, .kp 5), (3, .kp 6), (6, .kp 7), (7, .kp 8), (10, .kp 41), (11, .kp 42), (12, .v .int), (13, .v .int)], [], [], []⟩, false⟩, ⟨[0, 1, 1, 4, 0, 1, 5, 4, 1, 0, 1, 1, 1, 1, 1], [], [2, 1, 40], ⟨[.bool], [(1, .kp 4), (2, .kp 5), (3, .kp 6), (6, .kp 7), (7, .kp 8), (10, .kp 41), (11, .kp 42), (94, .v .bool)], [], [], []⟩, true⟩, ⟨[4, 1, 0, 1, 1, 1, 1, 1, 1, 1, 1], [], [2, 1, 0], ⟨[.int, .lst 3, .lst 4, .lst 70], [(1, .kp 4), (2, .kp 5), (3, .kp 6), (6, .kp 7), (7, .kp 8), (10, .own 0), (14, .own 1), (15, .own 2), (16, .v .int)], [], [3, 4, 70], []⟩, false⟩, ⟨[4, 1, 0, 1, 1, 1, 1, 1, 1, 1, 1, 1, 1], [], [56, 57, 53, 54, 55, 2, 1, 0], ⟨[.int, .lst 3, .lst 70], [(1, .kp 4), (2, .kp 5), (3, .kp 6), (6, .kp 7), (7, .kp 8), (14, .kp 60), (15, .kp 61), (17, .kp 73), (18, .v .int)], [(58, 25, [.kp 75,.kp 76,.kp 77,.own 0,.own 1])], [3, 70], []⟩, false⟩, ⟨[4, 1, 0, 1, 1, 4, 0, 1, 5, 4, 1, 0, 1, 1, 1, 1, 1, 1, 1, 1, 1, 1], [], [58, 80, 81], ⟨[.int, .lst 70], [(1, .kp 4), (2, .kp 5), (3, .kp 6), (6, .kp 7), (7, .kp 8), (14, .kp 60), (15, .kp 61), (17, .kp 73), (18, .kp 82), (19, .own 0), (20, .v .int)], [], [70], []⟩, false⟩, ⟨[0, 1, 1], [], [2, 1, 0], ⟨[.bool], [(1, .kp 4), (2, .kp 5), (3, .kp 6), (6, .kp 7), (7, .kp 8), (35, .v .bool)], [], [], []⟩, true⟩]
def ct46 : Ct DD := ⟨46, [22, 22], [4], [[false]], true, fun x Φ => Z97 x.1 x.2.1 fun y => Φ (y, ())⟩
def pl46 : List PE := [⟨[4, 1, 0, 1, 1], [], [], ⟨[.int], [(0, .kp 0), (1, .kp 1), (5, .v .int)], [], [], []⟩, false⟩]
def ct11 : Ct DD := ⟨11, [25, 25], [4], [[false]], true, fun x Φ => Z98 x.1 x.2.1 fun y => Φ (y, ())⟩
def pl11 : List PE := []
def ct12 : Ct DD := ⟨12, [29, 29], [4], [[false]], true, fun x Φ => ref23_Same_W x.1 x.2.1 fun y => Φ (y, ())⟩
def pl12 : List PE := []
def ct3 : Ct DD := ⟨3, [25, 3, 22], [4], [[false]], true, fun x Φ => Z100 x.1 x.2.1 x.2.2.1 fun y => Φ (y, ())⟩
def pl3 : List PE := [⟨[0, 1], [], [0], ⟨[.bool], [(1, .kp 2), (2, .kp 3), (3, .kp 4), (20, .v .bool)], [], [], []⟩, true⟩]
theorem eq9 (x : TupD DD ct9.ps) (Φ : TupD DD ct9.rs → Prop) : ct9.W x Φ = topD ⟨Tryz.prog, tab, [ct35, ct38, ct40, ct41, ct71, ct72, ct79, ct125], pl9, [it80], gh, [], [([18, 0, 1, 4, 0, 1, 1, 5, 4, 1, 0, 1, 1, 12, 0, 1, 1, 1, 1, 1], 0)]⟩ 9 ct9.f ct9.ps ct9.rs ct9.own x Φ := by kernel_rfl
theorem eq47 (x : TupD DD ct47.ps) (Φ : TupD DD ct47.rs → Prop) : ct47.W x Φ = topF ⟨Tryz.prog, tab, [ct91], pl47, [], gh, [], []⟩ 9 ct47.f ct47.ps ct47.rs ct47.own x Φ := by kernel_rfl
theorem eq3 (x : TupD DD ct3.ps) (Φ : TupD DD ct3.rs → Prop) : ct3.W x Φ = topF ⟨Tryz.prog, tab, [ct7, ct8, ct9, ct10, ct11, ct12], pl3, [], gh, [], []⟩ 9 ct3.f ct3.ps ct3.rs ct3.own x Φ := by kernel_rfl
theorem eqi80 (x : TupD DD it80.cs) (l : List (TupD DD it80.ts)) : it80.W x l = iterF ⟨Tryz.prog, tab, [], pl80, [], gh, [], []⟩ it80.f it80.cs it80.ts x l := by kernel_rfl
theorem eq72 (x : TupD DD ct72.ps) (Φ : TupD DD ct72.rs → Prop) : ct72.W x Φ = topF ⟨Tryz.prog, tab, [ct35, ct123], pl72, [], gh, [], []⟩ 9 ct72.f ct72.ps ct72.rs ct72.own x Φ := by kernel_rfl
theorem eq150 (x : TupD DD ct150.ps) (Φ : TupD DD ct150.rs → Prop) : ct150.W x Φ = topF ⟨Tryz.prog, tab, [], pl150, [], gh, [], []⟩ 9 ct150.f ct150.ps ct150.rs ct150.own x Φ := by kernel_rfl
theorem eq91 (x : TupD DD ct91.ps) (Φ : TupD DD ct91.rs → Prop) : ct91.W x Φ = topF ⟨Tryz.prog, tab, [], pl91, [], gh, [], []⟩ 9 ct91.f ct91.ps ct91.rs ct91.own x Φ := by kernel_rfl
theorem eq46 (x : TupD DD ct46.ps) (Φ : TupD DD ct46.rs → Prop) : ct46.W x Φ = topF ⟨Tryz.prog, tab, [], pl46, [], gh, [], []⟩ 9 ct46.f ct46.ps ct46.rs ct46.own x Φ := by kernel_rfl
theorem eq25 (x : TupD DD ct25.ps) (Φ : TupD DD ct25.rs → Prop) : ct25.W x Φ = topF ⟨Tryz.prog, tab, [], pl25, [], gh, [], []⟩ 9 ct25.f ct25.ps ct25.rs ct25.own x Φ := by kernel_rfl
theorem eq130 (x : TupD DD ct130.ps) (Φ : TupD DD ct130.rs → Prop) : ct130.W x Φ = topF ⟨Tryz.prog, tab, [ct147, ct148], pl130, [], gh, [], []⟩ 9 ct130.f ct130.ps ct130.rs ct130.own x Φ := by kernel_rfl
theorem eq128 (x : TupD DD ct128.ps) (Φ : TupD DD ct128.rs → Prop) : ct128.W x Φ = topF ⟨Tryz.prog, tab, [], pl128, [], gh, [], []⟩ 9 ct128.f ct128.ps ct128.rs ct128.own x Φ := by kernel_rfl
theorem eq52 (x : TupD DD ct52.ps) (Φ : TupD DD ct52.rs → Prop) : ct52.W x Φ = topF ⟨Tryz.prog, tab, [ct96, ct97], pl52, [], gh, [], []⟩ 9 ct52.f ct52.ps ct52.rs ct52.own x Φ := by kernel_rfl
theorem eq123 (x : TupD DD ct123.ps) (Φ : TupD DD ct123.rs → Prop) : ct123.W x Φ = topF ⟨Tryz.prog, tab, [ct35], pl123, [], gh, [], []⟩ 9 ct123.f ct123.ps ct123.rs ct123.own x Φ := by kernel_rfl
theorem eq79 (x : TupD DD ct79.ps) (Φ : TupD DD ct79.rs → Prop) : ct79.W x Φ = topF ⟨Tryz.prog, tab, [], pl79, [], gh, [], []⟩ 9 ct79.f ct79.ps ct79.rs ct79.own x Φ := by kernel_rfl
theorem eq49 (x : TupD DD ct49.ps) (Φ : TupD DD ct49.rs → Prop) : ct49.W x Φ = topF ⟨Tryz.prog, tab, [ct81, ct94, ct128], pl49, [], gh, [tn129], [([11, 0, 1, 1, 1, 1, 1, 1, 1, 15, 0, 1, 1], 0), ([16, 2, 1, 0, 1, 4, 0, 1, 1, 5, 4, 1, 0, 1, 1, 1, 1, 1, 1, 15, 0, 1, 1], 130002), ([17, 2, 1, 0, 1, 4, 0, 1, 1, 5, 4, 1, 0, 1, 1, 1, 1, 1, 1, 15, 0, 1, 1], 0)]⟩ 9 ct49.f ct49.ps ct49.rs ct49.own x Φ := by kernel_rfl
theorem eq44 (x : TupD DD ct44.ps) (Φ : TupD DD ct44.rs → Prop) : ct44.W x Φ = topF ⟨Tryz.prog, tab, [ct88], pl44, [], gh, [], [([1000031], 130002), ([1000032], 0)]⟩ 9 ct44.f ct44.ps ct44.rs ct44.own x Φ := by kernel_rfl
theorem eq15 (x : TupD DD ct15.ps) (Φ : TupD DD ct15.rs → Prop) : ct15.W x Φ = topF ⟨Tryz.prog, tab, [ct24, ct40, ct48, ct49], pl15, [], gh, [], []⟩ 9 ct15.f ct15.ps ct15.rs ct15.own x Φ := by kernel_rfl
theorem eq42 (x : TupD DD ct42.ps) (Φ : TupD DD ct42.rs → Prop) : ct42.W x Φ = topF ⟨Tryz.prog, tab, [ct84, ct85, ct86], pl42, [], gh, [], []⟩ 9 ct42.f ct42.ps ct42.rs ct42.own x Φ := by kernel_rfl
theorem eq89 (x : TupD DD ct89.ps) (Φ : TupD DD ct89.rs → Prop) : ct89.W x Φ = topF ⟨Tryz.prog, tab, [ct88], pl89, [], gh, [], []⟩ 9 ct89.f ct89.ps ct89.rs ct89.own x Φ := by kernel_rfl
theorem eq131 (x : TupD DD ct131.ps) (Φ : TupD DD ct131.rs → Prop) : ct131.W x Φ = topF ⟨Tryz.prog, tab, [], pl131, [], gh, [], []⟩ 9 ct131.f ct131.ps ct131.rs ct131.own x Φ := by kernel_rfl
theorem eq99 (x : TupD DD ct99.ps) (Φ : TupD DD ct99.rs → Prop) : ct99.W x Φ = topF ⟨Tryz.prog, tab, [], pl99, [], gh, [], []⟩ 9 ct99.f ct99.ps ct99.rs ct99.own x Φ := by kernel_rfl
theorem eq26 (x : TupD DD ct26.ps) (Φ : TupD DD ct26.rs → Prop) : ct26.W x Φ = topF ⟨Tryz.prog, tab, [], pl26, [], gh, [], []⟩ 9 ct26.f ct26.ps ct26.rs ct26.own x Φ := by kernel_rfl
theorem eq29 (x : TupD DD ct29.ps) (Φ : TupD DD ct29.rs → Prop) : ct29.W x Φ = topF ⟨Tryz.prog, tab, [], pl29, [], gh, [], []⟩ 9 ct29.f ct29.ps ct29.rs ct29.own x Φ := by kernel_rfl
theorem eq97 (x : TupD DD ct97.ps) (Φ : TupD DD ct97.rs → Prop) : ct97.W x Φ = topF ⟨Tryz.prog, tab, [ct138], pl97, [], gh, [], []⟩ 9 ct97.f ct97.ps ct97.rs ct97.own x Φ := by kernel_rfl
theorem eq12 (x : TupD DD ct12.ps) (Φ : TupD DD ct12.rs → Prop) : ct12.W x Φ = topF ⟨Tryz.prog, tab, [ct46, ct47], pl12, [], gh, [], []⟩ 9 ct12.f ct12.ps ct12.rs ct12.own x Φ := by kernel_rfl
theorem eq147 (x : TupD DD ct147.ps) (Φ : TupD DD ct147.rs → Prop) : ct147.W x Φ = topF ⟨Tryz.prog, tab, [], pl147, [], gh, [], []⟩ 9 ct147.f ct147.ps ct147.rs ct147.own x Φ := by kernel_rfl
theorem eq125 (x : TupD DD ct125.ps) (Φ : TupD DD ct125.rs → Prop) : ct125.W x Φ = topF ⟨Tryz.prog, tab, [ct52, ct99], pl125, [], gh, [], []⟩ 9 ct125.f ct125.ps ct125.rs ct125.own x Φ := by kernel_rfl
theorem eq134 (x : TupD DD ct134.ps) (Φ : TupD DD ct134.rs → Prop) : ct134.W x Φ = topF ⟨Tryz.prog, tab, [ct150], pl134, [], gh, [], []⟩ 9 ct134.f ct134.ps ct134.rs ct134.own x Φ := by kernel_rfl
theorem eq122 (x : TupD DD ct122.ps) (Φ : TupD DD ct122.rs → Prop) : ct122.W x Φ = topF ⟨Tryz.prog, tab, [], pl122, [], gh, [], []⟩ 9 ct122.f ct122.ps ct122.rs ct122.own x Φ := by kernel_rfl
theorem eq48 (x : TupD DD ct48.ps) (Φ : TupD DD ct48.rs → Prop) : ct48.W x Φ = topF ⟨Tryz.prog, tab, [ct92], pl48, [], gh, [], []⟩ 9 ct48.f ct48.ps ct48.rs ct48.own x Φ := by kernel_rfl
theorem eq163 (x : TupD DD ct163.ps) (Φ : TupD DD ct163.rs → Prop) : ct163.W x Φ = topF ⟨Tryz.prog, tab, [], pl163, [], gh, [], []⟩ 9 ct163.f ct163.ps ct163.rs ct163.own x Φ := by kernel_rfl
theorem eq10 (x : TupD DD ct10.ps) (Φ : TupD DD ct10.rs → Prop) : ct10.W x Φ = topF ⟨Tryz.prog, tab, [ct42, ct43, ct44, ct45], pl10, [], gh, [], []⟩ 9 ct10.f ct10.ps ct10.rs ct10.own x Φ := by kernel_rfl
theorem eq8 (x : TupD DD ct8.ps) (Φ : TupD DD ct8.rs → Prop) : ct8.W x Φ = topF ⟨Tryz.prog, tab, [ct9, ct15, ct27, ct28, ct29, ct30], pl8, [], gh, [], []⟩ 9 ct8.f ct8.ps ct8.rs ct8.own x Φ := by kernel_rfl
theorem eq41 (x : TupD DD ct41.ps) (Φ : TupD DD ct41.rs → Prop) : ct41.W x Φ = topF ⟨Tryz.prog, tab, [ct35, ct77], pl41, [it80], gh, [], []⟩ 9 ct41.f ct41.ps ct41.rs ct41.own x Φ := by kernel_rfl
theorem eq133 (x : TupD DD ct133.ps) (Φ : TupD DD ct133.rs → Prop) : ct133.W x Φ = topF ⟨Tryz.prog, tab, [], pl133, [], gh, [], []⟩ 9 ct133.f ct133.ps ct133.rs ct133.own x Φ := by kernel_rfl
theorem eq45 (x : TupD DD ct45.ps) (Φ : TupD DD ct45.rs → Prop) : ct45.W x Φ = topF ⟨Tryz.prog, tab, [ct25, ct86, ct89, ct90], pl45, [], gh, [], []⟩ 9 ct45.f ct45.ps ct45.rs ct45.own x Φ := by kernel_rfl
theorem eq27 (x : TupD DD ct27.ps) (Φ : TupD DD ct27.rs → Prop) : ct27.W x Φ = topF ⟨Tryz.prog, tab, [ct35, ct40, ct71], pl27, [], gh, [], []⟩ 9 ct27.f ct27.ps ct27.rs ct27.own x Φ := by kernel_rfl
theorem eq86 (x : TupD DD ct86.ps) (Φ : TupD DD ct86.rs → Prop) : ct86.W x Φ = topF ⟨Tryz.prog, tab, [], pl86, [], gh, [], []⟩ 9 ct86.f ct86.ps ct86.rs ct86.own x Φ := by kernel_rfl
theorem eq96 (x : TupD DD ct96.ps) (Φ : TupD DD ct96.rs → Prop) : ct96.W x Φ = topF ⟨Tryz.prog, tab, [ct136], pl96, [], gh, [], []⟩ 9 ct96.f ct96.ps ct96.rs ct96.own x Φ := by kernel_rfl
theorem eq81 (x : TupD DD ct81.ps) (Φ : TupD DD ct81.rs → Prop) : ct81.W x Φ = topF ⟨Tryz.prog, tab, [], pl81, [], gh, [], []⟩ 9 ct81.f ct81.ps ct81.rs ct81.own x Φ := by kernel_rfl
theorem eq11 (x : TupD DD ct11.ps) (Φ : TupD DD ct11.rs → Prop) : ct11.W x Φ = topF ⟨Tryz.prog, tab, [ct46, ct47], pl11, [], gh, [], []⟩ 9 ct11.f ct11.ps ct11.rs ct11.own x Φ := by kernel_rfl
theorem eq148 (x : TupD DD ct148.ps) (Φ : TupD DD ct148.rs → Prop) : ct148.W x Φ = topF ⟨Tryz.prog, tab, [ct163], pl148, [], gh, [], []⟩ 9 ct148.f ct148.ps ct148.rs ct148.own x Φ := by kernel_rfl
theorem eq126 (x : TupD DD ct126.ps) (Φ : TupD DD ct126.rs → Prop) : ct126.W x Φ = topF ⟨Tryz.prog, tab, [], pl126, [], gh, [], []⟩ 9 ct126.f ct126.ps ct126.rs ct126.own x Φ := by kernel_rfl
theorem eq40 (x : TupD DD ct40.ps) (Φ : TupD DD ct40.rs → Prop) : ct40.W x Φ = topF ⟨Tryz.prog, tab, [], pl40, [], gh, [], []⟩ 9 ct40.f ct40.ps ct40.rs ct40.own x Φ := by kernel_rfl
theorem eq35 (x : TupD DD ct35.ps) (Φ : TupD DD ct35.rs → Prop) : ct35.W x Φ = topF ⟨Tryz.prog, tab, [], pl35, [], gh, [], []⟩ 9 ct35.f ct35.ps ct35.rs ct35.own x Φ := by kernel_rfl
theorem eq30 (x : TupD DD ct30.ps) (Φ : TupD DD ct30.rs → Prop) : ct30.W x Φ = topF ⟨Tryz.prog, tab, [ct47], pl30, [], gh, [], []⟩ 9 ct30.f ct30.ps ct30.rs ct30.own x Φ := by kernel_rfl
theorem eq43 (x : TupD DD ct43.ps) (Φ : TupD DD ct43.rs → Prop) : ct43.W x Φ = topF ⟨Tryz.prog, tab, [], pl43, [], gh, [], []⟩ 9 ct43.f ct43.ps ct43.rs ct43.own x Φ := by kernel_rfl
theorem eq38 (x : TupD DD ct38.ps) (Φ : TupD DD ct38.rs → Prop) : ct38.W x Φ = topF ⟨Tryz.prog, tab, [ct81, ct128], pl38, [], gh, [tn129], [([11, 0, 1, 1, 1, 1, 1, 1, 1, 12, 0, 1, 1], 0), ([16, 2, 1, 0, 1, 4, 0, 1, 1, 5, 4, 1, 0, 1, 1, 1, 1, 1, 1, 12, 0, 1, 1], 130002), ([17, 2, 1, 0, 1, 4, 0, 1, 1, 5, 4, 1, 0, 1, 1, 1, 1, 1, 1, 12, 0, 1, 1], 0)]⟩ 9 ct38.f ct38.ps ct38.rs ct38.own x Φ := by kernel_rfl
theorem eq28 (x : TupD DD ct28.ps) (Φ : TupD DD ct28.rs → Prop) : ct28.W x Φ = topD ⟨Tryz.prog, tab, [ct35, ct71, ct72, ct76, ct77, ct125], pl28, [], gh, [], []⟩ 9 ct28.f ct28.ps ct28.rs ct28.own x Φ := by kernel_rfl
theorem eq90 (x : TupD DD ct90.ps) (Φ : TupD DD ct90.rs → Prop) : ct90.W x Φ = topF ⟨Tryz.prog, tab, [ct133], pl90, [], gh, [], []⟩ 9 ct90.f ct90.ps ct90.rs ct90.own x Φ := by kernel_rfl
theorem eq94 (x : TupD DD ct94.ps) (Φ : TupD DD ct94.rs → Prop) : ct94.W x Φ = topF ⟨Tryz.prog, tab, [], pl94, [], gh, [], [([19, 2, 1, 1, 0, 1, 1, 11, 0, 1, 1, 1], 0)]⟩ 9 ct94.f ct94.ps ct94.rs ct94.own x Φ := by kernel_rfl
theorem eq73 (x : TupD DD ct73.ps) (Φ : TupD DD ct73.rs → Prop) : ct73.W x Φ = topF ⟨Tryz.prog, tab, [ct71, ct125], pl73, [], gh, [], []⟩ 9 ct73.f ct73.ps ct73.rs ct73.own x Φ := by kernel_rfl
theorem eq92 (x : TupD DD ct92.ps) (Φ : TupD DD ct92.rs → Prop) : ct92.W x Φ = topF ⟨Tryz.prog, tab, [ct134], pl92, [], gh, [], []⟩ 9 ct92.f ct92.ps ct92.rs ct92.own x Φ := by kernel_rfl
theorem eq76 (x : TupD DD ct76.ps) (Φ : TupD DD ct76.rs → Prop) : ct76.W x Φ = topF ⟨Tryz.prog, tab, [ct40, ct77], pl76, [], gh, [], []⟩ 9 ct76.f ct76.ps ct76.rs ct76.own x Φ := by kernel_rfl
theorem eq24 (x : TupD DD ct24.ps) (Φ : TupD DD ct24.rs → Prop) : ct24.W x Φ = topF ⟨Tryz.prog, tab, [ct35, ct71, ct72, ct73], pl24, [], gh, [], []⟩ 9 ct24.f ct24.ps ct24.rs ct24.own x Φ := by kernel_rfl
theorem eq71 (x : TupD DD ct71.ps) (Φ : TupD DD ct71.rs → Prop) : ct71.W x Φ = topF ⟨Tryz.prog, tab, [ct96, ct122], pl71, [], gh, [], []⟩ 9 ct71.f ct71.ps ct71.rs ct71.own x Φ := by kernel_rfl
theorem eq88 (x : TupD DD ct88.ps) (Φ : TupD DD ct88.rs → Prop) : ct88.W x Φ = topF ⟨Tryz.prog, tab, [ct131], pl88, [], gh, [], []⟩ 9 ct88.f ct88.ps ct88.rs ct88.own x Φ := by kernel_rfl
theorem eq84 (x : TupD DD ct84.ps) (Φ : TupD DD ct84.rs → Prop) : ct84.W x Φ = topF ⟨Tryz.prog, tab, [], pl84, [], gh, [], []⟩ 9 ct84.f ct84.ps ct84.rs ct84.own x Φ := by kernel_rfl
theorem eq85 (x : TupD DD ct85.ps) (Φ : TupD DD ct85.rs → Prop) : ct85.W x Φ = topF ⟨Tryz.prog, tab, [], pl85, [], gh, [], []⟩ 9 ct85.f ct85.ps ct85.rs ct85.own x Φ := by kernel_rfl
theorem eq7 (x : TupD DD ct7.ps) (Φ : TupD DD ct7.rs → Prop) : ct7.W x Φ = topF ⟨Tryz.prog, tab, [ct26], pl7, [], gh, [], []⟩ 9 ct7.f ct7.ps ct7.rs ct7.own x Φ := by kernel_rfl
theorem eq77 (x : TupD DD ct77.ps) (Φ : TupD DD ct77.rs → Prop) : ct77.W x Φ = topF ⟨Tryz.prog, tab, [ct126], pl77, [], gh, [], []⟩ 9 ct77.f ct77.ps ct77.rs ct77.own x Φ := by kernel_rfl
theorem eq136 (x : TupD DD ct136.ps) (Φ : TupD DD ct136.rs → Prop) : ct136.W x Φ = topF ⟨Tryz.prog, tab, [], pl136, [], gh, [], []⟩ 9 ct136.f ct136.ps ct136.rs ct136.own x Φ := by kernel_rfl
theorem eq138 (x : TupD DD ct138.ps) (Φ : TupD DD ct138.rs → Prop) : ct138.W x Φ = topF ⟨Tryz.prog, tab, [], pl138, [], gh, [], []⟩ 9 ct138.f ct138.ps ct138.rs ct138.own x Φ := by kernel_rfl
def cmpI (a b : Int) : Int := if a < b then -1 else if b < a then 1 else 0
def cmpP (a b : coalesce_place) : Int := if cmpI a.volume b.volume ≠ 0 then cmpI a.volume b.volume else cmpI a.sector b.sector
theorem cmpI_W (a b : Int) {Φ : Int → Prop} (h : Φ (cmpI a b)) : Z21 a b Φ := by
  unfold cmpI at h
  unfold Z21 Z20
  refine ⟨fun e => absurd e (by simp), fun _ => ⟨fun e => absurd e (by simp), fun _ => ⟨fun e => ?_, fun e => ⟨fun e2 => ?_, fun e2 => ?_⟩⟩⟩⟩
  · rw [if_pos e] at h; exact h
  · rw [if_neg e, if_pos e2] at h; exact h
  · rw [if_neg e, if_neg e2] at h; exact h
theorem before_ok (x y : coalesce_place) : Z22 x y fun v => v = cmpP x y := by
  unfold Z22
  refine ⟨(cmpI x.volume y.volume, ()), cmpI_W _ _ rfl, (cmpI x.sector y.sector, ()), cmpI_W _ _ rfl, (cmpP x y, ()), ?_, rfl⟩
  refine ⟨3, ⟨fun _ => ⟨⟨by decide, by simp⟩, fun h => ?_, fun h => ⟨by unfold inI; decide, ⟨fun _ => ⟨⟨by decide, by simp⟩, fun h2 => ?_, fun h2 => ⟨by unfold inI; decide, ⟨fun h3 => absurd h3 (by simp), fun _ => ?_⟩⟩⟩, fun h2 => absurd (show (0 + 1 : Int) < _ by simp) h2⟩⟩⟩, fun h => absurd (show (0 : Int) < _ by simp) h⟩⟩
  · have h : cmpI x.volume y.volume ≠ 0 := h
    show (cmpI x.volume y.volume, ()) = (cmpP x y, ())
    unfold cmpP
    rw [if_pos h]
  · have h : ¬ (cmpI x.volume y.volume ≠ 0) := h
    show (cmpI x.sector y.sector, ()) = (cmpP x y, ())
    unfold cmpP
    rw [if_neg h]
  · have h : ¬ (cmpI x.volume y.volume ≠ 0) := h
    have h2 : ¬ (cmpI x.sector y.sector ≠ 0) := h2
    show ((0 : Int), ()) = (cmpP x y, ())
    unfold cmpP
    rw [if_neg h, Decidable.not_not.1 h2]
theorem cmpI_lt {a b : Int} : cmpI a b < 0 ↔ a < b := by unfold cmpI; split <;> (try split) <;> omega
theorem cmpI_eq {a b : Int} : cmpI a b = 0 ↔ a = b := by unfold cmpI; split <;> (try split) <;> omega
theorem cmpP_lt {a b : coalesce_place} : cmpP a b < 0 ↔ a.volume < b.volume ∨ a.volume = b.volume ∧ a.sector < b.sector := by
  have h1 := cmpI_lt (a := a.volume) (b := b.volume)
  have h2 := cmpI_eq (a := a.volume) (b := b.volume)
  have h3 := cmpI_lt (a := a.sector) (b := b.sector)
  unfold cmpP
  split <;> omega
theorem ltP (a b : coalesce_place) : ltOf cmpP a b = decide (a.volume < b.volume ∨ a.volume = b.volume ∧ a.sector < b.sector) := by
  unfold ltOf
  exact decide_eq_decide.2 cmpP_lt
theorem swoP : Sort.SWO (ltOf cmpP) where
  irrefl x := by rw [ltP]; simp
  trans x y z h1 h2 := by rw [ltP] at *; simp only [decide_eq_true_eq] at *; omega
  ntrans x y z h1 h2 := by rw [ltP] at *; simp only [decide_eq_false_iff_not] at *; omega
theorem place_ext {x y : coalesce_place} (h1 : x.volume = y.volume) (h2 : x.sector = y.sector) : x = y := by
  cases x; cases y
  simp only at h1 h2
  subst h1 h2; rfl
theorem cmpP_total : ∀ x y : coalesce_place, ltOf cmpP x y = false → ltOf cmpP y x = false → x = y := fun x y h1 h2 => by
  rw [ltP] at *
  simp only [decide_eq_false_iff_not] at *
  exact place_ext (by omega) (by omega)
theorem ple_total (a b : coalesce_place) : pleB a b = true ∨ pleB b a = true := by unfold pleB; simp only [decide_eq_true_eq]; omega
theorem ple_trans (a b c : coalesce_place) (h : pleB a b = true) (k : pleB b c = true) : pleB a c = true := by unfold pleB at *; simp only [decide_eq_true_eq] at *; omega
theorem ple_anti (a b : coalesce_place) (h : pleB a b = true) (k : pleB b a = true) : a = b := by unfold pleB at *; simp only [decide_eq_true_eq] at *; exact place_ext (by omega) (by omega)
theorem mergeP (l : List coalesce_place) : (l.mergeSort fun x y => !(ltOf cmpP) y x) = sortG pleB l := by
  have e : (fun x y : coalesce_place => !(ltOf cmpP) y x) = pleB := by
    funext x y
    rw [ltP]
    unfold pleB
    by_cases h : y.volume < x.volume ∨ y.volume = x.volume ∧ y.sector < x.sector
    · rw [decide_eq_true h, decide_eq_false (by omega)]; rfl
    · rw [decide_eq_false h, decide_eq_true (by omega)]; rfl
  rw [e]
  exact sortG_of ple_total ple_trans ple_anti (List.mergeSort_perm l _) (List.pairwise_mergeSort (fun a b c h k => ple_trans a b c h k) (fun a b => by have := ple_total a b; simpa using this) l)
theorem mo : Tryz.prog.follows .mixedOrders = true := by kernel_rfl
theorem ok26 : ct26.Ok Tryz.prog tab gh := Ct.lift (E := ⟨Tryz.prog, tab, [], pl26, [], gh, [], []⟩) ⟨tabOk, trivial, mo, trivial, ghUp, trivial⟩ 9 ct26 fun x Φ => by rw [eq26]; exact id
theorem ok7 : ct7.Ok Tryz.prog tab gh := Ct.lift (E := ⟨Tryz.prog, tab, [ct26], pl7, [], gh, [], []⟩) ⟨tabOk, ⟨ok26, trivial⟩, mo, trivial, ghUp, trivial⟩ 9 ct7 fun x Φ => by rw [eq7]; exact id
theorem ok136 : ct136.Ok Tryz.prog tab gh := Ct.lift (E := ⟨Tryz.prog, tab, [], pl136, [], gh, [], []⟩) ⟨tabOk, trivial, mo, trivial, ghUp, trivial⟩ 9 ct136 fun x Φ => by rw [eq136]; exact id
theorem ok96 : ct96.Ok Tryz.prog tab gh := Ct.lift (E := ⟨Tryz.prog, tab, [ct136], pl96, [], gh, [], []⟩) ⟨tabOk, ⟨ok136, trivial⟩, mo, trivial, ghUp, trivial⟩ 9 ct96 fun x Φ => by rw [eq96]; exact id
theorem ok122 : ct122.Ok Tryz.prog tab gh := Ct.lift (E := ⟨Tryz.prog, tab, [], pl122, [], gh, [], []⟩) ⟨tabOk, trivial, mo, trivial, ghUp, trivial⟩ 9 ct122 fun x Φ => by rw [eq122]; exact id
theorem ok71 : ct71.Ok Tryz.prog tab gh := Ct.lift (E := ⟨Tryz.prog, tab, [ct96, ct122], pl71, [], gh, [], []⟩) ⟨tabOk, ⟨ok96, ok122, trivial⟩, mo, trivial, ghUp, trivial⟩ 9 ct71 fun x Φ => by rw [eq71]; exact id
theorem ok35 : ct35.Ok Tryz.prog tab gh := Ct.lift (E := ⟨Tryz.prog, tab, [], pl35, [], gh, [], []⟩) ⟨tabOk, trivial, mo, trivial, ghUp, trivial⟩ 9 ct35 fun x Φ => by rw [eq35]; exact id
theorem ok40 : ct40.Ok Tryz.prog tab gh := Ct.lift (E := ⟨Tryz.prog, tab, [], pl40, [], gh, [], []⟩) ⟨tabOk, trivial, mo, trivial, ghUp, trivial⟩ 9 ct40 fun x Φ => by rw [eq40]; exact id
theorem ok27 : ct27.Ok Tryz.prog tab gh := Ct.lift (E := ⟨Tryz.prog, tab, [ct35, ct40, ct71], pl27, [], gh, [], []⟩) ⟨tabOk, ⟨ok35, ok40, ok71, trivial⟩, mo, trivial, ghUp, trivial⟩ 9 ct27 fun x Φ => by rw [eq27]; exact id
theorem ok29 : ct29.Ok Tryz.prog tab gh := Ct.lift (E := ⟨Tryz.prog, tab, [], pl29, [], gh, [], []⟩) ⟨tabOk, trivial, mo, trivial, ghUp, trivial⟩ 9 ct29 fun x Φ => by rw [eq29]; exact id
theorem ok123 : ct123.Ok Tryz.prog tab gh := Ct.lift (E := ⟨Tryz.prog, tab, [ct35], pl123, [], gh, [], []⟩) ⟨tabOk, ⟨ok35, trivial⟩, mo, trivial, ghUp, trivial⟩ 9 ct123 fun x Φ => by rw [eq123]; exact id
theorem ok72 : ct72.Ok Tryz.prog tab gh := Ct.lift (E := ⟨Tryz.prog, tab, [ct35, ct123], pl72, [], gh, [], []⟩) ⟨tabOk, ⟨ok35, ok123, trivial⟩, mo, trivial, ghUp, trivial⟩ 9 ct72 fun x Φ => by rw [eq72]; exact id
theorem ok138 : ct138.Ok Tryz.prog tab gh := Ct.lift (E := ⟨Tryz.prog, tab, [], pl138, [], gh, [], []⟩) ⟨tabOk, trivial, mo, trivial, ghUp, trivial⟩ 9 ct138 fun x Φ => by rw [eq138]; exact id
theorem ok97 : ct97.Ok Tryz.prog tab gh := Ct.lift (E := ⟨Tryz.prog, tab, [ct138], pl97, [], gh, [], []⟩) ⟨tabOk, ⟨ok138, trivial⟩, mo, trivial, ghUp, trivial⟩ 9 ct97 fun x Φ => by rw [eq97]; exact id
theorem ok52 : ct52.Ok Tryz.prog tab gh := Ct.lift (E := ⟨Tryz.prog, tab, [ct96, ct97], pl52, [], gh, [], []⟩) ⟨tabOk, ⟨ok96, ok97, trivial⟩, mo, trivial, ghUp, trivial⟩ 9 ct52 fun x Φ => by rw [eq52]; exact id
theorem ok99 : ct99.Ok Tryz.prog tab gh := Ct.lift (E := ⟨Tryz.prog, tab, [], pl99, [], gh, [], []⟩) ⟨tabOk, trivial, mo, trivial, ghUp, trivial⟩ 9 ct99 fun x Φ => by rw [eq99]; exact id
theorem ok125 : ct125.Ok Tryz.prog tab gh := Ct.lift (E := ⟨Tryz.prog, tab, [ct52, ct99], pl125, [], gh, [], []⟩) ⟨tabOk, ⟨ok52, ok99, trivial⟩, mo, trivial, ghUp, trivial⟩ 9 ct125 fun x Φ => by rw [eq125]; exact id
theorem ok126 : ct126.Ok Tryz.prog tab gh := Ct.lift (E := ⟨Tryz.prog, tab, [], pl126, [], gh, [], []⟩) ⟨tabOk, trivial, mo, trivial, ghUp, trivial⟩ 9 ct126 fun x Φ => by rw [eq126]; exact id
theorem ok77 : ct77.Ok Tryz.prog tab gh := Ct.lift (E := ⟨Tryz.prog, tab, [ct126], pl77, [], gh, [], []⟩) ⟨tabOk, ⟨ok126, trivial⟩, mo, trivial, ghUp, trivial⟩ 9 ct77 fun x Φ => by rw [eq77]; exact id
theorem ok76 : ct76.Ok Tryz.prog tab gh := Ct.lift (E := ⟨Tryz.prog, tab, [ct40, ct77], pl76, [], gh, [], []⟩) ⟨tabOk, ⟨ok40, ok77, trivial⟩, mo, trivial, ghUp, trivial⟩ 9 ct76 fun x Φ => by rw [eq76]; exact id
theorem ok28 : ct28.Ok Tryz.prog tab gh := Ct.liftD (E := ⟨Tryz.prog, tab, [ct35, ct71, ct72, ct76, ct77, ct125], pl28, [], gh, [], []⟩) ⟨tabOk, ⟨ok35, ok71, ok72, ok76, ok77, ok125, trivial⟩, mo, trivial, ghUp, trivial⟩ 9 ct28 fun x Φ => by rw [eq28]; exact id
theorem ok79 : ct79.Ok Tryz.prog tab gh := Ct.lift (E := ⟨Tryz.prog, tab, [], pl79, [], gh, [], []⟩) ⟨tabOk, trivial, mo, trivial, ghUp, trivial⟩ 9 ct79 fun x Φ => by rw [eq79]; exact id
theorem itok80 : it80.Ok Tryz.prog gh := It.lift (E := ⟨Tryz.prog, tab, [], pl80, [], gh, [], []⟩) ⟨tabOk, trivial, mo, trivial, ghUp, trivial⟩ it80 fun x l => by rw [eqi80]; exact id
theorem ok81 : ct81.Ok Tryz.prog tab gh := Ct.lift (E := ⟨Tryz.prog, tab, [], pl81, [], gh, [], []⟩) ⟨tabOk, trivial, mo, trivial, ghUp, trivial⟩ 9 ct81 fun x Φ => by rw [eq81]; exact id
theorem ok128 : ct128.Ok Tryz.prog tab gh := Ct.lift (E := ⟨Tryz.prog, tab, [], pl128, [], gh, [], []⟩) ⟨tabOk, trivial, mo, trivial, ghUp, trivial⟩ 9 ct128 fun x Φ => by rw [eq128]; exact id
theorem ok163 : ct163.Ok Tryz.prog tab gh := Ct.lift (E := ⟨Tryz.prog, tab, [], pl163, [], gh, [], []⟩) ⟨tabOk, trivial, mo, trivial, ghUp, trivial⟩ 9 ct163 fun x Φ => by rw [eq163]; exact id
theorem ok148 : ct148.Ok Tryz.prog tab gh := Ct.lift (E := ⟨Tryz.prog, tab, [ct163], pl148, [], gh, [], []⟩) ⟨tabOk, ⟨ok163, trivial⟩, mo, trivial, ghUp, trivial⟩ 9 ct148 fun x Φ => by rw [eq148]; exact id
theorem ok147 : ct147.Ok Tryz.prog tab gh := Ct.lift (E := ⟨Tryz.prog, tab, [], pl147, [], gh, [], []⟩) ⟨tabOk, trivial, mo, trivial, ghUp, trivial⟩ 9 ct147 fun x Φ => by rw [eq147]; exact id
theorem ok130 : ct130.Ok Tryz.prog tab gh := Ct.lift (E := ⟨Tryz.prog, tab, [ct147, ct148], pl130, [], gh, [], []⟩) ⟨tabOk, ⟨ok147, ok148, trivial⟩, mo, trivial, ghUp, trivial⟩ 9 ct130 fun x Φ => by rw [eq130]; exact id
def Tryz.layP_ren : Go.Shelf.Ren := ⟨fun | 6 => 129 | 15 => 146 | 14 => 145 | 28 => 161 | 29 => 162 | 20 => 153 | 21 => 154 | 22 => 155 | 23 => 156 | 24 => 157 | 25 => 158 | 26 => 159 | 27 => 160 | 46 => 165 | 47 => 166 | 48 => 167 | 49 => 168 | 50 => 169 | 57 => 170 | n => n, fun | 22 => 188 | 24 => 186 | 25 => 190 | 3 => 3 | 39 => 198 | 0 => 0 | 53 => 219 | 55 => 222 | 4 => 4 | 46 => 230 | 45 => 229 | 50 => 192 | 5 => 5 | 9 => 9 | 66 => 239 | 70 => 109 | 76 => 244 | 77 => 245 | n => n, fun | n => n⟩
theorem Tryz.layP : Go.Proofs.SlLaysF0.n6 Tryz.prog Tryz.layP_ren := {
  mixed := by kernel_rfl
  f6 := ⟨Tryz.f129.name, by decide, Tryz.func129.trans (congrArg some (by kernel_rfl))⟩
  f14 := ⟨Tryz.f145.name, by decide, Tryz.func145.trans (congrArg some (by kernel_rfl))⟩
  f15 := Tryz.func146.trans (congrArg some (by kernel_rfl))
  f20 := ⟨Tryz.f153.name, by decide, Tryz.func153.trans (congrArg some (by kernel_rfl))⟩
  f21 := ⟨Tryz.f154.name, by decide, Tryz.func154.trans (congrArg some (by kernel_rfl))⟩
  f22 := ⟨Tryz.f155.name, by decide, Tryz.func155.trans (congrArg some (by kernel_rfl))⟩
  f23 := ⟨Tryz.f156.name, by decide, Tryz.func156.trans (congrArg some (by kernel_rfl))⟩
  f24 := ⟨Tryz.f157.name, by decide, Tryz.func157.trans (congrArg some (by kernel_rfl))⟩
  f25 := ⟨Tryz.f158.name, by decide, Tryz.func158.trans (congrArg some (by kernel_rfl))⟩
  f26 := ⟨Tryz.f159.name, by decide, Tryz.func159.trans (congrArg some (by kernel_rfl))⟩
  f27 := ⟨Tryz.f160.name, by decide, Tryz.func160.trans (congrArg some (by kernel_rfl))⟩
  f28 := Tryz.func161.trans (congrArg some (by kernel_rfl))
  f29 := Tryz.func162.trans (congrArg some (by kernel_rfl))
  f46 := ⟨Tryz.f165.name, by decide, Tryz.func165.trans (congrArg some (by kernel_rfl))⟩
  f47 := Tryz.func166.trans (congrArg some (by kernel_rfl))
  f48 := Tryz.func167.trans (congrArg some (by kernel_rfl))
  f49 := ⟨Tryz.f168.name, by decide, Tryz.func168.trans (congrArg some (by kernel_rfl))⟩
  f50 := ⟨Tryz.f169.name, by decide, Tryz.func169.trans (congrArg some (by kernel_rfl))⟩
  f57 := ⟨Tryz.f170.name, by decide, Tryz.func170.trans (congrArg some (by kernel_rfl))⟩
  t0 := Tryz.underlying0
  a0 := Tryz.isAgg0
  z0 := Tryz.sizeOf0
  v0 := Tryz.zeroValue0
  t3 := Tryz.underlying3
  a3 := Tryz.isAgg3
  z3 := Tryz.sizeOf3
  v3 := Tryz.zeroValue3
  t4 := Tryz.underlying4
  a4 := Tryz.isAgg4
  z4 := Tryz.sizeOf4
  v4 := Tryz.zeroValue4
  t5 := Tryz.underlying5
  a5 := Tryz.isAgg5
  z5 := Tryz.sizeOf5
  v5 := Tryz.zeroValue5
  t9 := Tryz.underlying9
  a9 := Tryz.isAgg9
  z9 := Tryz.sizeOf9
  v9 := Tryz.zeroValue9
  t22 := Tryz.underlying188
  a22 := Tryz.isAgg188
  z22 := Tryz.sizeOf188
  v22 := Tryz.zeroValue188
  t25 := Tryz.underlying190
  a25 := Tryz.isAgg190
  z25 := Tryz.sizeOf190
  v25 := Tryz.zeroValue190
  t39 := Tryz.underlying198
  a39 := Tryz.isAgg198
  z39 := Tryz.sizeOf198
  v39 := Tryz.zeroValue198
  t45 := Tryz.underlying229
  a45 := Tryz.isAgg229
  z45 := Tryz.sizeOf229
  v45 := Tryz.zeroValue229
  t46 := Tryz.underlying230
  a46 := Tryz.isAgg230
  z46 := Tryz.sizeOf230
  v46 := Tryz.zeroValue230
  t50 := Tryz.underlying192
  a50 := Tryz.isAgg192
  z50 := Tryz.sizeOf192
  v50 := Tryz.zeroValue192
  t53 := Tryz.underlying219
  a53 := Tryz.isAgg219
  z53 := Tryz.sizeOf219
  v53 := Tryz.zeroValue219
  t55 := Tryz.underlying222
  a55 := Tryz.isAgg222
  z55 := Tryz.sizeOf222
  v55 := Tryz.zeroValue222
  t66 := Tryz.underlying239
  a66 := Tryz.isAgg239
  z66 := Tryz.sizeOf239
  v66 := Tryz.zeroValue239
  t70 := Tryz.underlying109
  a70 := Tryz.isAgg109
  z70 := Tryz.sizeOf109
  v70 := Tryz.zeroValue109
  t76 := Tryz.underlying244
  a76 := Tryz.isAgg244
  z76 := Tryz.sizeOf244
  v76 := Tryz.zeroValue244
  t77 := Tryz.underlying245
  a77 := Tryz.isAgg245
  z77 := Tryz.sizeOf245
  v77 := Tryz.zeroValue245 }
theorem pk186 (v : Value) (cs : List Value) : PkR Tryz.prog 186 v cs = (v = .agg cs.toArray) := by kernel_rfl
def encP (x : coalesce_place) : List Value := [.int .i64 x.volume, .int .i64 x.sector]
theorem place_calls {H : Hp} (hG : gh H) (x y : coalesce_place) (W : World) (hag : ∀ b o, H b = some o → W.heap[b]? = some o) : Calls Tryz.prog 130 #[.agg (encP x).toArray, .agg (encP y).toArray] W fun e w' => e = .returned (.int .i64 (cmpP x y)) ∧ ∃ q os, w' = Sort.grow (W.drewN q) os := by
  refine (ok130 (x, y, ()) (fun v => v.1 = cmpP x y) (before_ok x y) H [.agg (encP x).toArray, .agg (encP y).toArray] hG ⟨_, encP x, _, rfl, by rw [pk186], rfl, _, encP y, _, rfl, by rw [pk186], rfl, rfl⟩ W hag).mono fun e w' ⟨v, H', L', h1, hM, y', hy, hr⟩ => ?_
  obtain ⟨ρ, _, _, _, _, h2, _⟩ := hr 0 (fun _ => none) (fun _ _ => rfl) _ _ _ (show resE Tryz.prog tab ct130.rs ct130.own y' 0 = some (.i .i64 y'.1, [], 0) by kernel_rfl)
  have h2 : v = .int .i64 y'.1 := h2
  exact ⟨by rw [h1, h2, hy], hM.below.grow⟩
set_option maxRecDepth 100000 in
theorem tnh129 {xs : List coalesce_place} {Φ : List coalesce_place → Prop} (hlen : xs.length ≤ 1099511627776) (hW : Φ (sortG pleB xs)) {H : Hp} {w : World} {base : Nat} {v : Value} {n : Nat} {s : List Value} (hG : gh H) (hag : ∀ b o, H b = some o → w.heap[b]? = some o) (hap : ∀ b, v.ownBlock = some b → H b = none) (ho : w.ownsRow base 186 2 v n s) (hn : n = xs.length) (hd : DtL (α := coalesce_place) H s xs) : Calls Tryz.prog 129 (v :: fnVs [130]).toArray w fun e w' => e = .returned (.tuple #[]) ∧ ∃ (ys : List coalesce_place) (s' : List Value), Φ ys ∧ DtL (α := coalesce_place) H s' ys ∧ ys.length = xs.length ∧ w.grownBy w' v.ownBlock ∧ w.drawn ≤ w'.drawn ∧ w'.ownsRow base 186 2 v n s' := by
  have hs := hd.enc (enc := encP) fun _ _ _ h => h
  have hk : ∀ x : coalesce_place, (encP x).length = 2 := fun _ => rfl
  have none : ∀ p cap, v = .slice p 0 cap → n = 0 → Calls Tryz.prog 129 (v :: fnVs [130]).toArray w fun e w' => e = .returned (.tuple #[]) ∧ ∃ (ys : List coalesce_place) (s' : List Value), Φ ys ∧ DtL (α := coalesce_place) H s' ys ∧ ys.length = xs.length ∧ w.grownBy w' v.ownBlock ∧ w.drawn ≤ w'.drawn ∧ w'.ownsRow base 186 2 v n s' := by
    intro p cap hv h0
    have hx : xs = [] := List.eq_nil_of_length_eq_zero (hn.symm.trans h0)
    have hc := AnyF.slices_SortFunc_none (P := Tryz.prog) (ρ := Tryz.layP_ren) { Tryz.layP with } p cap (.func (.func 130) #[] #[]) w
    change Calls Tryz.prog 129 _ _ _ at hc
    rw [hv]
    refine hc.mono fun e w' ⟨h2, h3⟩ => ⟨h2, xs, s, ?_, hd, rfl, ?_, ?_, ?_⟩
    · rw [hx] at hW ⊢; exact hW
    · rw [h3]; exact ⟨rfl, rfl, rfl, Nat.le_refl _, fun _ _ _ => rfl⟩
    · rw [h3]; exact Nat.le_refl _
    · rw [h3, ← hv]; exact ho
  obtain ⟨_, ⟨hv, h0⟩ | ⟨b, cap, cur, hv, _⟩⟩ := id ho
  · exact none _ _ hv h0
  · subst hv
    haveI : Inhabited coalesce_place := ⟨⟨0, 0⟩⟩
    have hfl : (Sort.flatK encP 2 xs.toArray).toList = s := by rw [flatK_list hk, hs]
    obtain ⟨hH, hb⟩ := owns_holds (enc := id) (d := Sort.flatK encP 2 xs.toArray) ho (by rw [List.map_id_fun, hfl]; rfl)
    have hgH : H b = Option.none := hap b rfl
    have eg : ∀ args w, (callFunc 130 args).run Tryz.prog w = .ok (.enter 130 args) w := enters_of Tryz.func130 (by kernel_rfl) rfl
    have hcmp : CmpLays Tryz.prog 130 #[] encP 2 cmpP b 0 xs.toArray.size w := fun m os dk _ p q => by
      refine place_calls hG p q _ fun b' o hbo => ?_
      have h1 := hag b' o hbo
      have hne : b' ≠ b := by rintro rfl; rw [hgH] at hbo; cases hbo
      exact (sorted_old id 0 m (Sort.flatK encP 2 dk) os (lt_of_heap h1) hne).trans h1
    have ht : TyAgg Tryz.prog 186 2 := agOf_ok (by kernel_rfl)
    obtain ⟨⟨ds, t1, t2⟩, ⟨ti, t3, t4⟩⟩ := ht
    have hc := AnyQ.slices_SortFunc_total Tryz.layP 2 (fun w => (run_isAgg t1 w).trans (by rw [t2])) (fun w => (run_sizeOf t3 w).trans (by rw [t4])) encP hk (fun x u hu => by simp only [encP, List.mem_cons, List.not_mem_nil, or_false] at hu; rcases hu with rfl | rfl <;> rfl) cmpP swoP 130 #[] b 0 cap xs.toArray w eg hcmp hH hb (by rw [List.size_toArray]; omega) cmpP_total
    change Calls Tryz.prog 129 _ _ _ at hc
    rw [List.size_toArray, ← hn] at hc
    refine hc.mono fun e w' ⟨h2, m, os, h3⟩ => ?_
    rw [mergeP] at h3
    refine ⟨h2, sortG pleB xs, (sortG pleB xs).flatMap encP, hW, DtL.ofEnc (fun _ _ => rfl) _, (sortG_perm pleB xs).length_eq, ?_, ?_, ?_⟩
    · rw [h3]; exact sorted_grown id 0 m (Sort.flatK encP 2 (sortG pleB xs).toArray) os
    · rw [h3]; exact Nat.le_add_right _ _
    · rw [h3]
      have := sorted_owns id m (Sort.flatK encP 2 (sortG pleB xs).toArray) os ho (by rw [Sort.size_flatK, List.size_toArray, (sortG_perm pleB xs).length_eq, hn])
      rw [List.map_id_fun, id, flatK_list hk] at this
      exact this
theorem tnok129 : tn129.Ok Tryz.prog gh := fun _ _ hW _ _ _ _ _ _ hG hag hap ho hn hd => tnh129 hW.1 hW.2 hG hag hap ho hn hd
theorem ok38 : ct38.Ok Tryz.prog tab gh := Ct.lift (E := ⟨Tryz.prog, tab, [ct81, ct128], pl38, [], gh, [tn129], [([11, 0, 1, 1, 1, 1, 1, 1, 1, 12, 0, 1, 1], 0), ([16, 2, 1, 0, 1, 4, 0, 1, 1, 5, 4, 1, 0, 1, 1, 1, 1, 1, 1, 12, 0, 1, 1], 130002), ([17, 2, 1, 0, 1, 4, 0, 1, 1, 5, 4, 1, 0, 1, 1, 1, 1, 1, 1, 12, 0, 1, 1], 0)]⟩) ⟨tabOk, ⟨ok81, ok128, trivial⟩, mo, trivial, ghUp, ⟨tnok129, trivial⟩⟩ 9 ct38 fun x Φ => by rw [eq38]; exact id
theorem ok41 : ct41.Ok Tryz.prog tab gh := Ct.lift (E := ⟨Tryz.prog, tab, [ct35, ct77], pl41, [it80], gh, [], []⟩) ⟨tabOk, ⟨ok35, ok77, trivial⟩, mo, ⟨itok80, trivial⟩, ghUp, trivial⟩ 9 ct41 fun x Φ => by rw [eq41]; exact id
theorem ok9 : ct9.Ok Tryz.prog tab gh := Ct.liftD (E := ⟨Tryz.prog, tab, [ct35, ct38, ct40, ct41, ct71, ct72, ct79, ct125], pl9, [it80], gh, [], [([18, 0, 1, 4, 0, 1, 1, 5, 4, 1, 0, 1, 1, 12, 0, 1, 1, 1, 1, 1], 0)]⟩) ⟨tabOk, ⟨ok35, ok38, ok40, ok41, ok71, ok72, ok79, ok125, trivial⟩, mo, ⟨itok80, trivial⟩, ghUp, trivial⟩ 9 ct9 fun x Φ => by rw [eq9]; exact id
theorem ok91 : ct91.Ok Tryz.prog tab gh := Ct.lift (E := ⟨Tryz.prog, tab, [], pl91, [], gh, [], []⟩) ⟨tabOk, trivial, mo, trivial, ghUp, trivial⟩ 9 ct91 fun x Φ => by rw [eq91]; exact id
theorem ok47 : ct47.Ok Tryz.prog tab gh := Ct.lift (E := ⟨Tryz.prog, tab, [ct91], pl47, [], gh, [], []⟩) ⟨tabOk, ⟨ok91, trivial⟩, mo, trivial, ghUp, trivial⟩ 9 ct47 fun x Φ => by rw [eq47]; exact id
theorem ok30 : ct30.Ok Tryz.prog tab gh := Ct.lift (E := ⟨Tryz.prog, tab, [ct47], pl30, [], gh, [], []⟩) ⟨tabOk, ⟨ok47, trivial⟩, mo, trivial, ghUp, trivial⟩ 9 ct30 fun x Φ => by rw [eq30]; exact id
theorem ok150 : ct150.Ok Tryz.prog tab gh := Ct.lift (E := ⟨Tryz.prog, tab, [], pl150, [], gh, [], []⟩) ⟨tabOk, trivial, mo, trivial, ghUp, trivial⟩ 9 ct150 fun x Φ => by rw [eq150]; exact id
theorem ok134 : ct134.Ok Tryz.prog tab gh := Ct.lift (E := ⟨Tryz.prog, tab, [ct150], pl134, [], gh, [], []⟩) ⟨tabOk, ⟨ok150, trivial⟩, mo, trivial, ghUp, trivial⟩ 9 ct134 fun x Φ => by rw [eq134]; exact id
theorem ok92 : ct92.Ok Tryz.prog tab gh := Ct.lift (E := ⟨Tryz.prog, tab, [ct134], pl92, [], gh, [], []⟩) ⟨tabOk, ⟨ok134, trivial⟩, mo, trivial, ghUp, trivial⟩ 9 ct92 fun x Φ => by rw [eq92]; exact id
theorem ok48 : ct48.Ok Tryz.prog tab gh := Ct.lift (E := ⟨Tryz.prog, tab, [ct92], pl48, [], gh, [], []⟩) ⟨tabOk, ⟨ok92, trivial⟩, mo, trivial, ghUp, trivial⟩ 9 ct48 fun x Φ => by rw [eq48]; exact id
theorem ok73 : ct73.Ok Tryz.prog tab gh := Ct.lift (E := ⟨Tryz.prog, tab, [ct71, ct125], pl73, [], gh, [], []⟩) ⟨tabOk, ⟨ok71, ok125, trivial⟩, mo, trivial, ghUp, trivial⟩ 9 ct73 fun x Φ => by rw [eq73]; exact id
theorem ok24 : ct24.Ok Tryz.prog tab gh := Ct.lift (E := ⟨Tryz.prog, tab, [ct35, ct71, ct72, ct73], pl24, [], gh, [], []⟩) ⟨tabOk, ⟨ok35, ok71, ok72, ok73, trivial⟩, mo, trivial, ghUp, trivial⟩ 9 ct24 fun x Φ => by rw [eq24]; exact id
theorem ok94 : ct94.Ok Tryz.prog tab gh := Ct.lift (E := ⟨Tryz.prog, tab, [], pl94, [], gh, [], [([19, 2, 1, 1, 0, 1, 1, 11, 0, 1, 1, 1], 0)]⟩) ⟨tabOk, trivial, mo, trivial, ghUp, trivial⟩ 9 ct94 fun x Φ => by rw [eq94]; exact id
theorem ok49 : ct49.Ok Tryz.prog tab gh := Ct.lift (E := ⟨Tryz.prog, tab, [ct81, ct94, ct128], pl49, [], gh, [tn129], [([11, 0, 1, 1, 1, 1, 1, 1, 1, 15, 0, 1, 1], 0), ([16, 2, 1, 0, 1, 4, 0, 1, 1, 5, 4, 1, 0, 1, 1, 1, 1, 1, 1, 15, 0, 1, 1], 130002), ([17, 2, 1, 0, 1, 4, 0, 1, 1, 5, 4, 1, 0, 1, 1, 1, 1, 1, 1, 15, 0, 1, 1], 0)]⟩) ⟨tabOk, ⟨ok81, ok94, ok128, trivial⟩, mo, trivial, ghUp, ⟨tnok129, trivial⟩⟩ 9 ct49 fun x Φ => by rw [eq49]; exact id
theorem ok15 : ct15.Ok Tryz.prog tab gh := Ct.lift (E := ⟨Tryz.prog, tab, [ct24, ct40, ct48, ct49], pl15, [], gh, [], []⟩) ⟨tabOk, ⟨ok24, ok40, ok48, ok49, trivial⟩, mo, trivial, ghUp, trivial⟩ 9 ct15 fun x Φ => by rw [eq15]; exact id
theorem ok8 : ct8.Ok Tryz.prog tab gh := Ct.lift (E := ⟨Tryz.prog, tab, [ct9, ct15, ct27, ct28, ct29, ct30], pl8, [], gh, [], []⟩) ⟨tabOk, ⟨ok9, ok15, ok27, ok28, ok29, ok30, trivial⟩, mo, trivial, ghUp, trivial⟩ 9 ct8 fun x Φ => by rw [eq8]; exact id
theorem ok84 : ct84.Ok Tryz.prog tab gh := Ct.lift (E := ⟨Tryz.prog, tab, [], pl84, [], gh, [], []⟩) ⟨tabOk, trivial, mo, trivial, ghUp, trivial⟩ 9 ct84 fun x Φ => by rw [eq84]; exact id
theorem ok85 : ct85.Ok Tryz.prog tab gh := Ct.lift (E := ⟨Tryz.prog, tab, [], pl85, [], gh, [], []⟩) ⟨tabOk, trivial, mo, trivial, ghUp, trivial⟩ 9 ct85 fun x Φ => by rw [eq85]; exact id
theorem ok86 : ct86.Ok Tryz.prog tab gh := Ct.lift (E := ⟨Tryz.prog, tab, [], pl86, [], gh, [], []⟩) ⟨tabOk, trivial, mo, trivial, ghUp, trivial⟩ 9 ct86 fun x Φ => by rw [eq86]; exact id
theorem ok42 : ct42.Ok Tryz.prog tab gh := Ct.lift (E := ⟨Tryz.prog, tab, [ct84, ct85, ct86], pl42, [], gh, [], []⟩) ⟨tabOk, ⟨ok84, ok85, ok86, trivial⟩, mo, trivial, ghUp, trivial⟩ 9 ct42 fun x Φ => by rw [eq42]; exact id
theorem ok43 : ct43.Ok Tryz.prog tab gh := Ct.lift (E := ⟨Tryz.prog, tab, [], pl43, [], gh, [], []⟩) ⟨tabOk, trivial, mo, trivial, ghUp, trivial⟩ 9 ct43 fun x Φ => by rw [eq43]; exact id
theorem ok131 : ct131.Ok Tryz.prog tab gh := Ct.lift (E := ⟨Tryz.prog, tab, [], pl131, [], gh, [], []⟩) ⟨tabOk, trivial, mo, trivial, ghUp, trivial⟩ 9 ct131 fun x Φ => by rw [eq131]; exact id
theorem ok88 : ct88.Ok Tryz.prog tab gh := Ct.lift (E := ⟨Tryz.prog, tab, [ct131], pl88, [], gh, [], []⟩) ⟨tabOk, ⟨ok131, trivial⟩, mo, trivial, ghUp, trivial⟩ 9 ct88 fun x Φ => by rw [eq88]; exact id
theorem ok44 : ct44.Ok Tryz.prog tab gh := Ct.lift (E := ⟨Tryz.prog, tab, [ct88], pl44, [], gh, [], [([1000031], 130002), ([1000032], 0)]⟩) ⟨tabOk, ⟨ok88, trivial⟩, mo, trivial, ghUp, trivial⟩ 9 ct44 fun x Φ => by rw [eq44]; exact id
theorem ok25 : ct25.Ok Tryz.prog tab gh := Ct.lift (E := ⟨Tryz.prog, tab, [], pl25, [], gh, [], []⟩) ⟨tabOk, trivial, mo, trivial, ghUp, trivial⟩ 9 ct25 fun x Φ => by rw [eq25]; exact id
theorem ok133 : ct133.Ok Tryz.prog tab gh := Ct.lift (E := ⟨Tryz.prog, tab, [], pl133, [], gh, [], []⟩) ⟨tabOk, trivial, mo, trivial, ghUp, trivial⟩ 9 ct133 fun x Φ => by rw [eq133]; exact id
theorem ok90 : ct90.Ok Tryz.prog tab gh := Ct.lift (E := ⟨Tryz.prog, tab, [ct133], pl90, [], gh, [], []⟩) ⟨tabOk, ⟨ok133, trivial⟩, mo, trivial, ghUp, trivial⟩ 9 ct90 fun x Φ => by rw [eq90]; exact id
theorem ok89 : ct89.Ok Tryz.prog tab gh := Ct.lift (E := ⟨Tryz.prog, tab, [ct88], pl89, [], gh, [], []⟩) ⟨tabOk, ⟨ok88, trivial⟩, mo, trivial, ghUp, trivial⟩ 9 ct89 fun x Φ => by rw [eq89]; exact id
theorem ok45 : ct45.Ok Tryz.prog tab gh := Ct.lift (E := ⟨Tryz.prog, tab, [ct25, ct86, ct89, ct90], pl45, [], gh, [], []⟩) ⟨tabOk, ⟨ok25, ok86, ok89, ok90, trivial⟩, mo, trivial, ghUp, trivial⟩ 9 ct45 fun x Φ => by rw [eq45]; exact id
theorem ok10 : ct10.Ok Tryz.prog tab gh := Ct.lift (E := ⟨Tryz.prog, tab, [ct42, ct43, ct44, ct45], pl10, [], gh, [], []⟩) ⟨tabOk, ⟨ok42, ok43, ok44, ok45, trivial⟩, mo, trivial, ghUp, trivial⟩ 9 ct10 fun x Φ => by rw [eq10]; exact id
theorem ok46 : ct46.Ok Tryz.prog tab gh := Ct.lift (E := ⟨Tryz.prog, tab, [], pl46, [], gh, [], []⟩) ⟨tabOk, trivial, mo, trivial, ghUp, trivial⟩ 9 ct46 fun x Φ => by rw [eq46]; exact id
theorem ok11 : ct11.Ok Tryz.prog tab gh := Ct.lift (E := ⟨Tryz.prog, tab, [ct46, ct47], pl11, [], gh, [], []⟩) ⟨tabOk, ⟨ok46, ok47, trivial⟩, mo, trivial, ghUp, trivial⟩ 9 ct11 fun x Φ => by rw [eq11]; exact id
theorem ok12 : ct12.Ok Tryz.prog tab gh := Ct.lift (E := ⟨Tryz.prog, tab, [ct46, ct47], pl12, [], gh, [], []⟩) ⟨tabOk, ⟨ok46, ok47, trivial⟩, mo, trivial, ghUp, trivial⟩ 9 ct12 fun x Φ => by rw [eq12]; exact id
theorem ok3 : ct3.Ok Tryz.prog tab gh := Ct.lift (E := ⟨Tryz.prog, tab, [ct7, ct8, ct9, ct10, ct11, ct12], pl3, [], gh, [], []⟩) ⟨tabOk, ⟨ok7, ok8, ok9, ok10, ok11, ok12, trivial⟩, mo, trivial, ghUp, trivial⟩ 9 ct3 fun x Φ => by rw [eq3]; exact id
section
theorem iI {x : Int} (h1 : -9223372036854775808 ≤ x) (h2 : x ≤ 9223372036854775807) : inI x := ⟨h1, h2⟩
theorem iX {i : Int} {n : Nat} (h1 : 0 ≤ i) (h2 : i < (n : Int)) : inX i n := ⟨h1, h2⟩
theorem iS {a b : Int} {n : Nat} (h1 : 0 ≤ a) (h2 : a ≤ b) (h3 : b ≤ (n : Int)) : inS a b n := ⟨h1, h2, h3⟩
theorem iL {n b : Nat} (h : n ≤ 1000000) (hb : b ≤ 1000000) : lenOk n b := by
  have := Nat.mul_le_mul h hb
  refine ⟨by omega, ?_⟩
  simp only [maxLen]
  omega
section
variable {α : Type} [Dt α]
theorem ix_get {xs : List α} {k : Nat} (h : k < xs.length) : ix xs (k : Int) = xs[k] := by
  show xs.getD k default = _
  rw [List.getD_eq_getElem?_getD, List.getElem?_eq_getElem h]; rfl
theorem take_ix {xs : List α} {k : Nat} (h : k < xs.length) : xs.take (k + 1) = xs.take k ++ [ix xs (k : Int)] := by
  rw [ix_get h]; exact (List.take_append_getElem h).symm
theorem ix_mem {xs : List α} {i : Int} (h : inX i xs.length) : ix xs i ∈ xs := by
  have e := h.nat
  have hl := h.lt
  rw [e, ix_get hl]
  exact List.getElem_mem hl
theorem ext_ix {xs ys : List α} (hl : xs.length = ys.length) (h : ∀ k : Nat, k < xs.length → ix xs (k : Int) = ix ys (k : Int)) : xs = ys := by
  apply List.ext_getElem hl
  intro k h1 h2
  have := h k h1
  rwa [ix_get h1, ix_get h2] at this
end
section
variable {A : Type}
def firstN (f : Nat → Int) : Nat → Int
  | 0 => 0
  | n + 1 => if firstN f n ≠ 0 then firstN f n else f n
theorem firstN_hit {f : Nat → Int} : ∀ {n k : Nat}, k < n → (∀ j, j < k → f j = 0) → f k ≠ 0 → firstN f n = f k
  | 0, _, hk, _, _ => by omega
  | n + 1, k, hk, h0, h1 => by
    unfold firstN
    rcases Nat.lt_or_ge k n with h | h
    · rw [firstN_hit h h0 h1, if_pos h1]
    · have e : k = n := by omega
      subst e
      have : firstN f k = 0 := by
        clear h1 hk h
        induction k with
        | zero => rfl
        | succ k ih => unfold firstN; rw [ih fun j hj => h0 j (by omega), if_neg (by simp), h0 k (by omega)]
      rw [this, if_neg (by simp)]
theorem firstN_zero {f : Nat → Int} : ∀ {n : Nat}, firstN f n = 0 ↔ ∀ k, k < n → f k = 0
  | 0 => by simp [firstN]
  | n + 1 => by
    unfold firstN
    constructor
    · intro h k hk
      by_cases h1 : firstN f n ≠ 0
      · rw [if_pos h1] at h; exact absurd h h1
      · rw [if_neg h1] at h
        rcases Nat.lt_or_ge k n with hlt | hge
        · exact (firstN_zero.1 (Classical.not_not.1 h1)) k hlt
        · have : k = n := by omega
          subst this; exact h
    · intro h
      rw [if_neg (by rw [firstN_zero.2 fun k hk => h k (by omega)]; simp), h n (by omega)]
end
end
theorem LoopW.upI {S : Type} {step : S → (S → Prop) → Prop} (n : Nat) (st : Nat → S) (I : Nat → Prop) {s : S} (hs : s = st 0) (h0 : I 0)
    (h : ∀ (k : Nat) rec, k < n → I k → (I (k + 1) → ∀ s, s = st (k + 1) → rec s) → step (st k) rec) (he : ∀ rec, I n → step (st n) rec) : LoopW step s := by
  have key : ∀ m k, k + m = n → I k → LoopN step (m + 1) (st k) := by
    intro m
    induction m with
    | zero => intro k hk hI; obtain rfl : k = n := hk; exact he _ hI
    | succ m ih => intro k hk hI; exact h k _ (by omega) hI fun hI' s hs => by rw [hs]; exact ih (k + 1) (by omega) hI'
  exact ⟨n + 1, by rw [hs]; exact key n 0 (by omega) h0⟩
theorem LoopW.upT {S : Type} {step : S → (S → Prop) → Prop} (n : Nat) (st : Nat → S) {s : S} (hs : s = st 0)
    (h : ∀ (k : Nat) rec, k < n → (∀ s, s = st (k + 1) → rec s) → step (st k) rec) (he : ∀ rec, step (st n) rec) : LoopW step s :=
  LoopW.upI n st (fun _ => True) hs trivial (fun k rec hk _ hr => h k rec hk (hr trivial)) fun rec _ => he rec
theorem LoopW.findI {step : Int → (Int → Prop) → Prop} (n : Nat) (p : Nat → Bool) (h : ∀ (k : Nat) rec, k < n → (∀ j, j < k → p j = false) → (p k = false → rec ((k : Int) + 1)) → step (k : Int) rec)
    (he : ∀ rec, (∀ j, j < n → p j = false) → step (n : Int) rec) : LoopW step 0 :=
  LoopW.upI n (fun k => (k : Int)) (fun k => ∀ j, j < k → p j = false) rfl (fun j hj => absurd hj (Nat.not_lt_zero j)) (fun k rec hk hI hr => h k rec hk hI fun hp => hr (fun j hj => by
    rcases Nat.lt_or_ge j k with h2 | h2
    · exact hI j h2
    · obtain rfl : j = k := by omega
      exact hp) _ rfl) he
theorem len_snoc {α : Type} (xs : List α) (x : α) : (xs ++ [x]).length = xs.length + 1 := by simp
theorem lenT {α : Type} {xs : List α} {k : Nat} (h : k ≤ xs.length) : (xs.take k).length = k := by rw [List.length_take]; omega
theorem take_all {α : Type} (xs : List α) : xs.take xs.length = xs := List.take_length
theorem map_take_snoc {α β : Type} [Dt α] {xs : List α} {k : Nat} (f : α → β) (h : k < xs.length) : (xs.take (k + 1)).map f = (xs.take k).map f ++ [f (ix xs (k : Int))] := by rw [take_ix h, List.map_append]; rfl
theorem LoopW.errI {S : Type} {step : S → (S → Prop) → Prop} (n : Nat) (st : Nat → S) (f : Nat → Int) {Ψ : Int → Prop} {s : S} (hs : s = st 0) (hΨ : Ψ (firstN f n))
    (h : ∀ (k : Nat) rec, k < n → (∀ j, j < k → f j = 0) → (f k ≠ 0 → Ψ (f k)) → (f k = 0 → ∀ s, s = st (k + 1) → rec s) → step (st k) rec) (he : ∀ rec, (∀ j, j < n → f j = 0) → Ψ 0 → step (st n) rec) : LoopW step s :=
  LoopW.upI n st (fun k => ∀ j, j < k → f j = 0) hs (fun j hj => absurd hj (Nat.not_lt_zero j)) (fun k rec hk hI hr => h k rec hk hI (fun h1 => by rw [firstN_hit hk hI h1] at hΨ; exact hΨ) fun h0 => hr fun j hj => by
    rcases Nat.lt_or_ge j k with h2 | h2
    · exact hI j h2
    · obtain rfl : j = k := by omega
      exact h0) fun rec hI => he rec hI (by rw [firstN_zero.2 hI] at hΨ; exact hΨ)
def wrM (m : List (coalesce_place × Sec)) (v s : Int) : List Sec → List (coalesce_place × Sec)
  | [] => m
  | d :: r => wrM (mput m ⟨v, s⟩ d) v (s + 1) r
theorem wrM_snoc {v : Int} {d : Sec} : ∀ (l : List Sec) (m : List (coalesce_place × Sec)) (s : Int), wrM m v s (l ++ [d]) = mput (wrM m v s l) ⟨v, s + (l.length : Int)⟩ d
  | [], m, s => by
    show mput m ⟨v, s⟩ d = mput m ⟨v, s + 0⟩ d
    rw [Int.add_zero]
  | x :: l, m, s => by
    rw [List.cons_append, wrM, wrM, wrM_snoc l, show s + 1 + (l.length : Int) = s + ((x :: l).length : Int) by rw [List.length_cons]; omega]
def effM (l : List api_Write) : List (coalesce_place × Sec) := l.foldl (fun m w => wrM m w.Volume w.Start w.Data) []
theorem effM_snoc (l : List api_Write) (w : api_Write) : effM (l ++ [w]) = wrM (effM l) w.Volume w.Start w.Data := by simp [effM]
theorem mput_len {κ ν : Type} [DecidableEq κ] (k : κ) (v : ν) : ∀ m : List (κ × ν), (mput m k v).length ≤ m.length + 1
  | [] => by simp [mput]
  | p :: r => by
    unfold mput
    split
    · simp
    · have := mput_len k v r
      simp only [List.length_cons]; omega
theorem wrM_len {v : Int} : ∀ (l : List Sec) (m : List (coalesce_place × Sec)) (s : Int), (wrM m v s l).length ≤ m.length + l.length
  | [], m, s => Nat.le_refl _
  | d :: r, m, s => by
    have h1 := wrM_len (v := v) r (mput m ⟨v, s⟩ d) (s + 1)
    have h2 := mput_len (⟨v, s⟩ : coalesce_place) d m
    rw [wrM, List.length_cons]; omega
theorem effM_len {c : Nat} : ∀ (l : List api_Write) (m : List (coalesce_place × Sec)), (∀ w ∈ l, w.Data.length ≤ c) → (l.foldl (fun m w => wrM m w.Volume w.Start w.Data) m).length ≤ m.length + l.length * c
  | [], m, _ => by simp
  | w :: l, m, h => by
    have h1 := effM_len l (wrM m w.Volume w.Start w.Data) fun x hx => h x (List.mem_cons_of_mem _ hx)
    have h2 := wrM_len (v := w.Volume) w.Data m w.Start
    have h3 := h w (List.mem_cons_self ..)
    rw [List.foldl_cons, List.length_cons, Nat.succ_mul]; omega
theorem mput_all {κ ν : Type} [DecidableEq κ] {p : κ → Prop} {k : κ} {v : ν} (hk : p k) : ∀ {m : List (κ × ν)}, (∀ q ∈ m, p q.1) → ∀ q ∈ mput m k v, p q.1
  | [], _, q, hq => by
    obtain rfl : q = (k, v) := by simpa [mput] using hq
    exact hk
  | a :: r, h, q, hq => by
    unfold mput at hq
    split at hq
    · rcases List.mem_cons.1 hq with rfl | hq
      · exact h a (List.mem_cons_self ..)
      · exact h q (List.mem_cons_of_mem _ hq)
    · rcases List.mem_cons.1 hq with rfl | hq
      · exact h _ (List.mem_cons_self ..)
      · exact mput_all hk (fun q hq => h q (List.mem_cons_of_mem _ hq)) q hq
theorem wrM_all {p : coalesce_place → Prop} {v : Int} : ∀ (l : List Sec) (m : List (coalesce_place × Sec)) (s : Int), (∀ j : Nat, j < l.length → p ⟨v, s + (j : Int)⟩) → (∀ q ∈ m, p q.1) → ∀ q ∈ wrM m v s l, p q.1
  | [], m, s, _, h => h
  | d :: r, m, s, hp, h => by
    refine wrM_all r _ (s + 1) (fun j hj => ?_) (mput_all ?_ h)
    · have := hp (j + 1) (by rw [List.length_cons]; omega)
      rwa [show s + ((j + 1 : Nat) : Int) = s + 1 + (j : Int) by omega] at this
    · have := hp 0 (by rw [List.length_cons]; omega)
      rwa [show s + ((0 : Nat) : Int) = s by omega] at this
def placedR (w : api_Write) : Int := if w.Volume < 0 ∨ 8 ≤ w.Volume then 7 else if w.Data.length = 0 then 1 else if w.Start < 0 ∨ 4096 - (w.Data.length : Int) < w.Start then 2 else 0
theorem placed0 {w : api_Write} (h : placedR w = 0) : 0 ≤ w.Volume ∧ w.Volume < 8 ∧ 0 < w.Data.length ∧ 0 ≤ w.Start ∧ w.Start + (w.Data.length : Int) ≤ 4096 := by
  unfold placedR at h
  split at h
  · omega
  · split at h
    · omega
    · split at h
      · omega
      · omega
theorem placed_W {w : api_Write} (hl : w.Data.length ≤ 1000000) {Φ : Int → Prop} (h : Φ (placedR w)) : Z18 w Φ := by
  unfold placedR at h
  have J : ∀ b : Bool, (b = true ↔ w.Volume < 0 ∨ 8 ≤ w.Volume) → Z17 w Φ b := fun b hb => by
    refine ⟨fun e => by rw [if_pos (hb.1 e)] at h; exact h, fun e => ?_⟩
    rw [if_neg fun q => e (hb.2 q)] at h
    refine ⟨fun q => by rw [if_pos (by omega)] at h; exact h, fun q => ?_⟩
    rw [if_neg (by omega)] at h
    refine ⟨fun r => by rw [if_pos (.inl r)] at h; exact h, fun r => ⟨iI (by omega) (by omega), fun s => by rw [if_pos (.inr s)] at h; exact h, fun s => by rw [if_neg (by omega)] at h; exact h⟩⟩
  exact ⟨fun q => J true ⟨fun _ => .inl q, fun _ => rfl⟩, fun q => J _ (by simp; omega)⟩
def PlL (l : List api_Write) : Prop := ∀ w ∈ l, placedR w = 0
theorem effM_place {l : List api_Write} (h : PlL l) : ∀ q ∈ effM l, 0 ≤ q.1.volume ∧ q.1.volume < 8 ∧ 0 ≤ q.1.sector ∧ q.1.sector < 4096 := by
  have key : ∀ (l : List api_Write) (m : List (coalesce_place × Sec)), PlL l → (∀ q ∈ m, 0 ≤ q.1.volume ∧ q.1.volume < 8 ∧ 0 ≤ q.1.sector ∧ q.1.sector < 4096) → ∀ q ∈ l.foldl (fun m w => wrM m w.Volume w.Start w.Data) m, 0 ≤ q.1.volume ∧ q.1.volume < 8 ∧ 0 ≤ q.1.sector ∧ q.1.sector < 4096 := by
    intro l
    induction l with
    | nil => intro m _ h; exact h
    | cons w l ih =>
      intro m h hm
      have := placed0 (h w (List.mem_cons_self ..))
      exact ih _ (fun x hx => h x (List.mem_cons_of_mem _ hx)) (wrM_all (p := fun c => 0 ≤ c.volume ∧ c.volume < 8 ∧ 0 ≤ c.sector ∧ c.sector < 4096) _ _ _ (fun j hj => ⟨by show 0 ≤ w.Volume; omega, by show w.Volume < 8; omega, by show 0 ≤ w.Start + (j : Int); omega, by show w.Start + (j : Int) < 4096; omega⟩) hm)
  exact key l [] h fun q hq => by cases hq
def clsW (xs : List api_Write) (ys : List Sec) : List api_Write := put xs ((xs.length : Int) - 1) ⟨(ix xs ((xs.length : Int) - 1)).Volume, (ix xs ((xs.length : Int) - 1)).Start, ys⟩
def grpS (m : List (coalesce_place × Sec)) (st : coalesce_place × List api_Write × List Sec) (p : coalesce_place) : coalesce_place × List api_Write × List Sec :=
  if p ≠ st.1 then (⟨p.volume, p.sector + 1⟩, clsW st.2.1 st.2.2 ++ [⟨p.volume, p.sector, []⟩], [] ++ [mget m p sec0]) else (⟨p.volume, p.sector + 1⟩, st.2.1, st.2.2 ++ [mget m p sec0])
def grpL (m : List (coalesce_place × Sec)) (l : List coalesce_place) : coalesce_place × List api_Write × List Sec := l.foldl (grpS m) (⟨-1, 0⟩, [], [])
theorem grpL_snoc (m : List (coalesce_place × Sec)) (l : List coalesce_place) (p : coalesce_place) : grpL m (l ++ [p]) = grpS m (grpL m l) p := by simp [grpL]
def canL (m : List (coalesce_place × Sec)) : List api_Write := clsW (grpL m (sortG pleB (m.map (·.1)))).2.1 (grpL m (sortG pleB (m.map (·.1)))).2.2
theorem clsW_len (xs : List api_Write) (ys : List Sec) : (clsW xs ys).length = xs.length := put_len _ _ _
theorem snocInd {α : Type} {P : List α → Prop} (h0 : P []) (h1 : ∀ l x, P l → P (l ++ [x])) (l : List α) : P l := by
  rw [← List.reverse_reverse l]
  induction l.reverse with
  | nil => exact h0
  | cons x r ih => rw [List.reverse_cons]; exact h1 _ _ ih
theorem nodup_len : ∀ (n : Nat) (l : List Nat), l.Nodup → (∀ i ∈ l, i < n) → l.length ≤ n
  | 0, [], _, _ => Nat.le_refl _
  | 0, i :: _, _, h => absurd (h i (List.mem_cons_self ..)) (Nat.not_lt_zero i)
  | n + 1, l, hd, h => by
    by_cases hn : n ∈ l
    · have h1 := nodup_len n (l.erase n) (hd.erase n) fun i hi => by
        have h2 := (List.Nodup.mem_erase_iff hd).1 hi
        have h3 := h i h2.2
        have := h2.1
        omega
      rw [List.length_erase_of_mem hn] at h1
      omega
    · have h1 := nodup_len n l hd fun i hi => by
        have h3 := h i hi
        have : i ≠ n := by rintro rfl; exact hn hi
        omega
      omega
theorem grpL_len (m : List (coalesce_place × Sec)) : ∀ l : List coalesce_place, (grpL m l).2.1.length ≤ l.length ∧ (grpL m l).2.2.length ≤ l.length ∧ (l ≠ [] → (∀ p ∈ l, p ≠ ⟨-1, 0⟩) → 0 < (grpL m l).2.1.length) := by
  refine snocInd ⟨Nat.le_refl _, Nat.le_refl _, fun h => absurd rfl h⟩ fun l p ih => ?_
  obtain ⟨h1, h2, h3⟩ := ih
  rw [grpL_snoc, len_snoc]
  unfold grpS
  split
  · refine ⟨?_, ?_, fun _ _ => ?_⟩
    · simp only [List.length_append, clsW_len, List.length_singleton]; omega
    · simp only [List.length_append, List.length_nil, List.length_singleton]; omega
    · simp only [List.length_append, clsW_len, List.length_singleton]; omega
  · rename_i hp
    refine ⟨by simp only; omega, by simp only [List.length_append, List.length_singleton]; omega, fun _ hall => ?_⟩
    by_cases hl : l = []
    · subst hl
      exact absurd (Classical.not_not.1 hp) (hall p (by simp))
    · exact h3 hl fun q hq => hall q (List.mem_append_left _ hq)
theorem behind_W {p : coalesce_place} {Φ : coalesce_place → Prop} (h : inI (p.sector + 1)) (hΦ : Φ ⟨p.volume, p.sector + 1⟩) : Z19 p Φ := ⟨h, hΦ⟩
theorem group_W {m : List (coalesce_place × Sec)} {ps : List coalesce_place} {Φ : List api_Write × Int → Prop} (hb : ps.length ≤ 100000000) (hp : ∀ p ∈ ps, 0 ≤ p.volume ∧ p.volume < 8 ∧ 0 ≤ p.sector ∧ p.sector < 4096) (hΦ : Φ (clsW (grpL m ps).2.1 (grpL m ps).2.2, 0)) : LoopW (Z26 m ps Φ) (0, -1, 0, [], []) := by
  have lOk : ∀ {n : Nat}, n ≤ 100000001 → lenOk n 40 := fun h => ⟨by omega, by simp only [maxLen]; omega⟩
  have lOk8 : ∀ {n : Nat}, n ≤ 100000001 → lenOk n 8 := fun h => ⟨by omega, by simp only [maxLen]; omega⟩
  refine LoopW.upT ps.length (fun k => ((k : Int), (grpL m (ps.take k)).1.volume, (grpL m (ps.take k)).1.sector, (grpL m (ps.take k)).2.1, (grpL m (ps.take k)).2.2)) rfl (fun k rec hk hrec => ?_) fun rec => ?_
  · obtain ⟨l1, l2, l3⟩ := grpL_len m (ps.take k)
    rw [lenT (by omega)] at l1 l2
    have hmem : ix ps (k : Int) ∈ ps := ix_mem ⟨by omega, by omega⟩
    have hpl := hp _ hmem
    have hst : grpL m (ps.take (k + 1)) = grpS m (grpL m (ps.take k)) (ix ps (k : Int)) := by rw [take_ix hk, grpL_snoc]
    obtain ⟨n1, n2, n3⟩ := grpL_len m (ps.take (k + 1))
    have n4 := n3 (by rw [take_ix hk]; simp) (fun p hq => by
      have := hp p (List.mem_of_mem_take hq)
      rintro rfl
      simp at this)
    rw [lenT (by omega)] at n1 n2
    have J : ∀ xs ys, (⟨(ix ps (k : Int)).volume, (ix ps (k : Int)).sector + 1⟩, xs, ys ++ [mget m (ix ps (k : Int)) sec0]) = grpL m (ps.take (k + 1)) → Z25 m ps (k : Int) rec Φ (xs, ys) := fun xs ys e => by
      have e1 : xs = (grpL m (ps.take (k + 1))).2.1 := by rw [← e]
      have e2 : ys ++ [mget m (ix ps (k : Int)) sec0] = (grpL m (ps.take (k + 1))).2.2 := by rw [← e]
      refine ⟨iI (by omega) (by rw [e1]; omega), iX (by rw [e1]; omega) (by omega), by omega, lOk8 (by rw [e2]; omega), behind_W (iI (by omega) (by omega)) ⟨iI (by omega) (by omega), hrec _ ?_⟩⟩
      rw [← e]; rfl
    refine ⟨fun _ => ⟨iX (by omega) (by omega), ?_⟩, fun h => absurd (show (k : Int) < (ps.length : Int) by omega) h⟩
    show (ix ps (k : Int) ≠ _ → _) ∧ (¬ (ix ps (k : Int) ≠ _) → _)
    refine ⟨fun h => ⟨lOk ?_, J _ _ ?_⟩, fun h => J _ _ ?_⟩
    · have := clsW_len (grpL m (ps.take k)).2.1 (grpL m (ps.take k)).2.2
      unfold clsW at this
      rw [len_snoc, this]; omega
    · rw [hst]; unfold grpS; rw [if_pos h]; rfl
    · rw [hst]; unfold grpS; rw [if_neg h]
  · refine ⟨fun h => absurd h (by simp), fun _ => ?_⟩
    rw [show ps.take ps.length = ps from take_all ps]
    exact hΦ
theorem gather_W {m : List (coalesce_place × Sec)} {Φ : List api_Write × Int → Prop} (hb : m.length ≤ 100000000) (hp : ∀ q ∈ m, 0 ≤ q.1.volume ∧ q.1.volume < 8 ∧ 0 ≤ q.1.sector ∧ q.1.sector < 4096) (hΦ : Φ (canL m, 0)) : LoopW (Z27 m Φ) ((m.length, []), []) := by
  have hent : ∀ i, i < m.length → ent m i ∈ m := fun i hi => by
    unfold ent
    rw [List.getD_eq_getElem?_getD, List.getElem?_eq_getElem hi]
    exact List.getElem_mem hi
  refine LoopW.of_inv (fun s => s.1.1 = m.length ∧ s.1.2.Nodup ∧ (∀ i ∈ s.1.2, i < m.length) ∧ s.2 = s.1.2.reverse.map fun i => (ent m i).1) (fun s => m.length - s.1.2.length) ?_ ⟨rfl, List.nodup_nil, (fun _ h => by cases h), rfl⟩
  rintro ⟨⟨n, seen⟩, ps⟩ rec ⟨h1, h2, h3, h4⟩ hrec
  simp only at h1 h2 h3 h4
  subst h1 h4
  have hle : seen.length ≤ m.length := nodup_len _ _ h2 h3
  refine ⟨rfl, fun hall => ?_, fun i hi hni => ⟨rfl, hi, ?_, hrec _ ⟨rfl, List.nodup_cons.2 ⟨hni, h2⟩, fun j hj => ?_, ?_⟩ ?_⟩⟩
  · have hperm : seen.Perm (List.range m.length) := (List.perm_ext_iff_of_nodup h2 List.nodup_range).2 fun i => ⟨fun hi => List.mem_range.2 (h3 i hi), fun hi => hall i (List.mem_range.1 hi)⟩
    have hmap : (List.range m.length).map (fun i => (ent m i).1) = m.map (·.1) := by
      apply List.ext_getElem
      · simp
      · intro i hi1 hi2
        have hi : i < m.length := by simpa using hi2
        simp only [List.getElem_map, List.getElem_range]
        unfold ent
        rw [List.getD_eq_getElem?_getD, List.getElem?_eq_getElem hi]
        rfl
    have hp2 : (seen.reverse.map fun i => (ent m i).1).Perm (m.map (·.1)) := by
      rw [← hmap]
      exact ((List.reverse_perm seen).trans hperm).map _
    have hsort : sortG pleB (seen.reverse.map fun i => (ent m i).1) = sortG pleB (m.map (·.1)) := sortG_of ple_total ple_trans ple_anti ((sortG_perm pleB _).trans hp2) (sortG_sorted ple_total ple_trans _)
    refine ⟨by rw [hp2.length_eq, List.length_map]; omega, ?_⟩
    rw [hsort]
    have hlen : (sortG pleB (m.map (·.1))).length = m.length := by rw [(sortG_perm pleB _).length_eq, List.length_map]
    refine group_W (by rw [hlen]; exact hb) (fun p hp' => ?_) hΦ
    obtain ⟨q, hq, rfl⟩ := List.mem_map.1 ((sortG_perm pleB _).mem_iff.1 hp')
    exact hp q hq
  · refine ⟨?_, ?_⟩
    · rw [len_snoc, List.length_map, List.length_reverse]; omega
    · rw [len_snoc, List.length_map, List.length_reverse]; simp only [maxLen]; omega
  · rcases List.mem_cons.1 hj with rfl | hj
    · exact hi
    · exact h3 j hj
  · simp
  · have h6 : (i :: seen).length ≤ m.length := nodup_len _ _ (List.nodup_cons.2 ⟨hni, h2⟩) fun j hj => by
      rcases List.mem_cons.1 hj with rfl | hj
      · exact hi
      · exact h3 j hj
    show m.length - (i :: seen).length < m.length - seen.length
    rw [List.length_cons] at h6 ⊢
    omega
theorem effect_W {l : List api_Write} {Φ : List api_Write × Int → Prop} (hl : l.length ≤ 20000) (hp : PlL l) (hΦ : Φ (canL (effM l), 0)) : LoopW (Z28 l Φ) (0, []) := by
  have hpl : ∀ k, k < l.length → placedR (ix l (k : Int)) = 0 := fun k hk => hp _ (ix_mem ⟨by omega, by omega⟩)
  have hlen : (effM l).length ≤ 100000000 := by
    have := effM_len (c := 4096) l [] fun w hw => by have := placed0 (hp w hw); omega
    have h2 := Nat.mul_le_mul_right 4096 hl
    show (l.foldl _ []).length ≤ _
    simp only [List.length_nil] at this
    omega
  refine LoopW.upT l.length (fun k => ((k : Int), effM (l.take k))) rfl (fun k rec hk hrec => ?_) fun rec => ?_
  · refine ⟨fun _ => ⟨iX (by omega) (by omega), ?_⟩, fun h => absurd (show (k : Int) < (l.length : Int) by omega) h⟩
    obtain ⟨a1, a2, a3, a4, a5⟩ := placed0 (hpl k hk)
    have hrec := hrec _ rfl
    rw [take_ix hk, effM_snoc] at hrec
    refine LoopW.upT (ix l (k : Int)).Data.length (fun j => ((j : Int), (ix l (k : Int)).Volume, (ix l (k : Int)).Start + (j : Int), wrM (effM (l.take k)) (ix l (k : Int)).Volume (ix l (k : Int)).Start ((ix l (k : Int)).Data.take j))) (by simp [wrM]) (fun j rec3 hj h3 => ?_) fun rec3 => ?_
    · refine ⟨fun _ => ⟨iX (by omega) (by omega), behind_W (iI (by show _ ≤ (ix l (k : Int)).Start + (j : Int) + 1; omega) (by show (ix l (k : Int)).Start + (j : Int) + 1 ≤ _; omega)) ⟨iI (by omega) (by omega), h3 _ ?_⟩⟩, fun h => absurd (show (j : Int) < ((ix l (k : Int)).Data.length : Int) by omega) h⟩
      rw [take_ix hj, wrM_snoc, lenT (by omega)]
      rw [show (ix l (k : Int)).Start + ((j + 1 : Nat) : Int) = (ix l (k : Int)).Start + (j : Int) + 1 by omega]
      rfl
    · refine ⟨fun h => absurd h (by simp), fun _ => ⟨iI (by omega) (by omega), ?_⟩⟩
      rw [show (ix l (k : Int)).Data.take (ix l (k : Int)).Data.length = (ix l (k : Int)).Data from take_all _]
      exact hrec
  · refine ⟨fun h => absurd h (by simp), fun _ => ?_⟩
    rw [show l.take l.length = l from take_all l]
    exact ⟨by omega, ⟨by rw [Int.toNat_natCast]; omega, by rw [Int.toNat_natCast]; simp only [maxLen]; omega⟩, gather_W hlen (effM_place hp) hΦ⟩
def foldR (l : List api_Write) : List api_Write × Int := if firstN (fun k => placedR (ix l (k : Int))) l.length ≠ 0 then ([], firstN (fun k => placedR (ix l (k : Int))) l.length) else (canL (effM l), 0)
theorem coalesce_Fold_ok {l : List api_Write} {Φ : List api_Write × Int → Prop} (hl : l.length ≤ 20000) (hd : ∀ w ∈ l, w.Data.length ≤ 1000000) (hΦ : Φ (foldR l)) : Z30 l Φ := by
  unfold foldR at hΦ
  refine LoopW.errI l.length (fun k => (k : Int)) (fun k => placedR (ix l (k : Int))) (Ψ := fun e => Φ (if e ≠ 0 then ([], e) else (canL (effM l), 0))) rfl hΦ (fun k rec hk hI h1 h0 => ?_) fun rec hI h0 => ?_
  · refine ⟨fun _ => ⟨iX (by omega) (by omega), placed_W (hd _ (ix_mem ⟨by omega, by omega⟩)) ⟨fun e => ?_, fun e => ⟨iI (by omega) (by omega), h0 (Classical.not_not.1 e) _ rfl⟩⟩⟩, fun h => absurd (show (k : Int) < (l.length : Int) by omega) h⟩
    have := h1 e
    rwa [if_pos e] at this
  · refine ⟨fun h => absurd h (by simp), fun _ => ?_⟩
    rw [if_neg (by simp)] at h0
    refine effect_W hl (fun w hw => ?_) h0
    obtain ⟨k, hk, rfl⟩ := List.getElem_of_mem hw
    have := hI k hk
    rwa [ix_get hk] at this
def smallL (l : List api_Write) : Bool := decide (l.length ≤ 20000) && l.all fun w => decide (w.Data.length ≤ 1000000)
theorem smallL_ok {l : List api_Write} (h : smallL l = true) : l.length ≤ 20000 ∧ ∀ w ∈ l, w.Data.length ≤ 1000000 := by
  unfold smallL at h
  rw [Bool.and_eq_true] at h
  exact ⟨of_decide_eq_true h.1, fun w hw => of_decide_eq_true (List.all_eq_true.1 h.2 w hw)⟩
def Z101 (l : List api_Write) : Option (List api_Write × Int) := if smallL l = true then some (foldR l) else none
theorem coalesce_Fold_sound (l : List api_Write) {Φ : List api_Write × Int → Prop} {o} (h : Z101 l = some o) (hK : Φ o) : Z30 l Φ := by
  unfold Z101 at h
  split at h
  · rename_i hs
    cases h
    obtain ⟨h1, h2⟩ := smallL_ok hs
    exact coalesce_Fold_ok h1 h2 hK
  · cases h
def ordE (l : List api_Write) (k : Nat) : Int := if placedR (ix l (k : Int)) ≠ 0 then placedR (ix l (k : Int)) else if k = 0 then 0 else if (ix l (k : Int)).Volume < (ix l ((k : Int) - 1)).Volume ∨ (ix l (k : Int)).Volume = (ix l ((k : Int) - 1)).Volume ∧ (ix l (k : Int)).Start ≤ (ix l ((k : Int) - 1)).Start + ((ix l ((k : Int) - 1)).Data.length : Int) then 3 else 0
def canE (l : List api_Write) : Int := firstN (ordE l) l.length
theorem canE_pl {l : List api_Write} (h : canE l = 0) : PlL l := fun w hw => by
  obtain ⟨k, hk, rfl⟩ := List.getElem_of_mem hw
  have := firstN_zero.1 h k hk
  unfold ordE at this
  rw [ix_get hk] at this
  split at this
  · rename_i h1; exact absurd this h1
  · rename_i h1; exact Classical.not_not.1 h1
def mergeR (a b : List api_Write) : List api_Write × Int := if canE a ≠ 0 then ([], canE a) else if canE b ≠ 0 then ([], canE b) else (canL (effM (a ++ b)), 0)
theorem concat_ok {a b : List api_Write} {Φ : List api_Write → Prop} (ha : a.length ≤ 10000) (hb : b.length ≤ 10000) (hΦ : Φ (a ++ b)) : Z59 [a, b] Φ := by
  have J : ∀ v3 : List api_Write, v3 = [] → Z57 [a, b] Φ v3 := by
    rintro _ rfl
    refine ⟨3, ⟨fun _ => ⟨⟨by decide, by simp⟩, iL (by show (([] : List api_Write) ++ a).length ≤ _; rw [List.nil_append]; omega) (by decide), iI (by decide) (by decide), ⟨fun _ => ⟨⟨by decide, by simp⟩, iL (by show ((([] : List api_Write) ++ a) ++ b).length ≤ _; rw [List.nil_append, List.length_append]; omega) (by decide), iI (by decide) (by decide), ⟨fun h => absurd h (by simp), fun _ => hΦ⟩⟩, fun h => absurd (show (0 + 1 : Int) < _ by simp) h⟩⟩, fun h => absurd (show (0 : Int) < _ by simp) h⟩⟩
  refine LoopW.upT 2 (fun k => ((match k with | 0 => (0 : Int) | 1 => (a.length : Int) | _ => (a.length : Int) + (b.length : Int)), (k : Int))) rfl (fun k rec hk hrec => ?_) fun rec => ?_
  · obtain rfl | rfl : k = 0 ∨ k = 1 := by omega
    · have e : (0 : Int) + (a.length : Int) = (a.length : Int) := by omega
      refine ⟨fun _ => ⟨⟨by decide, by simp⟩, iI (by show _ ≤ (0 : Int) + (a.length : Int); omega) (by show (0 : Int) + (a.length : Int) ≤ _; omega), fun h => absurd (show (0 : Int) + (a.length : Int) < 0 from h) (by omega), fun _ => ⟨iI (by decide) (by decide), hrec _ ?_⟩⟩, fun h => absurd (show (0 : Int) < _ by simp) h⟩
      show ((0 : Int) + (a.length : Int), _) = ((a.length : Int), _)
      rw [e]; rfl
    · refine ⟨fun _ => ⟨⟨by decide, by simp⟩, iI (by show _ ≤ (a.length : Int) + (b.length : Int); omega) (by show (a.length : Int) + (b.length : Int) ≤ _; omega), fun h => absurd (show (a.length : Int) + (b.length : Int) < 0 from h) (by omega), fun _ => ⟨iI (by decide) (by decide), hrec _ rfl⟩⟩, fun h => absurd (show (1 : Int) < _ by simp) h⟩
  · refine ⟨fun h => absurd (show (2 : Int) < (2 : Int) from h) (by decide), fun _ => ?_⟩
    refine ⟨fun h => absurd (show (a.length : Int) + (b.length : Int) < 0 from h) (by omega), fun _ => ⟨iI (by decide) (by decide), iI (by show _ ≤ (a.length : Int) + (b.length : Int) - ((0 : Int) - 0); omega) (by show (a.length : Int) + (b.length : Int) - ((0 : Int) - 0) ≤ _; omega), fun h => ⟨rfl, h, ⟨?_, ?_⟩, iS (by decide) (by decide) (by omega), J _ (by simp [sub])⟩, fun _ => J _ rfl⟩⟩
    · show ((a.length : Int) + (b.length : Int) - ((0 : Int) - 0)).toNat * 40 ≤ _
      omega
    · show ((a.length : Int) + (b.length : Int) - ((0 : Int) - 0)).toNat ≤ _
      simp only [maxLen]; omega
theorem canE_W {a b : List api_Write} {i : Int} {l : List api_Write} (hl : ix ([a, b] : List (List api_Write)) i = l) (hn : l.length ≤ 1000000) (hd : ∀ w ∈ l, w.Data.length ≤ 1000000) {rec1 : Int → Prop} {Φ : List api_Write × Int → Prop} (h : Z60 i rec1 Φ (canE l)) : LoopW (Z61 a b i rec1 Φ) 0 := by
  have hdk : ∀ k : Nat, k < l.length → (ix l (k : Int)).Data.length ≤ 1000000 := fun k hk => hd _ (ix_mem ⟨by omega, by omega⟩)
  refine LoopW.errI l.length (fun k => (k : Int)) (ordE l) (Ψ := Z60 i rec1 Φ) rfl h (fun k rec hk hI h1 h0 => ?_) fun rec hI h0 => ?_
  · unfold Z61
    rw [hl]
    refine ⟨fun _ => ⟨iX (by omega) (by omega), placed_W (hdk k hk) ⟨fun e => ?_, fun e => ?_⟩⟩, fun h => absurd (show (k : Int) < (l.length : Int) by omega) h⟩
    · have e2 : ordE l k = placedR (ix l (k : Int)) := by unfold ordE; rw [if_pos e]
      have := h1 (by rw [e2]; exact e)
      rwa [e2] at this
    · refine ⟨fun z => ⟨iI (by omega) (by omega), h0 ?_ _ rfl⟩, fun z => ?_⟩
      · unfold ordE; rw [if_neg e, if_pos (by omega)]
      · have hk1 : ix l ((k : Int) - 1) = ix l ((k - 1 : Nat) : Int) := by rw [show (k : Int) - 1 = ((k - 1 : Nat) : Int) by omega]
        have hp1 := hI (k - 1) (by omega)
        have hpl : placedR (ix l ((k : Int) - 1)) = 0 := by
          rw [hk1]
          unfold ordE at hp1
          split at hp1
          · rename_i q; exact absurd hp1 q
          · rename_i q; exact Classical.not_not.1 q
        obtain ⟨b1, b2, b3, b4, b5⟩ := placed0 hpl
        have bad : ((ix l (k : Int)).Volume < (ix l ((k : Int) - 1)).Volume ∨ (ix l (k : Int)).Volume = (ix l ((k : Int) - 1)).Volume ∧ (ix l (k : Int)).Start ≤ (ix l ((k : Int) - 1)).Start + ((ix l ((k : Int) - 1)).Data.length : Int)) → Z60 i rec1 Φ 3 := fun q => by
          have e2 : ordE l k = 3 := by unfold ordE; rw [if_neg e, if_neg (by omega), if_pos q]
          have := h1 (by rw [e2]; decide)
          rwa [e2] at this
        have good : ¬ ((ix l (k : Int)).Volume < (ix l ((k : Int) - 1)).Volume ∨ (ix l (k : Int)).Volume = (ix l ((k : Int) - 1)).Volume ∧ (ix l (k : Int)).Start ≤ (ix l ((k : Int) - 1)).Start + ((ix l ((k : Int) - 1)).Data.length : Int)) → rec ((k : Int) + 1) := fun q => h0 (by unfold ordE; rw [if_neg e, if_neg (by omega), if_neg q]) _ rfl
        refine ⟨iI (by omega) (by omega), iX (by omega) (by omega), fun q => bad (.inl q), fun q => ⟨fun r => ⟨iI (by omega) (by omega), fun s => bad (.inr ⟨r, s⟩), fun s => ⟨iI (by omega) (by omega), good fun t => ?_⟩⟩, fun r => ⟨iI (by omega) (by omega), good fun t => ?_⟩⟩⟩
        · rcases t with t | t
          · exact q t
          · exact s t.2
        · rcases t with t | t
          · exact q t
          · exact r t.1
  · unfold Z61
    rw [hl]
    exact ⟨fun h => absurd h (by simp), fun _ => h0⟩
theorem coalesce_Merge_ok {a b : List api_Write} {Φ : List api_Write × Int → Prop} (ha : a.length ≤ 10000) (hb : b.length ≤ 10000) (hda : ∀ w ∈ a, w.Data.length ≤ 1000000) (hdb : ∀ w ∈ b, w.Data.length ≤ 1000000) (hΦ : Φ (mergeR a b)) : Z68 a b Φ := by
  unfold mergeR at hΦ
  refine ⟨3, ⟨fun _ => ⟨⟨by decide, by simp⟩, canE_W (l := a) rfl (by omega) hda ⟨fun e => by rw [if_pos e] at hΦ; exact hΦ, fun e => ⟨iI (by decide) (by decide), ?_⟩⟩⟩, fun h => absurd (show (0 : Int) < _ by simp) h⟩⟩
  rw [if_neg e] at hΦ
  refine ⟨fun _ => ⟨⟨by decide, by simp⟩, canE_W (l := b) rfl (by omega) hdb ⟨fun e => by rw [if_pos e] at hΦ; exact hΦ, fun e2 => ⟨iI (by decide) (by decide), ?_⟩⟩⟩, fun h => absurd (show (0 + 1 : Int) < _ by simp) h⟩
  rw [if_neg e2] at hΦ
  refine ⟨fun h => absurd h (by simp), fun _ => concat_ok ha hb ?_⟩
  refine effect_W (by rw [List.length_append]; omega) (fun w hw => ?_) hΦ
  rcases List.mem_append.1 hw with hw | hw
  · exact canE_pl (Classical.not_not.1 e) w hw
  · exact canE_pl (Classical.not_not.1 e2) w hw
def Z102 (a b : List api_Write) : Option (List api_Write × Int) := if (decide (a.length ≤ 10000 ∧ b.length ≤ 10000) && (smallL a && smallL b)) = true then some (mergeR a b) else none
theorem coalesce_Merge_sound (a b : List api_Write) {Φ : List api_Write × Int → Prop} {o} (h : Z102 a b = some o) (hK : Φ o) : Z68 a b Φ := by
  unfold Z102 at h
  split at h
  · rename_i hs
    cases h
    simp only [Bool.and_eq_true] at hs
    have h0 := of_decide_eq_true hs.1
    exact coalesce_Merge_ok h0.1 h0.2 (smallL_ok hs.2.1).2 (smallL_ok hs.2.2).2 hK
  · cases h
def sizesE (l : List Int) : Int := if (l.length : Int) < 1 ∨ 8 < (l.length : Int) then 6 else firstN (fun k => if ix l (k : Int) < 1 ∨ 4096 < ix l (k : Int) then 2 else 0) l.length
def szs (im : List (List Sec)) : List Int := im.map fun v => (v.length : Int)
def imgE (im : List (List Sec)) : Int := sizesE (szs im)
theorem szs_len (im : List (List Sec)) : (szs im).length = im.length := by unfold szs; rw [List.length_map]
theorem ix_szs {im : List (List Sec)} {k : Nat} (h : k < im.length) : ix (szs im) (k : Int) = ((ix im (k : Int)).length : Int) := by
  rw [ix_get (by rw [szs_len]; exact h), ix_get h]; unfold szs; rw [List.getElem_map]
theorem sizesE_len {l : List Int} (h : sizesE l = 0) : 1 ≤ l.length ∧ l.length ≤ 8 := by
  unfold sizesE at h
  by_cases hl : (l.length : Int) < 1 ∨ 8 < (l.length : Int)
  · rw [if_pos hl] at h; cases h
  · omega
theorem sizesE_ix {l : List Int} (h : sizesE l = 0) {k : Nat} (hk : k < l.length) : 1 ≤ ix l (k : Int) ∧ ix l (k : Int) ≤ 4096 := by
  unfold sizesE at h
  by_cases hl : (l.length : Int) < 1 ∨ 8 < (l.length : Int)
  · rw [if_pos hl] at h; cases h
  · rw [if_neg hl] at h
    have := firstN_zero.1 h k hk
    by_cases q : ix l (k : Int) < 1 ∨ 4096 < ix l (k : Int)
    · rw [if_pos q] at this; cases this
    · omega
theorem ref07_Sizes_ok {l : List Int} {Φ : Int → Prop} (hΦ : Φ (sizesE l)) : ref07_Sizes_W l Φ := by
  unfold sizesE at hΦ
  by_cases h : (l.length : Int) < 1 ∨ 8 < (l.length : Int)
  · rw [if_pos h] at hΦ
    exact ⟨fun _ => hΦ, fun _ => ⟨fun _ => hΦ, fun _ => by omega⟩⟩
  · rw [if_neg h] at hΦ
    refine ⟨fun _ => by omega, fun _ => ⟨fun _ => by omega, fun _ => ?_⟩⟩
    refine LoopW.errI l.length (fun k => (k : Int)) _ rfl hΦ (fun k rec hk _ h1 h2 => ?_) fun rec _ h0 => ⟨fun _ => by omega, fun _ => h0⟩
    refine ⟨fun _ => ⟨iX (by omega) (by omega), fun q => ?_, fun q => ⟨iX (by omega) (by omega), fun r => ?_, fun r => ⟨iI (by omega) (by omega), h2 (if_neg (by omega)) _ rfl⟩⟩⟩, fun _ => by omega⟩
    · have := h1 (by rw [if_pos (.inl q)]; omega)
      rw [if_pos (.inl q)] at this; exact this
    · have := h1 (by rw [if_pos (.inr r)]; omega)
      rw [if_pos (.inr r)] at this; exact this
theorem image_checkSizes_ok {l : List Int} {Φ : Int → Prop} (hΦ : Φ (sizesE l)) : Z3 l Φ := by
  unfold sizesE at hΦ
  by_cases h : (l.length : Int) < 1 ∨ 8 < (l.length : Int)
  · rw [if_pos h] at hΦ
    exact ⟨fun _ => hΦ, fun _ => ⟨fun _ => hΦ, fun _ => by omega⟩⟩
  · rw [if_neg h] at hΦ
    refine ⟨fun _ => by omega, fun _ => ⟨fun _ => by omega, fun _ => ?_⟩⟩
    refine LoopW.errI l.length (fun k => (k : Int)) _ rfl hΦ (fun k rec hk _ h1 h2 => ?_) fun rec _ h0 => ⟨fun _ => by omega, fun _ => ⟨fun _ => by omega, fun _ => h0⟩⟩
    have go : ∀ q : ix l (k : Int) < 1 ∨ 4096 < ix l (k : Int), Φ 2 := fun q => by
      have := h1 (by rw [if_pos q]; omega)
      rw [if_pos q] at this; exact this
    refine ⟨fun _ => ⟨iX (by omega) (by omega), fun q => ⟨fun _ => ⟨fun _ => go (.inl q), fun _ => by omega⟩, fun r => absurd rfl r⟩, fun q => ⟨fun r => ⟨fun _ => go (.inr (of_decide_eq_true r)), fun _ => by omega⟩, fun r => ⟨iI (by omega) (by omega), h2 (if_neg (by have := of_decide_eq_false (Bool.eq_false_iff.2 r); omega)) _ rfl⟩⟩⟩, fun _ => by omega⟩
theorem image_sizes_ok {im : List (List Sec)} {Φ : List Int → Prop} (hl : im.length ≤ 100000) (hΦ : Φ (szs im)) : image_sizes_W im Φ := by
  refine ⟨by omega, iL (by omega) (by omega), ?_⟩
  refine LoopW.upT im.length (fun k => ((k : Int), (im.take k).map fun v => (v.length : Int))) rfl (fun k rec hk hr => ?_) fun rec => ⟨fun _ => by omega, fun _ => by rw [take_all]; exact hΦ⟩
  refine ⟨fun _ => ⟨iX (by omega) (by omega), iL (by rw [len_snoc, List.length_map, lenT (by omega)]; omega) (by omega), iI (by omega) (by omega), hr _ (by rw [map_take_snoc _ hk]; rfl)⟩, fun _ => by omega⟩
theorem image_Check_ok {im : List (List Sec)} {Φ : Int → Prop} (hl : im.length ≤ 100000) (hΦ : Φ (imgE im)) : image_Check_W im Φ := image_sizes_ok hl (image_checkSizes_ok hΦ)
def zeroI (l : List Int) : List (List Sec) := l.map fun n => List.replicate n.toNat sec0
theorem zeroI_len (l : List Int) : (zeroI l).length = l.length := by unfold zeroI; rw [List.length_map]
theorem ix_zeroI {l : List Int} {k : Nat} (h : k < l.length) : ix (zeroI l) (k : Int) = List.replicate (ix l (k : Int)).toNat sec0 := by
  rw [ix_get (by rw [zeroI_len]; exact h), ix_get h]; unfold zeroI; rw [List.getElem_map]
theorem szs_zeroI {l : List Int} (h : sizesE l = 0) : szs (zeroI l) = l := by
  refine ext_ix (by rw [szs_len, zeroI_len]) fun k hk => ?_
  rw [szs_len, zeroI_len] at hk
  have := sizesE_ix h hk
  rw [ix_szs (by rw [zeroI_len]; exact hk), ix_zeroI hk, List.length_replicate]; omega
theorem image_New_ok {l : List Int} {Φ : List (List Sec) × Int → Prop} (h0 : sizesE l = 0 → Φ (zeroI l, 0)) (h1 : sizesE l ≠ 0 → Φ ([], sizesE l)) : image_New_W l Φ := by
  refine image_checkSizes_ok ⟨fun q => h1 q, fun q => ?_⟩
  have q : sizesE l = 0 := Classical.not_not.1 q
  have hl := sizesE_len q
  refine ⟨by omega, iL (by omega) (by omega), ?_⟩
  refine LoopW.upT l.length (fun k => ((k : Int), (l.take k).map fun n => List.replicate n.toNat sec0)) rfl (fun k rec hk hr => ?_) fun rec => ⟨fun _ => by omega, fun _ => by rw [take_all]; exact h0 q⟩
  have := sizesE_ix q hk
  refine ⟨fun _ => ⟨iX (by omega) (by omega), by omega, iL (by omega) (by omega), iL (by rw [len_snoc, List.length_map, lenT (by omega)]; omega) (by omega), iI (by omega) (by omega), hr _ (by rw [map_take_snoc _ hk]; rfl)⟩, fun _ => by omega⟩
def fitW (l : List Int) (w : api_Write) : Int := if w.Volume < 0 ∨ (l.length : Int) ≤ w.Volume then 7 else if (w.Data.length : Int) = 0 then 1 else if w.Start < 0 ∨ ix l w.Volume - w.Start < (w.Data.length : Int) then 2 else 0
theorem image_fits_ok {im : List (List Sec)} {w : api_Write} {Φ : Int → Prop} (hd : w.Data.length ≤ 1000000) (hv : ∀ k : Nat, k < im.length → (ix im (k : Int)).length ≤ 1000000) (hΦ : Φ (fitW (szs im) w)) : image_fits_W im w Φ := by
  unfold fitW at hΦ
  rw [szs_len] at hΦ
  show (_ → image_fits_J1 _ _ _ _) ∧ _
  have tail : ¬ (w.Volume < 0 ∨ (im.length : Int) ≤ w.Volume) → image_fits_J1 im w Φ false := fun q => by
    rw [if_neg q] at hΦ
    refine ⟨fun r => (Bool.noConfusion r), fun _ => ⟨fun r => by rw [if_pos (by omega)] at hΦ; exact hΦ, fun r => ?_⟩⟩
    rw [if_neg (by omega)] at hΦ
    obtain ⟨v, hw⟩ := Int.eq_ofNat_of_zero_le (show 0 ≤ w.Volume by omega)
    have hvl : v < im.length := by omega
    rw [hw, ix_szs hvl] at hΦ
    have := hv v hvl
    refine ⟨fun s => by rw [if_pos (.inl s)] at hΦ; exact hΦ, fun s => ⟨iX (by omega) (by omega), ?_⟩⟩
    rw [hw]
    exact ⟨iI (by omega) (by omega), fun t => by rw [if_pos (by omega)] at hΦ; exact hΦ, fun t => by rw [if_neg (by omega)] at hΦ; exact hΦ⟩
  refine ⟨fun q => ⟨fun _ => by rw [if_pos (.inl q)] at hΦ; exact hΦ, fun r => absurd rfl r⟩, fun q => ?_⟩
  by_cases r : (im.length : Int) ≤ w.Volume
  · rw [decide_eq_true r]
    exact ⟨fun _ => by rw [if_pos (.inr r)] at hΦ; exact hΦ, fun r => absurd rfl r⟩
  · rw [decide_eq_false r]; exact tail (by omega)
theorem ref07_FitsSizes_ok {l : List Int} {w : api_Write} {Φ : Int → Prop} (hd : w.Data.length ≤ 1000000) (hl : ∀ k : Nat, k < l.length → ix l (k : Int) ≤ 1000000) (hΦ : Φ (fitW l w)) : Z76 l w Φ := by
  unfold fitW at hΦ
  refine ⟨fun q => by rw [if_pos (.inl q)] at hΦ; exact hΦ, fun q => ⟨fun r => by rw [if_pos (.inr r)] at hΦ; exact hΦ, fun r => ?_⟩⟩
  rw [if_neg (by omega)] at hΦ
  refine ⟨fun s => by rw [if_pos (by omega)] at hΦ; exact hΦ, fun s => ?_⟩
  rw [if_neg (by omega)] at hΦ
  obtain ⟨v, hw⟩ := Int.eq_ofNat_of_zero_le (show 0 ≤ w.Volume by omega)
  have hvl : v < l.length := by omega
  have := hl v hvl
  rw [hw] at hΦ ⊢
  refine ⟨fun t => by rw [if_pos (.inl t)] at hΦ; exact hΦ, fun t => ⟨iX (by omega) (by omega), fun u => by rw [if_pos (by omega)] at hΦ; exact hΦ, fun u => ⟨iX (by omega) (by omega), iI (by omega) (by omega), fun x => by rw [if_pos (by omega)] at hΦ; exact hΦ, fun x => by rw [if_neg (by omega)] at hΦ; exact hΦ⟩⟩⟩
theorem szs_small {im : List (List Sec)} (h : imgE im = 0) (k : Nat) (hk : k < im.length) : (ix im (k : Int)).length ≤ 4096 := by
  have := sizesE_ix h (k := k) (by rw [szs_len]; exact hk)
  rw [ix_szs hk] at this; omega
theorem image_Fits_ok {im : List (List Sec)} {w : api_Write} {Φ : Int → Prop} (hd : w.Data.length ≤ 1000000) (h : imgE im = 0) (hΦ : Φ (fitW (szs im) w)) : image_Fits_W im w Φ := by
  have hl := sizesE_len h
  rw [szs_len] at hl
  exact image_Check_ok (by omega) ⟨fun q => absurd h q, fun _ => image_fits_ok hd (fun k hk => Nat.le_trans (szs_small h k hk) (by omega)) hΦ⟩
theorem sizes_ok {l : List Int} (h : ¬ sizesE l ≠ 0) : l.length ≤ 8 ∧ 1 ≤ l.length ∧ ∀ k : Nat, k < l.length → 1 ≤ ix l (k : Int) ∧ ix l (k : Int) ≤ 4096 := by
  have h0 := Classical.not_not.1 h
  unfold sizesE at h0
  split at h0
  · omega
  · refine ⟨by omega, by omega, fun k hk => ?_⟩
    have := firstN_zero.1 h0 k hk
    split at this <;> omega
theorem fitW_zero {sizes : List Int} {w : api_Write} (hs : ¬ sizesE sizes ≠ 0) (h : fitW sizes w = 0) : 0 ≤ w.Volume ∧ w.Volume < (sizes.length : Int) ∧ 1 ≤ w.Data.length ∧ 0 ≤ w.Start ∧ w.Start + (w.Data.length : Int) ≤ ix sizes w.Volume ∧ ix sizes w.Volume ≤ 4096 := by
  unfold fitW at h
  split at h
  · omega
  split at h
  · omega
  split at h
  · omega
  obtain ⟨v, hv⟩ := Int.eq_ofNat_of_zero_le (show 0 ≤ w.Volume by omega)
  have hz := (sizes_ok hs).2.2 v (by omega)
  rw [← hv] at hz
  omega
theorem ix_put {α : Type} [Dt α] (xs : List α) {i j : Nat} (x : α) (hi : i < xs.length) : ix (put xs (i : Int) x) (j : Int) = if j = i then x else ix xs (j : Int) := by
  show (xs.set i x).getD j default = if j = i then x else xs.getD j default
  rw [List.getD_eq_getElem?_getD, List.getD_eq_getElem?_getD]
  by_cases h : j = i
  · subst h; rw [List.getElem?_set_self hi, if_pos rfl]; rfl
  · rw [List.getElem?_set_ne (by omega), if_neg h]
theorem ix_put_self {α : Type} [Dt α] {xs : List α} {i : Int} (x : α) (hi : inX i xs.length) : ix (put xs i x) i = x := by
  obtain ⟨k, rfl⟩ := Int.eq_ofNat_of_zero_le hi.1
  rw [ix_put xs x (by have := hi.2; omega), if_pos rfl]
structure FitW (sizes : List Int) (w : api_Write) (v s : Nat) : Prop where
  vol : w.Volume = (v : Int)
  start : w.Start = (s : Int)
  hv : v < sizes.length
  len : 1 ≤ w.Data.length
  le : ((s + w.Data.length : Nat) : Int) ≤ ix sizes (v : Int)
  top : ix sizes (v : Int) ≤ 4096
theorem fitW_of {sizes : List Int} {w : api_Write} (hs : ¬ sizesE sizes ≠ 0) (h : fitW sizes w = 0) : ∃ v s : Nat, FitW sizes w v s := by
  have := fitW_zero hs h
  obtain ⟨v, hv⟩ := Int.eq_ofNat_of_zero_le this.1
  obtain ⟨s, hst⟩ := Int.eq_ofNat_of_zero_le this.2.2.2.1
  rw [hv, hst] at this
  exact ⟨v, s, hv, hst, by omega, by omega, by omega, by omega⟩
def sec (im : List (List Sec)) (v i : Nat) : Sec := ix (ix im (v : Int)) (i : Int)
theorem slices_Clone_Sec_ok {l : List Sec} {Φ : List Sec → Prop} (hl : l.length ≤ 1000000) (hΦ : Φ l) : Z11 l Φ :=
  ⟨fun h => (by subst h; exact hΦ), iL hl (by omega), hΦ⟩
theorem cycle_in_ok {x lo hi : Int} {Φ : Bool → Prop} (h : Φ (decide (lo ≤ x ∧ x ≤ hi))) : cycle_in_W x lo hi Φ := by
  refine ⟨fun q => ?_, fun q => ?_⟩
  · rw [show decide (lo ≤ x ∧ x ≤ hi) = decide (x ≤ hi) from by simp [q]] at h; exact h
  · rw [show decide (lo ≤ x ∧ x ≤ hi) = false from decide_eq_false fun r => q r.1] at h; exact h
def fewL (l : List api_Write) : Bool := decide (l.length ≤ 40 ∧ ∀ w ∈ l, w.Data.length ≤ 24)
theorem ref22_Few_ok {l : List api_Write} {Φ : Bool → Prop} (hΦ : Φ (fewL l)) : ref22_Few_W l Φ := by
  have h0 : ¬ (l.length ≤ 40 ∧ ∀ w ∈ l, w.Data.length ≤ 24) → Φ false := fun q => by
    unfold fewL at hΦ; rw [decide_eq_false q] at hΦ; exact hΦ
  have h1 : (l.length ≤ 40 ∧ ∀ w ∈ l, w.Data.length ≤ 24) → Φ true := fun q => by
    unfold fewL at hΦ; rw [decide_eq_true q] at hΦ; exact hΦ
  refine LoopW.upI (min l.length 60) (fun k => (k : Int)) (fun k => ∀ j : Nat, j < k → (ix l (j : Int)).Data.length ≤ 24) rfl (fun j hj => absurd hj (Nat.not_lt_zero j)) (fun k rec hk hI hr => ?_) fun rec hI => ?_
  · refine ⟨fun _ => ?_, fun q => by omega⟩
    rw [decide_eq_true (show (k : Int) < 60 by omega)]
    refine ⟨fun _ => ⟨iX (by omega) (by omega), fun q => h0 fun r => ?_, fun q => ⟨iI (by omega) (by omega), hr (fun j hj => ?_) _ rfl⟩⟩, fun q => absurd rfl q⟩
    · have := r.2 _ (ix_mem (iX (i := (k : Int)) (n := l.length) (by omega) (by omega)))
      omega
    · rcases Nat.lt_or_ge j k with h2 | h2
      · exact hI j h2
      · obtain rfl : j = k := by omega
        omega
  · have fin : Φ (decide ((l.length : Int) ≤ 40)) := by
      by_cases q : l.length ≤ 40
      · rw [decide_eq_true (by omega)]
        refine h1 ⟨q, fun w hw => ?_⟩
        obtain ⟨k, hk, rfl⟩ := List.getElem_of_mem hw
        have := hI k (by omega)
        rwa [ix_get hk] at this
      · rw [decide_eq_false (by omega)]; exact h0 fun r => q r.1
    refine ⟨fun q => ?_, fun _ => ⟨fun r => Bool.noConfusion r, fun _ => fin⟩⟩
    rw [decide_eq_false (show ¬ (((min l.length 60 : Nat) : Int) < 60) by omega)]
    exact ⟨fun r => Bool.noConfusion r, fun _ => fin⟩
theorem ref22_Few_by {l : List api_Write} {Φ : Bool → Prop} (h0 : Φ false) (h1 : l.length ≤ 40 → (∀ w ∈ l, w.Data.length ≤ 24) → Φ true) : ref22_Few_W l Φ := by
  refine ref22_Few_ok ?_
  unfold fewL
  by_cases q : l.length ≤ 40 ∧ ∀ w ∈ l, w.Data.length ≤ 24
  · rw [decide_eq_true q]; exact h1 q.1 q.2
  · rw [decide_eq_false q]; exact h0
def posE (l : List Int) : Int := firstN (fun k => if ix l (k : Int) < 0 ∨ 1073741824 < ix l (k : Int) then 2 else 0) l.length
def posR (least : Int) (l : List Int) : Int := if (l.length : Int) < least ∨ 8 < (l.length : Int) then 6 else posE l
theorem cycle_positions_ok {l : List Int} {least : Int} {Φ : Int → Prop} (hl : l.length ≤ 100000) (hΦ : Φ (posR least l)) : Z8 l least Φ := by
  refine cycle_in_ok ⟨fun q => ?_, fun q => ?_⟩
  · have := of_decide_eq_false (Bool.eq_false_iff.2 q)
    unfold posR at hΦ
    rw [if_pos (by omega)] at hΦ; exact hΦ
  · have := of_decide_eq_true (Classical.not_not.1 q)
    unfold posR at hΦ
    rw [if_neg (by omega)] at hΦ
    refine LoopW.errI l.length (fun k => (k : Int)) _ rfl hΦ (fun k rec hk _ h1 h2 => ?_) fun rec _ h0 => ⟨fun _ => by omega, fun _ => ⟨fun _ => by omega, fun _ => h0⟩⟩
    refine ⟨fun _ => ⟨iX (by omega) (by omega), cycle_in_ok ⟨fun r => ?_, fun r => ?_⟩⟩, fun _ => by omega⟩
    · have r := of_decide_eq_true r
      have r : ¬ (0 ≤ ix l (k : Int) ∧ ix l (k : Int) ≤ 1073741824) := fun t => r (decide_eq_true t)
      have c : ix l (k : Int) < 0 ∨ 1073741824 < ix l (k : Int) := by omega
      have := h1 (by rw [if_pos c]; omega)
      rw [if_pos c] at this
      exact ⟨fun _ => this, fun s => by omega⟩
    · have r : ¬ ¬ (decide (0 ≤ ix l (k : Int) ∧ ix l (k : Int) ≤ 1073741824) = true) := fun t => r (decide_eq_true t)
      have r := of_decide_eq_true (Classical.not_not.1 r)
      exact ⟨iI (by omega) (by omega), h2 (if_neg (by omega)) _ rfl⟩
theorem ref23_positions_ok {l : List Int} {Φ : Int → Prop} (hl : l.length ≤ 100000) (hΦ : Φ (posE l)) : Z75 l Φ := by
  refine LoopW.errI l.length (fun k => (k : Int)) _ rfl hΦ (fun k rec hk _ h1 h2 => ?_) fun rec _ h0 => ⟨fun _ => by omega, fun _ => h0⟩
  refine ⟨fun _ => ⟨iX (by omega) (by omega), fun q => ?_, fun q => ⟨iX (by omega) (by omega), fun r => ?_, fun r => ⟨iI (by omega) (by omega), h2 (if_neg (by omega)) _ rfl⟩⟩⟩, fun _ => by omega⟩
  · have := h1 (by rw [if_pos (.inl q)]; omega)
    rw [if_pos (.inl q)] at this; exact this
  · have := h1 (by rw [if_pos (.inr r)]; omega)
    rw [if_pos (.inr r)] at this; exact this
theorem slices_Clone_int_ok {l : List Int} {Φ : List Int → Prop} (hl : l.length ≤ 1000000) (hΦ : Φ l) : Z4 l Φ :=
  ⟨fun h => (by subst h; exact hΦ), iL hl (by omega), hΦ⟩
theorem ref23_ints_ok {l : List Int} {Φ : List Int → Prop} (hl : l.length ≤ 1000000) (hΦ : Φ l) : ref23_ints_W l Φ := ⟨iL hl (by omega), hΦ⟩
theorem ref03_SameSectors_refl {l : List Sec} {Φ : Bool → Prop} (hl : l.length ≤ 1000000) (hΦ : Φ true) : Z44 l l Φ :=
  ⟨fun h => absurd rfl h, fun _ => LoopW.upT l.length (fun k => (k : Int)) rfl (fun k rec hk hr => ⟨fun hlt => ⟨iX (by omega) hlt, iX (by omega) hlt, fun q => absurd rfl q, fun _ => ⟨iI (by omega) (by omega), hr _ rfl⟩⟩, fun q => absurd (show (k : Int) < (l.length : Int) by omega) q⟩) fun rec => ⟨fun q => absurd q (by omega), fun _ => hΦ⟩⟩
theorem ref03_SameWrites_refl {l : List api_Write} {Φ : Bool → Prop} (hl : l.length ≤ 1000000) (hd : ∀ w ∈ l, w.Data.length ≤ 1000000) (hΦ : Φ true) : Z46 l l Φ :=
  ⟨fun h => absurd rfl h, fun _ => LoopW.upT l.length (fun k => (k : Int)) rfl (fun k rec hk hr => ⟨fun hlt => ⟨iX (by omega) hlt, iX (by omega) hlt, fun q => absurd rfl q, fun _ => ⟨iX (by omega) hlt, iX (by omega) hlt, fun q => absurd rfl q, fun _ => ⟨iX (by omega) hlt, iX (by omega) hlt, (true, ()), ref03_SameSectors_refl (hd _ (ix_mem (iX (by omega) hlt))) rfl, fun q => absurd rfl q, fun _ => ⟨iI (by omega) (by omega), hr _ rfl⟩⟩⟩⟩, fun q => absurd (show (k : Int) < (l.length : Int) by omega) q⟩) fun rec => ⟨fun q => absurd q (by omega), fun _ => hΦ⟩⟩
theorem ref23_SameInts_refl {l : List Int} {Φ : Bool → Prop} (hl : l.length ≤ 1000000) (hΦ : Φ true) : Z97 l l Φ :=
  ⟨fun h => absurd rfl h, fun _ => LoopW.upT l.length (fun k => (k : Int)) rfl (fun k rec hk hr => ⟨fun hlt => ⟨iX (by omega) hlt, iX (by omega) hlt, fun q => absurd rfl q, fun _ => ⟨iI (by omega) (by omega), hr _ rfl⟩⟩, fun q => absurd (show (k : Int) < (l.length : Int) by omega) q⟩) fun rec => ⟨fun q => absurd q (by omega), fun _ => hΦ⟩⟩
theorem mfindP {κ ν : Type} [DecidableEq κ] (k : κ) (v : ν) (c : κ) : ∀ m : List (κ × ν), mfind (mput m k v) c = if c = k then some v else mfind m c
  | [] => by unfold mput mfind mfind; rfl
  | p :: m => by
    unfold mput
    by_cases h : k = p.1
    · rw [if_pos h]
      unfold mfind
      by_cases hc : c = k
      · rw [if_pos (by rw [hc, h]), if_pos hc]
      · rw [if_neg (fun t => hc (t.trans h.symm)), if_neg hc, if_neg (fun t => hc (t.trans h.symm))]
    · rw [if_neg h]
      unfold mfind
      rw [mfindP k v c m]
      by_cases hc : c = k
      · rw [if_neg (fun t => h (hc.symm.trans t)), if_pos hc, if_pos hc]
      · rw [if_neg hc, if_neg hc]
theorem mkeys_mem {κ ν : Type} [DecidableEq κ] (c : κ) : ∀ m : List (κ × ν), c ∈ m.map (·.1) ↔ ∃ d, mfind m c = some d
  | [] => by simp [mfind]
  | p :: m => by
    unfold mfind
    by_cases h : c = p.1
    · rw [if_pos h]; simp [h]
    · rw [if_neg h, ← mkeys_mem c m, List.map_cons, List.mem_cons]
      exact ⟨fun q => q.resolve_left h, .inr⟩
theorem mput_keys {κ ν : Type} [DecidableEq κ] (k : κ) (v : ν) {m : List (κ × ν)} (c : κ) : c ∈ (mput m k v).map (·.1) ↔ c = k ∨ c ∈ m.map (·.1) := by
  rw [mkeys_mem, mkeys_mem, mfindP]
  by_cases h : c = k
  · rw [if_pos h]; exact ⟨fun _ => .inl h, fun _ => ⟨v, rfl⟩⟩
  · rw [if_neg h]; exact ⟨.inr, fun q => q.resolve_left h⟩
theorem mput_nodup {κ ν : Type} [DecidableEq κ] (k : κ) (v : ν) : ∀ {m : List (κ × ν)}, (m.map (·.1)).Nodup → ((mput m k v).map (·.1)).Nodup
  | [], _ => by simp [mput]
  | p :: m, h => by
    have h1 := List.nodup_cons.1 (show (p.1 :: m.map (·.1)).Nodup from h)
    unfold mput
    by_cases hk : k = p.1
    · rw [if_pos hk]; exact h
    · rw [if_neg hk]
      refine List.nodup_cons.2 ⟨fun q => ?_, mput_nodup k v h1.2⟩
      rcases (mput_keys k v p.1).1 q with q | q
      · exact hk q.symm
      · exact h1.1 q
theorem wrM_nodup {v : Int} : ∀ (l : List Sec) (m : List (coalesce_place × Sec)) (s : Int), (m.map (·.1)).Nodup → ((wrM m v s l).map (·.1)).Nodup
  | [], _, _, h => h
  | _ :: l, _, _, h => wrM_nodup l _ _ (mput_nodup _ _ h)
theorem effM_nodup (l : List api_Write) : ((effM l).map (·.1)).Nodup := by
  refine snocInd (P := fun l => ((effM l).map (·.1)).Nodup) List.nodup_nil (fun l w h => ?_) l
  rw [effM_snoc]; exact wrM_nodup _ _ _ h
theorem ix_cons {α : Type} [Dt α] (x : α) (l : List α) (i : Int) (h : 0 ≤ i) : ix (x :: l) i = if i = 0 then x else ix l (i - 1) := by
  obtain ⟨k, rfl⟩ := Int.eq_ofNat_of_zero_le h
  cases k with
  | zero => rfl
  | succ k => rw [if_neg (by omega), show ((k + 1 : Nat) : Int) - 1 = (k : Int) by omega]; rfl
theorem wrM_find {v : Int} (q : coalesce_place) : ∀ (l : List Sec) (m : List (coalesce_place × Sec)) (s : Int), mfind (wrM m v s l) q = if q.volume = v ∧ s ≤ q.sector ∧ q.sector < s + (l.length : Int) then some (ix l (q.sector - s)) else mfind m q
  | [], m, s => by rw [if_neg (by rw [List.length_nil]; omega)]; rfl
  | d :: l, m, s => by
    have el : ((d :: l).length : Int) = (l.length : Int) + 1 := by rw [List.length_cons]; rfl
    rw [wrM, wrM_find q l, mfindP, el]
    by_cases h : q.volume = v ∧ s ≤ q.sector ∧ q.sector < s + ((l.length : Int) + 1)
    · rw [if_pos h, ix_cons _ _ _ (by omega)]
      by_cases h0 : q.sector = s
      · rw [if_neg (by omega), if_pos (place_ext h.1 h0), if_pos (by omega)]
      · rw [if_pos (by omega), if_neg (by omega), show q.sector - (s + 1) = q.sector - s - 1 by omega]
    · rw [if_neg h, if_neg (by omega), if_neg (fun t => h (by rw [t]; exact ⟨rfl, Int.le_refl _, by show s < _; omega⟩))]
theorem wrM_sum {v : Int} (l : List Sec) (m : List (coalesce_place × Sec)) (s : Int) : (wrM m v s l).length ≤ m.length + l.length := wrM_len l m s
def secN (l : List api_Write) : Nat := (l.map (·.Data.length)).sum
theorem secN_append (a b : List api_Write) : secN (a ++ b) = secN a + secN b := by unfold secN; rw [List.map_append, List.sum_append_nat]
theorem secN_one (w : api_Write) : secN [w] = w.Data.length := by simp [secN]
theorem effM_sum (l : List api_Write) : (effM l).length ≤ secN l := by
  refine snocInd (P := fun l => (effM l).length ≤ secN l) (Nat.le_refl _) (fun l w h => ?_) l
  rw [effM_snoc, secN_append, secN_one]
  have := wrM_sum (v := w.Volume) w.Data (effM l) w.Start
  omega
def behW (w : api_Write) : coalesce_place := ⟨w.Volume, w.Start + (w.Data.length : Int)⟩
def stepR (m : List (coalesce_place × Sec)) (R : List api_Write) (p : coalesce_place) : List api_Write :=
  match R with
  | [] => [⟨p.volume, p.sector, [mget m p sec0]⟩]
  | w :: r => if p = behW w then ⟨w.Volume, w.Start, w.Data ++ [mget m p sec0]⟩ :: r else ⟨p.volume, p.sector, [mget m p sec0]⟩ :: w :: r
theorem clsW_snoc (xs : List api_Write) (w : api_Write) (ys : List Sec) : clsW (xs ++ [w]) ys = xs ++ [⟨w.Volume, w.Start, ys⟩] := by
  have e : (((xs ++ [w]).length : Nat) : Int) - 1 = (xs.length : Int) := by rw [len_snoc]; omega
  have g : ix (xs ++ [w]) (xs.length : Int) = w := by rw [ix_get (by rw [len_snoc]; omega)]; simp
  unfold clsW
  rw [e, g]
  show (xs ++ [w]).set xs.length _ = _
  rw [List.set_append_right _ _ (Nat.le_refl _), Nat.sub_self]; rfl
def InvG (st : coalesce_place × List api_Write × List Sec) : List api_Write → Prop
  | [] => st = (⟨-1, 0⟩, [], [])
  | w :: r => st.1 = behW w ∧ st.2.2 = w.Data ∧ ∃ d, st.2.1 = r.reverse ++ [⟨w.Volume, w.Start, d⟩]
theorem InvG.cls {st : coalesce_place × List api_Write × List Sec} : ∀ {R : List api_Write}, InvG st R → clsW st.2.1 st.2.2 = R.reverse
  | [], h => by rw [show st = (⟨-1, 0⟩, [], []) from h]; rfl
  | w :: r, ⟨_, h2, d, h3⟩ => by rw [h3, clsW_snoc, h2, List.reverse_cons]
theorem grpL_inv (m : List (coalesce_place × Sec)) (ps : List coalesce_place) : (∀ p ∈ ps, 0 ≤ p.volume) → InvG (grpL m ps) (ps.foldl (stepR m) []) := by
  refine snocInd (P := fun ps => (∀ p ∈ ps, 0 ≤ p.volume) → InvG (grpL m ps) (ps.foldl (stepR m) [])) (fun _ => rfl) (fun ps p ih h => ?_) ps
  have ih := ih fun q hq => h q (List.mem_append_left _ hq)
  have hp := h p (by simp)
  rw [grpL_snoc, List.foldl_append]
  show InvG (grpS m (grpL m ps) p) (stepR m (ps.foldl (stepR m) []) p)
  have hc := ih.cls
  generalize ps.foldl (stepR m) [] = R at ih hc ⊢
  generalize grpL m ps = st at ih hc ⊢
  unfold grpS
  cases R with
  | nil =>
    have e : st = (⟨-1, 0⟩, [], []) := ih
    rw [if_pos (by rw [e]; rintro rfl; exact absurd hp (by show ¬ ((0 : Int) ≤ -1); omega)), hc]
    exact ⟨rfl, rfl, [], rfl⟩
  | cons w r =>
    obtain ⟨h1, h2, d, h3⟩ := ih
    unfold stepR
    by_cases hb : p = behW w
    · simp only [if_pos hb]
      rw [if_neg (by rw [h1, hb]; exact fun t => t rfl)]
      refine ⟨?_, by show st.2.2 ++ _ = _; rw [h2], d, h3⟩
      show (⟨p.volume, p.sector + 1⟩ : coalesce_place) = behW ⟨w.Volume, w.Start, w.Data ++ [mget m p sec0]⟩
      unfold behW
      rw [hb, len_snoc]
      exact place_ext rfl (by show w.Start + (w.Data.length : Int) + 1 = w.Start + ((w.Data.length + 1 : Nat) : Int); omega)
    · simp only [if_neg hb]
      rw [if_pos (by rw [h1]; exact hb), hc]
      exact ⟨rfl, rfl, [], rfl⟩
def ltQ (a b : coalesce_place) : Prop := a.volume < b.volume ∨ a.volume = b.volume ∧ a.sector < b.sector
def gapW (y x : api_Write) : Prop := y.Volume < x.Volume ∨ y.Volume = x.Volume ∧ y.Start + (y.Data.length : Int) < x.Start
structure Grp (m : List (coalesce_place × Sec)) (ps : List coalesce_place) (R : List api_Write) : Prop where
  ne : ∀ w ∈ R, 0 < w.Data.length
  gap : R.Pairwise fun x y => gapW y x
  mem : ∀ w ∈ R, ∀ j : Nat, j < w.Data.length → (⟨w.Volume, w.Start + (j : Int)⟩ : coalesce_place) ∈ ps ∧ ix w.Data (j : Int) = mget m ⟨w.Volume, w.Start + (j : Int)⟩ sec0
  cov : ∀ p ∈ ps, ∃ w ∈ R, w.Volume = p.volume ∧ w.Start ≤ p.sector ∧ p.sector < w.Start + (w.Data.length : Int)
  sum : secN R = ps.length
theorem ix_snoc {α : Type} [Dt α] (xs : List α) (x : α) (j : Nat) (h : j < (xs ++ [x]).length) : ix (xs ++ [x]) (j : Int) = if j = xs.length then x else ix xs (j : Int) := by
  rw [len_snoc] at h
  by_cases e : j = xs.length
  · rw [if_pos e, ix_get (by rw [len_snoc]; omega)]; simp [e]
  · rw [if_neg e, ix_get (by rw [len_snoc]; omega), ix_get (by omega), List.getElem_append_left (by omega)]
theorem Grp.step {m : List (coalesce_place × Sec)} {ps : List coalesce_place} {R : List api_Write} (g : Grp m ps R) {p : coalesce_place} (hp : ∀ q ∈ ps, ltQ q p) : Grp m (ps ++ [p]) (stepR m R p) := by
  have one : ∀ (w : api_Write), w ∈ R → w.Volume < p.volume ∨ w.Volume = p.volume ∧ w.Start + (w.Data.length : Int) ≤ p.sector := fun w hw => by
    have h0 := g.ne w hw
    have h1 := hp _ (g.mem w hw (w.Data.length - 1) (by omega)).1
    unfold ltQ at h1
    simp only at h1
    omega
  have nw : ∀ j : Nat, j < [mget m p sec0].length → (⟨p.volume, p.sector + (j : Int)⟩ : coalesce_place) ∈ ps ++ [p] ∧ ix [mget m p sec0] (j : Int) = mget m ⟨p.volume, p.sector + (j : Int)⟩ sec0 := fun j hj => by
    obtain rfl : j = 0 := by simpa using hj
    have e : (⟨p.volume, p.sector + ((0 : Nat) : Int)⟩ : coalesce_place) = p := place_ext rfl (by show p.sector + ((0 : Nat) : Int) = p.sector; omega)
    rw [e]; exact ⟨by simp, rfl⟩
  have old : ∀ w ∈ R, ∀ j : Nat, j < w.Data.length → (⟨w.Volume, w.Start + (j : Int)⟩ : coalesce_place) ∈ ps ++ [p] ∧ ix w.Data (j : Int) = mget m ⟨w.Volume, w.Start + (j : Int)⟩ sec0 := fun w hw j hj => ⟨List.mem_append_left _ (g.mem w hw j hj).1, (g.mem w hw j hj).2⟩
  have push : (∀ w ∈ R, p ≠ behW w) → Grp m (ps ++ [p]) (⟨p.volume, p.sector, [mget m p sec0]⟩ :: R) := fun hb => by
    refine ⟨fun w hw => ?_, List.pairwise_cons.2 ⟨fun y hy => ?_, g.gap⟩, fun w hw => ?_, fun q hq => ?_, ?_⟩
    · rcases List.mem_cons.1 hw with rfl | hw
      · exact Nat.zero_lt_one
      · exact g.ne w hw
    · have h1 := one y hy
      have h2 := hb y hy
      unfold gapW
      rcases h1 with h1 | h1
      · exact .inl h1
      · refine .inr ⟨h1.1, ?_⟩
        show y.Start + (y.Data.length : Int) < p.sector
        have : y.Start + (y.Data.length : Int) ≠ p.sector := fun t => h2 (place_ext h1.1.symm t.symm)
        omega
    · rcases List.mem_cons.1 hw with rfl | hw
      · exact nw
      · exact old w hw
    · rcases List.mem_append.1 hq with hq | hq
      · obtain ⟨w, hw, h⟩ := g.cov q hq
        exact ⟨w, List.mem_cons_of_mem _ hw, h⟩
      · obtain rfl := List.mem_singleton.1 hq
        exact ⟨_, List.mem_cons_self .., rfl, Int.le_refl _, by show q.sector < q.sector + ((1 : Nat) : Int); omega⟩
    · have := g.sum
      unfold secN at *
      rw [List.map_cons, List.sum_cons, this, len_snoc]
      show 1 + ps.length = _
      omega
  cases R with
  | nil => exact push fun w hw => absurd hw List.not_mem_nil
  | cons w r =>
    have gp := List.pairwise_cons.1 g.gap
    unfold stepR
    by_cases hb : p = behW w
    · simp only [if_pos hb]
      have hv : w.Volume = p.volume := by rw [hb]; rfl
      have hsx : w.Start + (w.Data.length : Int) = p.sector := by rw [hb]; rfl
      refine ⟨fun x hx => ?_, List.pairwise_cons.2 ⟨fun y hy => gp.1 y hy, gp.2⟩, fun x hx => ?_, fun q hq => ?_, ?_⟩
      · rcases List.mem_cons.1 hx with rfl | hx
        · show 0 < (w.Data ++ _).length
          rw [len_snoc]; omega
        · exact g.ne x (List.mem_cons_of_mem _ hx)
      · rcases List.mem_cons.1 hx with rfl | hx
        · intro j hj
          have hj : j < (w.Data ++ [mget m p sec0]).length := hj
          show (⟨w.Volume, w.Start + (j : Int)⟩ : coalesce_place) ∈ ps ++ [p] ∧ ix (w.Data ++ [mget m p sec0]) (j : Int) = _
          rw [ix_snoc _ _ _ hj]
          rw [len_snoc] at hj
          by_cases e : j = w.Data.length
          · have ep : (⟨w.Volume, w.Start + (j : Int)⟩ : coalesce_place) = p := place_ext hv (by show w.Start + (j : Int) = _; omega)
            rw [if_pos e]
            exact ⟨by rw [ep]; simp, by show _ = mget m (⟨w.Volume, w.Start + (j : Int)⟩ : coalesce_place) sec0; rw [ep]⟩
          · rw [if_neg e]
            exact old w (List.mem_cons_self ..) j (by omega)
        · exact old x (List.mem_cons_of_mem _ hx)
      · rcases List.mem_append.1 hq with hq | hq
        · obtain ⟨x, hx, h1, h2, h3⟩ := g.cov q hq
          rcases List.mem_cons.1 hx with rfl | hx
          · exact ⟨_, List.mem_cons_self .., h1, h2, by show q.sector < x.Start + ((x.Data ++ [mget m p sec0]).length : Int); rw [len_snoc]; omega⟩
          · exact ⟨x, List.mem_cons_of_mem _ hx, h1, h2, h3⟩
        · obtain rfl := List.mem_singleton.1 hq
          exact ⟨_, List.mem_cons_self .., hv, by show w.Start ≤ _; omega, by show q.sector < w.Start + ((w.Data ++ [mget m q sec0]).length : Int); rw [len_snoc]; omega⟩
      · have := g.sum
        unfold secN at *
        rw [List.map_cons, List.sum_cons] at *
        rw [len_snoc, len_snoc]
        omega
    · simp only [if_neg hb]
      refine push fun y hy => ?_
      rcases List.mem_cons.1 hy with rfl | hy
      · exact hb
      · rintro rfl
        have h1 := gp.1 y hy
        have h2 := one w (List.mem_cons_self ..)
        have h3 := g.ne w (List.mem_cons_self ..)
        unfold gapW at h1
        unfold behW at h2
        simp only at h2
        omega
theorem grp_all (m : List (coalesce_place × Sec)) (ps : List coalesce_place) : ps.Pairwise ltQ → Grp m ps (ps.foldl (stepR m) []) := by
  refine snocInd (P := fun ps => ps.Pairwise ltQ → Grp m ps (ps.foldl (stepR m) [])) (fun _ => ⟨fun w hw => absurd hw List.not_mem_nil, List.Pairwise.nil, fun w hw => absurd hw List.not_mem_nil, fun p hp => absurd hp List.not_mem_nil, rfl⟩) (fun ps p ih h => ?_) ps
  rw [List.foldl_append]
  have h1 := List.pairwise_append.1 h
  exact (ih h1.1).step fun q hq => h1.2.2 q hq p (by simp)
theorem keys_sorted {m : List (coalesce_place × Sec)} (hn : (m.map (·.1)).Nodup) : (sortG pleB (m.map (·.1))).Pairwise ltQ := by
  have h1 := sortG_sorted ple_total ple_trans (m.map (·.1))
  have h2 : (sortG pleB (m.map (·.1))).Nodup := (sortG_perm pleB _).nodup_iff.2 hn
  refine (List.Pairwise.and h1 h2).imp fun {a b} h => ?_
  have := h.1
  unfold pleB at this
  simp only [decide_eq_true_eq] at this
  unfold ltQ
  have : ¬ (a.volume = b.volume ∧ a.sector = b.sector) := fun t => h.2 (place_ext t.1 t.2)
  omega
theorem canL_grp {m : List (coalesce_place × Sec)} (hn : (m.map (·.1)).Nodup) (hv : ∀ q ∈ m, 0 ≤ q.1.volume) : ∃ R, Grp m (sortG pleB (m.map (·.1))) R ∧ canL m = R.reverse := by
  refine ⟨_, grp_all m _ (keys_sorted hn), (grpL_inv m _ fun p hp => ?_).cls⟩
  obtain ⟨q, hq, rfl⟩ := List.mem_map.1 ((sortG_perm pleB _).mem_iff.1 hp)
  exact hv q hq
structure Can (m : List (coalesce_place × Sec)) (ws : List api_Write) : Prop where
  ne : ∀ w ∈ ws, 0 < w.Data.length
  gap : ws.Pairwise gapW
  mem : ∀ w ∈ ws, ∀ j : Nat, j < w.Data.length → mfind m ⟨w.Volume, w.Start + (j : Int)⟩ = some (ix w.Data (j : Int))
  cov : ∀ p d, mfind m p = some d → ∃ w ∈ ws, w.Volume = p.volume ∧ w.Start ≤ p.sector ∧ p.sector < w.Start + (w.Data.length : Int)
  sum : secN ws = m.length
theorem secN_reverse (l : List api_Write) : secN l.reverse = secN l := by
  unfold secN; rw [List.map_reverse, List.sum_reverse]
theorem canL_can {m : List (coalesce_place × Sec)} (hn : (m.map (·.1)).Nodup) (hv : ∀ q ∈ m, 0 ≤ q.1.volume) : Can m (canL m) := by
  obtain ⟨R, g, e⟩ := canL_grp hn hv
  have pm : ∀ p, p ∈ sortG pleB (m.map (·.1)) ↔ ∃ d, mfind m p = some d := fun p => ((sortG_perm pleB _).mem_iff).trans (mkeys_mem p m)
  rw [e]
  refine ⟨fun w hw => g.ne w (List.mem_reverse.1 hw), List.pairwise_reverse.2 g.gap, fun w hw j hj => ?_, fun p d h => ?_, ?_⟩
  · obtain ⟨h1, h2⟩ := g.mem w (List.mem_reverse.1 hw) j hj
    obtain ⟨d, hd⟩ := (pm _).1 h1
    unfold mget at h2
    rw [hd] at h2
    rw [hd, h2]
  · obtain ⟨w, hw, h⟩ := g.cov p ((pm p).2 ⟨d, h⟩)
    exact ⟨w, List.mem_reverse.2 hw, h⟩
  · rw [secN_reverse, g.sum, (sortG_perm pleB _).length_eq, List.length_map]
theorem mkey_of {m : List (coalesce_place × Sec)} {p : coalesce_place} {d : Sec} (h : mfind m p = some d) : ∃ q ∈ m, q.1 = p := by
  have := (mkeys_mem p m).2 ⟨d, h⟩
  obtain ⟨q, hq, e⟩ := List.mem_map.1 this
  exact ⟨q, hq, e⟩
end Go.Proofs.YtbnfefbhalpceaaGreat
