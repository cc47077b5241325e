/- Part 5 of the proof of the statement ConsistencyDecidesCardSaid: lemmas. No condition of its own. -/
import Derived.Lib.TrailingZeros
import Derived.Test.YtpmjodnmnffmhaaGreatDoorProg
import Derived.Shelf.SlicesG.Cmp
import Derived.Shelf.SlGeneric
import Derived.Ground.SlgcProg
import Derived.Ground.SlgmProg
import Derived.Ground.SlsfProg
import Derived.Shelf.SortM.Plain
import Derived.Shelf.SortM.SortNone
import Derived.Shelf.Lay
import Derived.Shelf.Strings.BuilderK
import Derived.Shelf.Strconv.Itoa3
import Derived.Test.YtpmjodnmnffmhaaGreatDoorM4
namespace Go.Proofs.YtpmjodnmnffmhaaGreatDoor
open Go.RowKit
def ref15_Few_L2 (x0 : api_History) (Φ : Bool → Prop) : (Int) → ((Int) → Prop) → Prop
 | v2, rec2 =>
 (v2 < (x0.Writes.length : Int) →
 inX v2 x0.Writes.length ∧
 (30 < (((ix x0.Writes v2).Data).length : Int) →
 Φ false) ∧
 (¬ (30 < (((ix x0.Writes v2).Data).length : Int)) →
 inI (v2 + 1) ∧
 rec2 (v2 + 1))) ∧
 (¬ (v2 < (x0.Writes.length : Int)) →
 Φ true)
def ref15_Few_L1 (x0 : api_History) (Φ : Bool → Prop) : (Int) → ((Int) → Prop) → Prop
 | v1, rec1 =>
 (v1 < (x0.Sizes.length : Int) →
 inX v1 x0.Sizes.length ∧
 (24 < (ix x0.Sizes v1) →
 Φ false) ∧
 (¬ (24 < (ix x0.Sizes v1)) →
 inI (v1 + 1) ∧
 rec1 (v1 + 1))) ∧
 (¬ (v1 < (x0.Sizes.length : Int)) →
 LoopW (ref15_Few_L2 x0 Φ) 0)
def ref15_Few_W (x0 : api_History) (Φ : Bool → Prop) : Prop :=
 (9 < (x0.Sizes.length : Int) →
 Φ false) ∧
 (¬ (9 < (x0.Sizes.length : Int)) →
 (40 < (x0.Writes.length : Int) →
 Φ false) ∧
 (¬ (40 < (x0.Writes.length : Int)) →
 (90 < (x0.Events.length : Int) →
 Φ false) ∧
 (¬ (90 < (x0.Events.length : Int)) →
 LoopW (ref15_Few_L1 x0 Φ) 0)))
def Z0 (x0 : Int) (Φ : Bool → Prop) : Prop :=
 (x0 < 1 →
 Φ true) ∧
 (¬ (x0 < 1) →
 Φ (decide (4096 < x0)))
def Z1 (x0 : List Int) (Φ : Int → Prop) : (Int) → ((Int) → Prop) → Prop
 | v1, rec1 =>
 (v1 < (x0.length : Int) →
 inX v1 x0.length ∧
 Z0 (ix x0 v1) fun v2 =>
 (v2 = true →
 (0 ≤ v1 →
 Φ 2) ∧
 (¬ (0 ≤ v1) →
 Φ 0)) ∧
 (¬ (v2 = true) →
 inI (v1 + 1) ∧
 rec1 (v1 + 1))) ∧
 (¬ (v1 < (x0.length : Int)) →
 (0 ≤ ((-1) : Int) →
 Φ 2) ∧
 (¬ (0 ≤ ((-1) : Int)) →
 Φ 0))
def Z2 (x0 : List Int) (Φ : Int → Prop) : Prop :=
 ((x0.length : Int) < 1 →
 Φ 6) ∧
 (¬ ((x0.length : Int) < 1) →
 (8 < (x0.length : Int) →
 Φ 6) ∧
 (¬ (8 < (x0.length : Int)) →
 LoopW (Z1 x0 Φ) 0))
def image_New_1_W (x0 : Int) (Φ : List Sec → Prop) : Prop :=
 0 ≤ x0 ∧
 lenOk x0.toNat 8 ∧
 Φ (List.replicate x0.toNat (sec0 : Sec))
def image_New_L1 (x0 : List Int) (Φ : List (List Sec) × Int → Prop) : (Int × List (List Sec)) → ((Int × List (List Sec)) → Prop) → Prop
 | (v2, v3), rec1 =>
 (v2 < (x0.length : Int) →
 inX v2 x0.length ∧
 image_New_1_W (ix x0 v2) fun v4 =>
 lenOk (v3 ++ ([v4] : List (List Sec))).length 24 ∧
 inI (v2 + 1) ∧
 rec1 ((v2 + 1), (v3 ++ ([v4] : List (List Sec))))) ∧
 (¬ (v2 < (x0.length : Int)) →
 Φ (v3, 0))
def image_New_W (x0 : List Int) (Φ : List (List Sec) × Int → Prop) : Prop :=
 Z2 x0 fun v1 =>
 (v1 ≠ 0 →
 Φ (([] : List (List Sec)), v1)) ∧
 (¬ (v1 ≠ 0) →
 0 ≤ (x0.length : Int) ∧
 lenOk (x0.length : Int).toNat 24 ∧
 LoopW (image_New_L1 x0 Φ) (0, ([] : List (List Sec))))
def Z3 (x0 : List Sec) (Φ : Int → Prop) : Prop :=
 Φ (x0.length : Int)
def Z4 (x0 : List (List Sec)) (Φ : List Int → Prop) : (Int × List Int) → ((Int × List Int) → Prop) → Prop
 | (v1, v2), rec1 =>
 (v1 < (x0.length : Int) →
 inX v1 x0.length ∧
 Z3 (ix x0 v1) fun v3 =>
 lenOk (v2 ++ ([v3] : List Int)).length 8 ∧
 inI (v1 + 1) ∧
 rec1 ((v1 + 1), (v2 ++ ([v3] : List Int)))) ∧
 (¬ (v1 < (x0.length : Int)) →
 Φ v2)
def image_sizes_W (x0 : List (List Sec)) (Φ : List Int → Prop) : Prop :=
 0 ≤ (x0.length : Int) ∧
 lenOk (x0.length : Int).toNat 8 ∧
 LoopW (Z4 x0 Φ) (0, ([] : List Int))
def image_Check_W (x0 : List (List Sec)) (Φ : Int → Prop) : Prop :=
 image_sizes_W x0 fun v1 =>
 Z2 v1 fun v2 =>
 Φ v2
def image_fits_J1 (x0 : List (List Sec)) (x1 : api_Write) (Φ : Int → Prop) : Bool → Prop
 | v1 =>
 (v1 = true →
 Φ 7) ∧
 (¬ (v1 = true) →
 ((x1.Data.length : Int) = 0 →
 Φ 1) ∧
 (¬ ((x1.Data.length : Int) = 0) →
 (x1.Start < 0 →
 Φ 2) ∧
 (¬ (x1.Start < 0) →
 inX x1.Volume x0.length ∧
 inI (((ix x0 x1.Volume).length : Int) - (x1.Data.length : Int)) ∧
 ((((ix x0 x1.Volume).length : Int) - (x1.Data.length : Int)) < x1.Start →
 Φ 2) ∧
 (¬ ((((ix x0 x1.Volume).length : Int) - (x1.Data.length : Int)) < x1.Start) →
 Φ 0))))
def image_fits_W (x0 : List (List Sec)) (x1 : api_Write) (Φ : Int → Prop) : Prop :=
 Join (image_fits_J1 x0 x1 Φ) fun J1 =>
 (x1.Volume < 0 →
 J1 true) ∧
 (¬ (x1.Volume < 0) →
 J1 (decide ((x0.length : Int) ≤ x1.Volume)))
def image_Fits_W (x0 : List (List Sec)) (x1 : api_Write) (Φ : Int → Prop) : Prop :=
 image_Check_W x0 fun v1 =>
 (v1 ≠ 0 →
 Φ v1) ∧
 (¬ (v1 ≠ 0) →
 image_fits_W x0 x1 fun v2 =>
 Φ v2)
def Z5 (v4 : Int) (rec2 : (Int × List Int × List Int) → Prop) (Φ : history_checked × Int → Prop) : Int × List Int × List Int → Prop
 | (v7, v8, v9) =>
 (v7 ≠ 0 →
 Φ ((history_checked.mk (api_History.mk ([] : List Int) ([] : List api_Write) ([] : List api_HistoryEvent)) (history_timeline.mk ([] : List Int) ([] : List Int))), v7)) ∧
 (¬ (v7 ≠ 0) →
 inI (v4 + 1) ∧
 rec2 ((v4 + 1), v8, v9))
def Z6 (x0 : api_History) (Φ : history_checked × Int → Prop) : (Int × List Int × List Int) → ((Int × List Int × List Int) → Prop) → Prop
 | (v4, v5, v6), rec2 =>
 (v4 < (x0.Events.length : Int) →
 inX v4 x0.Events.length ∧
 Join (Z5 v4 rec2 Φ) fun J3 =>
 (((ix x0.Events v4).Kind) = 0 →
 (((ix x0.Events v4).Write) ≠ (v5.length : Int) →
 J3 (3, v5, v6)) ∧
 (¬ (((ix x0.Events v4).Write) ≠ (v5.length : Int)) →
 ((x0.Writes.length : Int) ≤ ((ix x0.Events v4).Write) →
 J3 (3, v5, v6)) ∧
 (¬ ((x0.Writes.length : Int) ≤ ((ix x0.Events v4).Write)) →
 lenOk (v5 ++ ([v4] : List Int)).length 8 ∧
 lenOk (v6 ++ ([(-1)] : List Int)).length 8 ∧
 J3 (0, (v5 ++ ([v4] : List Int)), (v6 ++ ([(-1)] : List Int)))))) ∧
 (¬ (((ix x0.Events v4).Kind) = 0) →
 (((ix x0.Events v4).Kind) = 1 →
 (((ix x0.Events v4).Write) < 0 →
 J3 (7, v5, v6)) ∧
 (¬ (((ix x0.Events v4).Write) < 0) →
 ((v5.length : Int) ≤ ((ix x0.Events v4).Write) →
 J3 (7, v5, v6)) ∧
 (¬ ((v5.length : Int) ≤ ((ix x0.Events v4).Write)) →
 inX ((ix x0.Events v4).Write) v6.length ∧
 (0 ≤ (ix v6 ((ix x0.Events v4).Write)) →
 J3 (8, v5, v6)) ∧
 (¬ (0 ≤ (ix v6 ((ix x0.Events v4).Write))) →
 inX ((ix x0.Events v4).Write) v6.length ∧
 J3 (0, v5, (put v6 ((ix x0.Events v4).Write) v4)))))) ∧
 (¬ (((ix x0.Events v4).Kind) = 1) →
 J3 (3, v5, v6)))) ∧
 (¬ (v4 < (x0.Events.length : Int)) →
 ((v5.length : Int) < (x0.Writes.length : Int) →
 Φ ((history_checked.mk (api_History.mk ([] : List Int) ([] : List api_Write) ([] : List api_HistoryEvent)) (history_timeline.mk ([] : List Int) ([] : List Int))), 3)) ∧
 (¬ ((v5.length : Int) < (x0.Writes.length : Int)) →
 Φ ((history_checked.mk x0 (history_timeline.mk v5 v6)), 0)))
def Z7 (x0 : api_History) (v1 : List (List Sec) × Int) (Φ : history_checked × Int → Prop) : (Int) → ((Int) → Prop) → Prop
 | v2, rec1 =>
 (v2 < (x0.Writes.length : Int) →
 inX v2 x0.Writes.length ∧
 image_Fits_W v1.1 (ix x0.Writes v2) fun v3 =>
 (v3 ≠ 0 →
 Φ ((history_checked.mk (api_History.mk ([] : List Int) ([] : List api_Write) ([] : List api_HistoryEvent)) (history_timeline.mk ([] : List Int) ([] : List Int))), v3)) ∧
 (¬ (v3 ≠ 0) →
 inI (v2 + 1) ∧
 rec1 (v2 + 1))) ∧
 (¬ (v2 < (x0.Writes.length : Int)) →
 LoopW (Z6 x0 Φ) (0, ([] : List Int), ([] : List Int)))
def Z8 (x0 : api_History) (Φ : history_checked × Int → Prop) : Prop :=
 image_New_W x0.Sizes fun v1 =>
 (v1.2 ≠ 0 →
 Φ ((history_checked.mk (api_History.mk ([] : List Int) ([] : List api_Write) ([] : List api_HistoryEvent)) (history_timeline.mk ([] : List Int) ([] : List Int))), v1.2)) ∧
 (¬ (v1.2 ≠ 0) →
 (4096 < (x0.Writes.length : Int) →
 Φ ((history_checked.mk (api_History.mk ([] : List Int) ([] : List api_Write) ([] : List api_HistoryEvent)) (history_timeline.mk ([] : List Int) ([] : List Int))), 6)) ∧
 (¬ (4096 < (x0.Writes.length : Int)) →
 LoopW (Z7 x0 v1 Φ) 0))
def Z9 (x0 : api_History) (Φ : Int → Prop) : Prop :=
 Z8 x0 fun v1 =>
 Φ v1.2
def Z10 (x0 : BitVec 64) (x1 : BitVec 64) (Φ : BitVec 64 × BitVec 64 → Prop) : Prop :=
 Φ (((((x0 >>> ((32#64).toNat : Int).toNat) * (x1 >>> ((32#64).toNat : Int).toNat)) + ((((x0 >>> ((32#64).toNat : Int).toNat) * (x1 &&& (4294967295#64))) + (((x0 &&& (4294967295#64)) * (x1 &&& (4294967295#64))) >>> ((32#64).toNat : Int).toNat)) >>> ((32#64).toNat : Int).toNat)) + ((((((x0 >>> ((32#64).toNat : Int).toNat) * (x1 &&& (4294967295#64))) + (((x0 &&& (4294967295#64)) * (x1 &&& (4294967295#64))) >>> ((32#64).toNat : Int).toNat)) &&& (4294967295#64)) + ((x0 &&& (4294967295#64)) * (x1 >>> ((32#64).toNat : Int).toNat))) >>> ((32#64).toNat : Int).toNat)), (x0 * x1))
def Z11 (x0 : BitVec 64) (x1 : BitVec 64) (Φ : BitVec 64 × BitVec 64 → Prop) : Prop :=
 Z10 x0 x1 fun v1 =>
 Φ (v1.1, v1.2)
def Z12 (Φ : List Int → Prop) : (Int × List Int) → ((Int × List Int) → Prop) → Prop
 | (v3, v4), rec2 =>
 (v3 < (v4.length : Int) →
 inS v3 (v4.length : Int) v4.length ∧
 inS 0 v3 v4.length ∧
 inI (v3 + ((min (sub v4 0 v3).length (v4.length - (v3 : Int).toNat) : Nat) : Int)) ∧
 rec2 ((v3 + ((min (sub v4 0 v3).length (v4.length - (v3 : Int).toNat) : Nat) : Int)), (paste v4 v3 (sub v4 0 v3)))) ∧
 (¬ (v3 < (v4.length : Int)) →
 Φ v4)
def Z13 (x0 : List Int) (v1 : BitVec 64 × BitVec 64) (Φ : List Int → Prop) : Bool → Prop
 | v2 =>
 (v2 = true →
 False) ∧
 (¬ (v2 = true) →
 0 ≤ v1.2.toInt ∧
 lenOk v1.2.toInt.toNat 8 ∧
 LoopW (Z12 Φ) (((min x0.length ((List.replicate v1.2.toInt.toNat (0 : Int)).length - (0 : Int).toNat) : Nat) : Int), (paste (List.replicate v1.2.toInt.toNat (0 : Int)) 0 x0)))
def Z14 (x0 : List Int) (x1 : Int) (Φ : List Int → Prop) : Prop :=
 (x1 < 0 →
 False) ∧
 (¬ (x1 < 0) →
 Z11 (BitVec.ofInt 64 (x0.length : Int)) (BitVec.ofInt 64 x1) fun v1 =>
 Join (Z13 x0 v1 Φ) fun J1 =>
 ((0#64) < v1.1 →
 J1 true) ∧
 (¬ ((0#64) < v1.1) →
 J1 (decide ((9223372036854775807#64) < v1.2))))
def Z15 (x1 : List Int) (v1 : Int) (v2 : List Bool) (rec1 : (Int × List Bool) → Prop) (Φ : List Bool × Bool → Prop) : Bool → Prop
 | v3 =>
 (v3 = true →
 Φ (([] : List Bool), false)) ∧
 (¬ (v3 = true) →
 inX (ix x1 v1) v2.length ∧
 inI (v1 + 1) ∧
 rec1 ((v1 + 1), (put v2 (ix x1 v1) true)))
def Z16 (x0 : Ptr cut_relation) (x1 : List Int) (Φ : List Bool × Bool → Prop) : (Int × List Bool) → ((Int × List Bool) → Prop) → Prop
 | (v1, v2), rec1 =>
 (v1 < (x1.length : Int) →
 inX v1 x1.length ∧
 Join (Z15 x1 v1 v2 rec1 Φ) fun J2 =>
 ((ix x1 v1) < 0 →
 J2 true) ∧
 (¬ ((ix x1 v1) < 0) →
 (x0.val.n ≤ (ix x1 v1) →
 J2 true) ∧
 (¬ (x0.val.n ≤ (ix x1 v1)) →
 (0 < v1 →
 inI (v1 - 1) ∧
 inX (v1 - 1) x1.length ∧
 J2 (decide ((ix x1 v1) ≤ (ix x1 (v1 - 1))))) ∧
 (¬ (0 < v1) →
 J2 false)))) ∧
 (¬ (v1 < (x1.length : Int)) →
 Φ (v2, true))
def Z17 (x0 : Ptr cut_relation) (x1 : List Int) (Φ : List Bool × Bool → Prop) : Prop :=
 0 ≤ x0.val.n ∧
 lenOk x0.val.n.toNat 1 ∧
 LoopW (Z16 x0 x1 Φ) (0, (List.replicate x0.val.n.toNat (false : Bool)))
def Z18 (x0 : Ptr cut_relation) (x1 : Int) (x2 : Int) (Φ : Bool → Prop) : Prop :=
 inX x1 x0.val.acked.length ∧
 inX x2 x0.val.issued.length ∧
 Φ (decide ((ix x0.val.acked x1) < (ix x0.val.issued x2)))
def Z19 (x0 : Ptr cut_relation) (x1 : List Bool) (x2 : Int) (Φ : Bool → Prop) : (Int) → ((Int) → Prop) → Prop
 | v1, rec1 =>
 (v1 < x0.val.n →
 Z18 x0 v1 x2 fun v2 =>
 (v2 = true →
 inX v1 x1.length ∧
 (¬ ((ix x1 v1) = true) →
 Φ false) ∧
 (¬ (¬ ((ix x1 v1) = true)) →
 inI (v1 + 1) ∧
 rec1 (v1 + 1))) ∧
 (¬ (v2 = true) →
 inI (v1 + 1) ∧
 rec1 (v1 + 1))) ∧
 (¬ (v1 < x0.val.n) →
 Φ true)
def Z20 (x0 : Ptr cut_relation) (x1 : List Bool) (x2 : Int) (Φ : Bool → Prop) : Prop :=
 LoopW (Z19 x0 x1 x2 Φ) 0
def Z21 (x0 : List Int) (Φ : List Int → Prop) : Prop :=
 (x0 = [] →
 Φ ([] : List Int)) ∧
 (
 lenOk (([] : List Int) ++ x0).length 8 ∧
 Φ (([] : List Int) ++ x0))
def Z22 (xs : List (Int)) (Φ : List (Int) → Prop) : Prop := xs.length ≤ 1099511627776 ∧ Φ (sortI xs)
def digS (n : Int) : List UInt8 := if n < 10 then [UInt8.ofNat (48 + n.toNat), 32] else [UInt8.ofNat (48 + n.toNat / 10), UInt8.ofNat (48 + n.toNat % 10), 32]
def textS (l : List Int) : ByteArray := ⟨(l.flatMap digS).toArray⟩
def smallB (l : List Int) : Bool := Nat.ble l.length 4096 && l.all fun n => decide (0 ≤ n) && decide (n < 100)
def cut_text_W (x0 : List Int) (Φ : ByteArray → Prop) : Prop :=
 smallB x0 = true ∧ Φ (textS x0)
def Z23 (xs : List (List Int)) (Φ : List (List Int) → Prop) : Prop := xs.length ≤ 1099511627776 ∧ Φ (sortL xs)
def Z24 (x2 : Int) (v5 : Int) (rec2 : (Int × (List (ByteArray × Bool)) × List (List Int)) → Prop) (Φ : List (List Int) × Bool → Prop) : (List (ByteArray × Bool)) × List (List Int) → Prop
 | (v11, v12) =>
 (x2 < (v12.length : Int) →
 Φ (([] : List (List Int)), false)) ∧
 (¬ (x2 < (v12.length : Int)) →
 inI (v5 + 1) ∧
 rec2 ((v5 + 1), v11, v12))
def Z25 (x1 : List (List Int)) (x2 : Int) (v1 : Int) (v5 : Int) (v6 : List (ByteArray × Bool)) (v7 : List (List Int)) (rec2 : (Int × (List (ByteArray × Bool)) × List (List Int)) → Prop) (Φ : List (List Int) × Bool → Prop) : Bool → Prop
 | v8 =>
 (v8 = true →
 inI (v5 + 1) ∧
 rec2 ((v5 + 1), v6, v7)) ∧
 (¬ (v8 = true) →
 Z21 (ix x1 v1) fun v9 =>
 lenOk (v9 ++ ([v5] : List Int)).length 8 ∧
 Z22 (v9 ++ ([v5] : List Int)) fun v10 =>
 Join (Z24 x2 v5 rec2 Φ) fun J4 =>
 cut_text_W v10 fun v13 =>
 (¬ ((mget v6 v13 false) = true) →
 lenOk (v7 ++ ([v10] : List (List Int))).length 24 ∧
 J4 ((mput v6 v13 true), (v7 ++ ([v10] : List (List Int))))) ∧
 (¬ (¬ ((mget v6 v13 false) = true)) →
 J4 (v6, v7)))
def Z26 (x0 : Ptr cut_relation) (x1 : List (List Int)) (x2 : Int) (v1 : Int) (rec1 : (Int × (List (ByteArray × Bool)) × List (List Int)) → Prop) (v4 : List Bool × Bool) (Φ : List (List Int) × Bool → Prop) : (Int × (List (ByteArray × Bool)) × List (List Int)) → ((Int × (List (ByteArray × Bool)) × List (List Int)) → Prop) → Prop
 | (v5, v6, v7), rec2 =>
 (v5 < x0.val.n →
 Join (Z25 x1 x2 v1 v5 v6 v7 rec2 Φ) fun J3 =>
 inX v5 v4.1.length ∧
 ((ix v4.1 v5) = true →
 J3 true) ∧
 (¬ ((ix v4.1 v5) = true) →
 Z20 x0 v4.1 v5 fun v14 =>
 J3 (decide (¬ (v14 = true))))) ∧
 (¬ (v5 < x0.val.n) →
 inI (v1 + 1) ∧
 rec1 ((v1 + 1), v6, v7))
def Z27 (x0 : Ptr cut_relation) (x1 : List (List Int)) (x2 : Int) (Φ : List (List Int) × Bool → Prop) : (Int × (List (ByteArray × Bool)) × List (List Int)) → ((Int × (List (ByteArray × Bool)) × List (List Int)) → Prop) → Prop
 | (v1, v2, v3), rec1 =>
 (v1 < (x1.length : Int) →
 inX v1 x1.length ∧
 Z17 x0 (ix x1 v1) fun v4 =>
 LoopW (Z26 x0 x1 x2 v1 rec1 v4 Φ) (0, v2, v3)) ∧
 (¬ (v1 < (x1.length : Int)) →
 Z23 v3 fun v15 =>
 Φ (v15, true))
def Z28 (x0 : Ptr cut_relation) (x1 : List (List Int)) (x2 : Int) (Φ : List (List Int) × Bool → Prop) : Prop :=
 LoopW (Z27 x0 x1 x2 Φ) (0, ([] : List (ByteArray × Bool)), ([] : List (List Int)))
def cut_All_L2 (x1 : Int) (Φ : List (List Int) × Int → Prop) : (Unit) → ((Unit) → Prop) → Prop
 | _, _ =>
 (0 < (([([] : List Int)] : List (List Int)).length : Int) →
 inI (0 + (([([] : List Int)] : List (List Int)).length : Int)) ∧
 (x1 < (0 + (([([] : List Int)] : List (List Int)).length : Int)) →
 Φ (([] : List (List Int)), 6)) ∧
 (¬ (x1 < (0 + (([([] : List Int)] : List (List Int)).length : Int))) →
 lenOk ([([] : List Int)] : List (List Int)).length 24 ∧
 inI (x1 - (([([] : List Int)] : List (List Int)).length : Int)) ∧
 False)) ∧
 (¬ (0 < (([([] : List Int)] : List (List Int)).length : Int)) →
 Φ (([] : List (List Int)), 0))
def cut_All_J1 (x1 : Int) (Φ : List (List Int) × Int → Prop) : Bool → Prop
 | v2 =>
 (v2 = true →
 Φ (([] : List (List Int)), 2)) ∧
 (¬ (v2 = true) →
 LoopW (cut_All_L2 x1 Φ) ())
def cut_All_L5 (x0 : api_History) (x1 : Int) (v6 : List Int) (v7 : List Int) (Φ : List (List Int) × Int → Prop) : (List (List Int) × List (List Int)) → ((List (List Int) × List (List Int)) → Prop) → Prop
 | (v9, v10), rec5 =>
 (0 < (v10.length : Int) →
 inI ((v9.length : Int) + (v10.length : Int)) ∧
 (x1 < ((v9.length : Int) + (v10.length : Int)) →
 Φ (([] : List (List Int)), 6)) ∧
 (¬ (x1 < ((v9.length : Int) + (v10.length : Int))) →
 lenOk (v9 ++ v10).length 24 ∧
 inI (x1 - ((v9 ++ v10).length : Int)) ∧
 Z28 (Ptr.mk (cut_relation.mk (x0.Writes.length : Int) (x0.Events.length : Int) v6 v7)) v10 (x1 - ((v9 ++ v10).length : Int)) fun v11 =>
 (¬ (v11.2 = true) →
 Φ (([] : List (List Int)), 6)) ∧
 (¬ (¬ (v11.2 = true)) →
 rec5 ((v9 ++ v10), v11.1)))) ∧
 (¬ (0 < (v10.length : Int)) →
 Φ (v9, 0))
def cut_All_J4 (x0 : api_History) (x1 : Int) (v6 : List Int) (v7 : List Int) (Φ : List (List Int) × Int → Prop) : Bool → Prop
 | v8 =>
 (v8 = true →
 Φ (([] : List (List Int)), 2)) ∧
 (¬ (v8 = true) →
 LoopW (cut_All_L5 x0 x1 v6 v7 Φ) (([] : List (List Int)), ([([] : List Int)] : List (List Int))))
def cut_All_L3 (x0 : api_History) (x1 : Int) (Φ : List (List Int) × Int → Prop) : (Int × List Int × List Int) → ((Int × List Int × List Int) → Prop) → Prop
 | (v5, v6, v7), rec3 =>
 (v5 < (x0.Events.length : Int) →
 inX v5 x0.Events.length ∧
 (((ix x0.Events v5).Kind) = 0 →
 inX ((ix x0.Events v5).Write) v6.length ∧
 inI (v5 + 1) ∧
 rec3 ((v5 + 1), (put v6 ((ix x0.Events v5).Write) v5), v7)) ∧
 (¬ (((ix x0.Events v5).Kind) = 0) →
 inX ((ix x0.Events v5).Write) v7.length ∧
 inI (v5 + 1) ∧
 rec3 ((v5 + 1), v6, (put v7 ((ix x0.Events v5).Write) v5)))) ∧
 (¬ (v5 < (x0.Events.length : Int)) →
 ((0 : Int) ≠ 0 →
 Φ (([] : List (List Int)), 0)) ∧
 (¬ ((0 : Int) ≠ 0) →
 Join (cut_All_J4 x0 x1 v6 v7 Φ) fun J4 =>
 (x1 < 0 →
 J4 true) ∧
 (¬ (x1 < 0) →
 J4 (decide (4096 < x1)))))
def cut_All_W (x0 : api_History) (x1 : Int) (Φ : List (List Int) × Int → Prop) : Prop :=
 Z9 x0 fun v1 =>
 (v1 ≠ 0 →
 (v1 ≠ 0 →
 Φ (([] : List (List Int)), v1)) ∧
 (¬ (v1 ≠ 0) →
 Join (cut_All_J1 x1 Φ) fun J1 =>
 (x1 < 0 →
 J1 true) ∧
 (¬ (x1 < 0) →
 J1 (decide (4096 < x1))))) ∧
 (¬ (v1 ≠ 0) →
 ∃ v3 : List Int × Unit, Z14 ([(x0.Events.length : Int)] : List Int) (x0.Writes.length : Int) (fun z => (z, ()) = v3) ∧
 ∃ v4 : List Int × Unit, Z14 ([(x0.Events.length : Int)] : List Int) (x0.Writes.length : Int) (fun z => (z, ()) = v4) ∧
 LoopW (cut_All_L3 x0 x1 Φ) (0, v3.1, v4.1))
def Z29 (x0 : List Bool) (Φ : List Bool → Prop) : Prop :=
 (x0 = [] →
 Φ ([] : List Bool)) ∧
 (
 lenOk (([] : List Bool) ++ x0).length 1 ∧
 Φ (([] : List Bool) ++ x0))
def Z30 (x0 : List Bool) : (List (Int × Unit) × Int) → ((List (Int × Unit) × Int) → Prop) → Prop
 | (l1, v1), rec1 =>
 (v1 < (x0.length : Int) →
 inX v1 x0.length ∧
 ((ix x0 v1) = true →
 Yl l1 fun v2 r3 => (v1, ()) = v2 ∧ (
 inI (v1 + 1) ∧
 rec1 (r3, (v1 + 1))) ∧ (
 True)) ∧
 (¬ ((ix x0 v1) = true) →
 inI (v1 + 1) ∧
 rec1 (l1, (v1 + 1)))) ∧
 (¬ (v1 < (x0.length : Int)) →
 l1 = [])
def cut_marks_members_1_I (x0 : List Bool) (l : List (Int × Unit)) : Prop :=
 LoopW (Z30 x0) (l, 0)
def Z31 (Φ : List Int → Prop) : (List (Int × Unit) × List Int) → ((List (Int × Unit) × List Int) → Prop) → Prop
 | (lst, v1), rec1 =>
 match lst with
 | [] =>
 Φ v1
 | v2 :: r3 =>
 lenOk (v1 ++ ([v2.1] : List Int)).length 8 ∧
 rec1 (r3, (v1 ++ ([v2.1] : List Int)))
def Z32 (x0 : List Bool) (Φ : List Int → Prop) : Prop :=
 ∃ l4 : List (Int × Unit), cut_marks_members_1_I x0 l4 ∧
 LoopW (Z31 Φ) (l4, ([] : List Int))
def cut_Least_L1 (x1 : List Int) (Φ : List Int × Int → Prop) : (Unit) → ((Unit) → Prop) → Prop
 | _, _ =>
 (0 < (([x1] : List (List Int)).length : Int) →
 inX 0 ([x1] : List (List Int)).length ∧
 False) ∧
 (¬ (0 < (([x1] : List (List Int)).length : Int)) →
 ((0 : Int) ≠ 0 →
 Φ (([] : List Int), 0)) ∧
 (¬ ((0 : Int) ≠ 0) →
 False))
def cut_Least_L5 (x0 : api_History) (v5 : List Int) (v6 : List Int) (rec4 : (List (Int × Unit) × List Bool) → Prop) (v12 : Int × Unit) (r13 : List (Int × Unit)) (_ : List Int × Int → Prop) : (Int × List Bool) → ((Int × List Bool) → Prop) → Prop
 | (v14, v15), rec5 =>
 (v14 < (x0.Writes.length : Int) →
 inX v14 v15.length ∧
 ((ix v15 v14) = true →
 inX v14 v15.length ∧
 inI (v14 + 1) ∧
 rec5 ((v14 + 1), (put v15 v14 true))) ∧
 (¬ ((ix v15 v14) = true) →
 ∃ v16 : Bool × Unit, Z18 (Ptr.mk (cut_relation.mk (x0.Writes.length : Int) (x0.Events.length : Int) v5 v6)) v14 v12.1 (fun z => (z, ()) = v16) ∧
 inX v14 v15.length ∧
 inI (v14 + 1) ∧
 rec5 ((v14 + 1), (put v15 v14 v16.1)))) ∧
 (¬ (v14 < (x0.Writes.length : Int)) →
 rec4 (r13, v15))
def cut_Least_L4 (x0 : api_History) (v5 : List Int) (v6 : List Int) (Φ : List Int × Int → Prop) : (List (Int × Unit) × List Bool) → ((List (Int × Unit) × List Bool) → Prop) → Prop
 | (lst, v11), rec4 =>
 match lst with
 | [] =>
 Z32 v11 fun v17 =>
 Φ (v17, 0)
 | v12 :: r13 =>
 LoopW (cut_Least_L5 x0 v5 v6 rec4 v12 r13 Φ) (0, v11)
def cut_Least_L3 (x0 : api_History) (x1 : List Int) (v5 : List Int) (v6 : List Int) (Φ : List Int × Int → Prop) : (Int × List (List Bool)) → ((Int × List (List Bool)) → Prop) → Prop
 | (v7, v8), rec3 =>
 (v7 < (([x1] : List (List Int)).length : Int) →
 inX v7 ([x1] : List (List Int)).length ∧
 Z17 (Ptr.mk (cut_relation.mk (x0.Writes.length : Int) (x0.Events.length : Int) v5 v6)) (ix ([x1] : List (List Int)) v7) fun v9 =>
 (¬ (v9.2 = true) →
 ((2 : Int) ≠ 0 →
 Φ (([] : List Int), 2)) ∧
 (¬ ((2 : Int) ≠ 0) →
 False)) ∧
 (¬ (¬ (v9.2 = true)) →
 lenOk (v8 ++ ([v9.1] : List (List Bool))).length 24 ∧
 inI (v7 + 1) ∧
 rec3 ((v7 + 1), (v8 ++ ([v9.1] : List (List Bool)))))) ∧
 (¬ (v7 < (([x1] : List (List Int)).length : Int)) →
 ((0 : Int) ≠ 0 →
 Φ (([] : List Int), 0)) ∧
 (¬ ((0 : Int) ≠ 0) →
 inX 0 v8.length ∧
 Z29 (ix v8 0) fun v10 =>
 inX 0 v8.length ∧
 ∃ l18 : List (Int × Unit), cut_marks_members_1_I (ix v8 0) l18 ∧
 LoopW (cut_Least_L4 x0 v5 v6 Φ) (l18, v10)))
def cut_Least_L2 (x0 : api_History) (x1 : List Int) (Φ : List Int × Int → Prop) : (Int × List Int × List Int) → ((Int × List Int × List Int) → Prop) → Prop
 | (v4, v5, v6), rec2 =>
 (v4 < (x0.Events.length : Int) →
 inX v4 x0.Events.length ∧
 (((ix x0.Events v4).Kind) = 0 →
 inX ((ix x0.Events v4).Write) v5.length ∧
 inI (v4 + 1) ∧
 rec2 ((v4 + 1), (put v5 ((ix x0.Events v4).Write) v4), v6)) ∧
 (¬ (((ix x0.Events v4).Kind) = 0) →
 inX ((ix x0.Events v4).Write) v6.length ∧
 inI (v4 + 1) ∧
 rec2 ((v4 + 1), v5, (put v6 ((ix x0.Events v4).Write) v4)))) ∧
 (¬ (v4 < (x0.Events.length : Int)) →
 ((0 : Int) ≠ 0 →
 ((0 : Int) ≠ 0 →
 Φ (([] : List Int), 0)) ∧
 (¬ ((0 : Int) ≠ 0) →
 False)) ∧
 (¬ ((0 : Int) ≠ 0) →
 LoopW (cut_Least_L3 x0 x1 v5 v6 Φ) (0, ([] : List (List Bool)))))
def cut_Least_W (x0 : api_History) (x1 : List Int) (Φ : List Int × Int → Prop) : Prop :=
 Z9 x0 fun v1 =>
 (v1 ≠ 0 →
 (v1 ≠ 0 →
 (v1 ≠ 0 →
 Φ (([] : List Int), v1)) ∧
 (¬ (v1 ≠ 0) →
 False)) ∧
 (¬ (v1 ≠ 0) →
 LoopW (cut_Least_L1 x1 Φ) ())) ∧
 (¬ (v1 ≠ 0) →
 ∃ v2 : List Int × Unit, Z14 ([(x0.Events.length : Int)] : List Int) (x0.Writes.length : Int) (fun z => (z, ()) = v2) ∧
 ∃ v3 : List Int × Unit, Z14 ([(x0.Events.length : Int)] : List Int) (x0.Writes.length : Int) (fun z => (z, ()) = v3) ∧
 LoopW (cut_Least_L2 x0 x1 Φ) (0, v2.1, v3.1))
def Z33 (x1 : List Int) (Φ : List Int × Int → Prop) : (Unit) → ((Unit) → Prop) → Prop
 | _, _ =>
 (0 < (([x1] : List (List Int)).length : Int) →
 inX 0 ([x1] : List (List Int)).length ∧
 False) ∧
 (¬ (0 < (([x1] : List (List Int)).length : Int)) →
 ((0 : Int) ≠ 0 →
 Φ (([] : List Int), 0)) ∧
 (¬ ((0 : Int) ≠ 0) →
 False))
def Z34 (x0 : api_History) (v5 : List Int) (v6 : List Int) (v8 : List (List Bool)) (rec4 : (List (Int × Unit) × List Bool) → Prop) (v12 : Int × Unit) (r13 : List (Int × Unit)) (_ : List Int × Int → Prop) : (Int × List Bool) → ((Int × List Bool) → Prop) → Prop
 | (v14, v15), rec5 =>
 (v14 < (x0.Writes.length : Int) →
 inX v12.1 v15.length ∧
 ((ix v15 v12.1) = true →
 inX 0 v8.length ∧
 inX v14 (ix v8 0).length ∧
 ((ix (ix v8 0) v14) = true →
 inX v12.1 v15.length ∧
 inI (v14 + 1) ∧
 rec5 ((v14 + 1), (put v15 v12.1 true))) ∧
 (¬ ((ix (ix v8 0) v14) = true) →
 ∃ v16 : Bool × Unit, Z18 (Ptr.mk (cut_relation.mk (x0.Writes.length : Int) (x0.Events.length : Int) v5 v6)) v14 v12.1 (fun z => (z, ()) = v16) ∧
 inX v12.1 v15.length ∧
 inI (v14 + 1) ∧
 rec5 ((v14 + 1), (put v15 v12.1 (decide (¬ (v16.1 = true))))))) ∧
 (¬ ((ix v15 v12.1) = true) →
 inX v12.1 v15.length ∧
 inI (v14 + 1) ∧
 rec5 ((v14 + 1), (put v15 v12.1 false)))) ∧
 (¬ (v14 < (x0.Writes.length : Int)) →
 rec4 (r13, v15))
def Z35 (x0 : api_History) (v5 : List Int) (v6 : List Int) (v8 : List (List Bool)) (Φ : List Int × Int → Prop) : (List (Int × Unit) × List Bool) → ((List (Int × Unit) × List Bool) → Prop) → Prop
 | (lst, v11), rec4 =>
 match lst with
 | [] =>
 Z32 v11 fun v17 =>
 Φ (v17, 0)
 | v12 :: r13 =>
 LoopW (Z34 x0 v5 v6 v8 rec4 v12 r13 Φ) (0, v11)
def Z36 (x0 : api_History) (x1 : List Int) (v5 : List Int) (v6 : List Int) (Φ : List Int × Int → Prop) : (Int × List (List Bool)) → ((Int × List (List Bool)) → Prop) → Prop
 | (v7, v8), rec3 =>
 (v7 < (([x1] : List (List Int)).length : Int) →
 inX v7 ([x1] : List (List Int)).length ∧
 Z17 (Ptr.mk (cut_relation.mk (x0.Writes.length : Int) (x0.Events.length : Int) v5 v6)) (ix ([x1] : List (List Int)) v7) fun v9 =>
 (¬ (v9.2 = true) →
 ((2 : Int) ≠ 0 →
 Φ (([] : List Int), 2)) ∧
 (¬ ((2 : Int) ≠ 0) →
 False)) ∧
 (¬ (¬ (v9.2 = true)) →
 lenOk (v8 ++ ([v9.1] : List (List Bool))).length 24 ∧
 inI (v7 + 1) ∧
 rec3 ((v7 + 1), (v8 ++ ([v9.1] : List (List Bool)))))) ∧
 (¬ (v7 < (([x1] : List (List Int)).length : Int)) →
 ((0 : Int) ≠ 0 →
 Φ (([] : List Int), 0)) ∧
 (¬ ((0 : Int) ≠ 0) →
 inX 0 v8.length ∧
 Z29 (ix v8 0) fun v10 =>
 inX 0 v8.length ∧
 ∃ l18 : List (Int × Unit), cut_marks_members_1_I (ix v8 0) l18 ∧
 LoopW (Z35 x0 v5 v6 v8 Φ) (l18, v10)))
def Z37 (x0 : api_History) (x1 : List Int) (Φ : List Int × Int → Prop) : (Int × List Int × List Int) → ((Int × List Int × List Int) → Prop) → Prop
 | (v4, v5, v6), rec2 =>
 (v4 < (x0.Events.length : Int) →
 inX v4 x0.Events.length ∧
 (((ix x0.Events v4).Kind) = 0 →
 inX ((ix x0.Events v4).Write) v5.length ∧
 inI (v4 + 1) ∧
 rec2 ((v4 + 1), (put v5 ((ix x0.Events v4).Write) v4), v6)) ∧
 (¬ (((ix x0.Events v4).Kind) = 0) →
 inX ((ix x0.Events v4).Write) v6.length ∧
 inI (v4 + 1) ∧
 rec2 ((v4 + 1), v5, (put v6 ((ix x0.Events v4).Write) v4)))) ∧
 (¬ (v4 < (x0.Events.length : Int)) →
 ((0 : Int) ≠ 0 →
 ((0 : Int) ≠ 0 →
 Φ (([] : List Int), 0)) ∧
 (¬ ((0 : Int) ≠ 0) →
 False)) ∧
 (¬ ((0 : Int) ≠ 0) →
 LoopW (Z36 x0 x1 v5 v6 Φ) (0, ([] : List (List Bool)))))
def Z38 (x0 : api_History) (x1 : List Int) (Φ : List Int × Int → Prop) : Prop :=
 Z9 x0 fun v1 =>
 (v1 ≠ 0 →
 (v1 ≠ 0 →
 (v1 ≠ 0 →
 Φ (([] : List Int), v1)) ∧
 (¬ (v1 ≠ 0) →
 False)) ∧
 (¬ (v1 ≠ 0) →
 LoopW (Z33 x1 Φ) ())) ∧
 (¬ (v1 ≠ 0) →
 ∃ v2 : List Int × Unit, Z14 ([(x0.Events.length : Int)] : List Int) (x0.Writes.length : Int) (fun z => (z, ()) = v2) ∧
 ∃ v3 : List Int × Unit, Z14 ([(x0.Events.length : Int)] : List Int) (x0.Writes.length : Int) (fun z => (z, ()) = v3) ∧
 LoopW (Z37 x0 x1 Φ) (0, v2.1, v3.1))
def Z39 (x0 : List Int) (x1 : List Int) (Φ : Bool → Prop) : (Int) → ((Int) → Prop) → Prop
 | v1, rec1 =>
 (v1 < (x0.length : Int) →
 inX v1 x0.length ∧
 inX v1 x1.length ∧
 ((ix x0 v1) ≠ (ix x1 v1) →
 Φ false) ∧
 (¬ ((ix x0 v1) ≠ (ix x1 v1)) →
 inI (v1 + 1) ∧
 rec1 (v1 + 1))) ∧
 (¬ (v1 < (x0.length : Int)) →
 Φ true)
def Z40 (x0 : List Int) (x1 : List Int) (Φ : Bool → Prop) : Prop :=
 ((x0.length : Int) ≠ (x1.length : Int) →
 Φ false) ∧
 (¬ ((x0.length : Int) ≠ (x1.length : Int)) →
 LoopW (Z39 x0 x1 Φ) 0)
def Z41 (x0 : Int) (Φ : List Int → Prop) : (Int × List Int) → ((Int × List Int) → Prop) → Prop
 | (v1, v2), rec1 =>
 (v1 < x0 →
 lenOk (v2 ++ ([v1] : List Int)).length 8 ∧
 inI (v1 + 1) ∧
 rec1 ((v1 + 1), (v2 ++ ([v1] : List Int)))) ∧
 (¬ (v1 < x0) →
 Φ v2)
def ref15_First_W (x0 : Int) (Φ : List Int → Prop) : Prop :=
 LoopW (Z41 x0 Φ) (0, ([] : List Int))
def Z42 (x0 : List Int) (x1 : Int) (Φ : Int → Prop) : (Int) → ((Int) → Prop) → Prop
 | v1, rec1 =>
 (v1 < (x0.length : Int) →
 inX v1 x0.length ∧
 (x1 = (ix x0 v1) →
 Φ v1) ∧
 (¬ (x1 = (ix x0 v1)) →
 inI (v1 + 1) ∧
 rec1 (v1 + 1))) ∧
 (¬ (v1 < (x0.length : Int)) →
 Φ (-1))
def Z43 (x0 : List Int) (x1 : Int) (Φ : Int → Prop) : Prop :=
 LoopW (Z42 x0 x1 Φ) 0
def Z44 (x0 : List Int) (x1 : Int) (Φ : Bool → Prop) : Prop :=
 Z43 x0 x1 fun v1 =>
 Φ (decide (0 ≤ v1))
def Z45 (x0 : history_checked) (x1 : List Int) (Φ : Bool → Prop) : (Int) → ((Int) → Prop) → Prop
 | v1, rec1 =>
 (v1 < (x1.length : Int) →
 inX v1 x1.length ∧
 ((ix x1 v1) < 0 →
 Φ false) ∧
 (¬ ((ix x1 v1) < 0) →
 ((x0.History.Writes.length : Int) ≤ (ix x1 v1) →
 Φ false) ∧
 (¬ ((x0.History.Writes.length : Int) ≤ (ix x1 v1)) →
 (0 < v1 →
 inI (v1 - 1) ∧
 inX (v1 - 1) x1.length ∧
 ((ix x1 v1) ≤ (ix x1 (v1 - 1)) →
 Φ false) ∧
 (¬ ((ix x1 v1) ≤ (ix x1 (v1 - 1))) →
 inI (v1 + 1) ∧
 rec1 (v1 + 1))) ∧
 (¬ (0 < v1) →
 inI (v1 + 1) ∧
 rec1 (v1 + 1))))) ∧
 (¬ (v1 < (x1.length : Int)) →
 Φ true)
def Z46 (x0 : history_checked) (x1 : List Int) (Φ : Bool → Prop) : Prop :=
 LoopW (Z45 x0 x1 Φ) 0
def Z47 (x0 : List Int) (x1 : history_checked) : (List (Int × api_Write × Unit) × Int) → ((List (Int × api_Write × Unit) × Int) → Prop) → Prop
 | (l1, v1), rec1 =>
 (v1 < (x0.length : Int) →
 inX v1 x0.length ∧
 inX (ix x0 v1) x1.History.Writes.length ∧
 Yl l1 fun v2 r3 => ((ix x0 v1), (ix x1.History.Writes (ix x0 v1)), ()) = v2 ∧ (
 inI (v1 + 1) ∧
 rec1 (r3, (v1 + 1))) ∧ (
 True)) ∧
 (¬ (v1 < (x0.length : Int)) →
 l1 = [])
def history_checked_members_1_I (x0 : List Int) (x1 : history_checked) (l : List (Int × api_Write × Unit)) : Prop :=
 LoopW (Z47 x0 x1) (l, 0)
def ref07_Few_L1 (x0 : List (List Sec)) (Φ : Bool → Prop) : (Int) → ((Int) → Prop) → Prop
 | v1, rec1 =>
 (v1 < (x0.length : Int) →
 inX v1 x0.length ∧
 (24 < ((ix x0 v1).length : Int) →
 Φ false) ∧
 (¬ (24 < ((ix x0 v1).length : Int)) →
 inI (v1 + 1) ∧
 rec1 (v1 + 1))) ∧
 (¬ (v1 < (x0.length : Int)) →
 Φ true)
def ref07_Few_W (x0 : List (List Sec)) (Φ : Bool → Prop) : Prop :=
 (9 < (x0.length : Int) →
 Φ false) ∧
 (¬ (9 < (x0.length : Int)) →
 LoopW (ref07_Few_L1 x0 Φ) 0)
def law18_few_W (x0 : api_History) (x1 : List (List Sec)) (Φ : Bool → Prop) : Prop :=
 ref15_Few_W x0 fun v1 =>
 (v1 = true →
 ref07_Few_W x1 fun v2 =>
 Φ v2) ∧
 (¬ (v1 = true) →
 Φ false)
def Z48 (x0 : List (BitVec 8)) (Φ : List Sec → Prop) : (Int × List Sec) → ((Int × List Sec) → Prop) → Prop
 | (v1, v2), rec1 =>
 (v1 < (x0.length : Int) →
 inX v1 x0.length ∧
 lenOk (v2 ++ ([(Sec.mk (ix x0 v1) (0#8) (0#8) (0#8) (0#8) (0#8) (0#8) (0#8))] : List Sec)).length 8 ∧
 inI (v1 + 1) ∧
 rec1 ((v1 + 1), (v2 ++ ([(Sec.mk (ix x0 v1) (0#8) (0#8) (0#8) (0#8) (0#8) (0#8) (0#8))] : List Sec)))) ∧
 (¬ (v1 < (x0.length : Int)) →
 Φ v2)
def Z49 (x0 : List (BitVec 8)) (Φ : List Sec → Prop) : Prop :=
 LoopW (Z48 x0 Φ) (0, ([] : List Sec))
def Z50 (x0 : Int) (x1 : Int) (Φ : api_HistoryEvent → Prop) : Prop :=
 Φ (api_HistoryEvent.mk x0 x1)
def Z51 (Φ : api_History → Prop) : Prop :=
 Z49 ([1#8] : List (BitVec 8)) fun v1 =>
 Z49 ([2#8] : List (BitVec 8)) fun v2 =>
 Z49 ([3#8, 4#8] : List (BitVec 8)) fun v3 =>
 Z50 0 0 fun v4 =>
 Z50 1 0 fun v5 =>
 Z50 0 1 fun v6 =>
 Z50 1 1 fun v7 =>
 Z50 0 2 fun v8 =>
 Φ (api_History.mk ([3] : List Int) ([(api_Write.mk 0 0 v1), (api_Write.mk 0 1 v2), (api_Write.mk 0 0 v3)] : List api_Write) ([v4, v5, v6, v7, v8] : List api_HistoryEvent))
def law18_of_W (x0 : BitVec 8) (x1 : BitVec 8) (x2 : BitVec 8) (Φ : List (List Sec) → Prop) : Prop :=
 Φ ([([(Sec.mk x0 (0#8) (0#8) (0#8) (0#8) (0#8) (0#8) (0#8)), (Sec.mk x1 (0#8) (0#8) (0#8) (0#8) (0#8) (0#8) (0#8)), (Sec.mk x2 (0#8) (0#8) (0#8) (0#8) (0#8) (0#8) (0#8))] : List Sec)] : List (List Sec))
def Z52 (x0 : List Sec) (x1 : Int) (Φ : Bool → Prop) : Prop :=
 Φ (decide ((x0.length : Int) = x1))
def Z53 (x0 : consistency_place) (x1 : Sec) (Φ : api_Write → Prop) : Prop :=
 Φ (api_Write.mk x0.volume x0.sector ([x1] : List Sec))
def Z54 (x0 : List Sec) (Φ : List Sec → Prop) : Prop :=
 (x0 = [] →
 Φ ([] : List Sec)) ∧
 (
 lenOk (([] : List Sec) ++ x0).length 8 ∧
 Φ (([] : List Sec) ++ x0))
def Z55 (x0 : List (List Sec)) (Φ : List (List Sec) → Prop) : (List (List Sec) × Int) → ((List (List Sec) × Int) → Prop) → Prop
 | (v12, v20), rec1 =>
 (v20 < (x0.length : Int) →
 inX v20 x0.length ∧
 Z54 (ix x0 v20) fun v27 =>
 lenOk (v12 ++ [v27]).length 24 ∧
 inI (v20 + 1) ∧
 rec1 ((v12 ++ [v27]), v20 + 1)) ∧
 (¬ (v20 < (x0.length : Int)) →
 Φ v12)
def Z56 (x0 : List (List Sec)) (Φ : List (List Sec) → Prop) : Prop :=
 0 ≤ (x0.length : Int) ∧
 lenOk (x0.length : Int).toNat 24 ∧
 LoopW (Z55 x0 Φ) (([] : List (List Sec)), 0)
def Z57 (x0 : List (List Sec)) (Φ : List (List Sec) → Prop) : Prop :=
 Z56 x0 fun v2 =>
 Φ v2
def Z58 (x1 : List api_Write) (Φ : List (List Sec) × Int × Int → Prop) : (List (List Sec) × Int) → ((List (List Sec) × Int) → Prop) → Prop
 | (v16, v24), rec1 =>
 (v24 < (x1.length : Int) →
 inX v24 x1.length ∧
 image_fits_W v16 (ix x1 v24) fun v38 =>
 (v38 ≠ 0 →
 Φ (([] : List (List Sec)), v24, v38)) ∧
 (¬ (v38 ≠ 0) →
 inX ((ix x1 v24).Volume) v16.length ∧
 inS ((ix x1 v24).Start) ((ix v16 ((ix x1 v24).Volume)).length : Int) (ix v16 ((ix x1 v24).Volume)).length ∧
 inI (v24 + 1) ∧
 rec1 ((put v16 ((ix x1 v24).Volume) (paste (ix v16 ((ix x1 v24).Volume)) ((ix x1 v24).Start) ((ix x1 v24).Data))), v24 + 1))) ∧
 (¬ (v24 < (x1.length : Int)) →
 Φ (v16, 0, 0))
def image_Apply_W (x0 : List (List Sec)) (x1 : List api_Write) (Φ : List (List Sec) × Int × Int → Prop) : Prop :=
 image_Check_W x0 fun v3 =>
 (v3 ≠ 0 →
 Φ (([] : List (List Sec)), 0, v3)) ∧
 (¬ (v3 ≠ 0) →
 Z57 x0 fun v7 =>
 LoopW (Z58 x1 Φ) (v7, 0))
def Z59 (v3 : List (List Sec) × Int) (Φ : List (List Sec) × Int → Prop) : (List (Int × api_Write × Unit) × List api_Write) → ((List (Int × api_Write × Unit) × List api_Write) → Prop) → Prop
 | (lst, v4), rec1 =>
 match lst with
 | [] =>
 image_Apply_W v3.1 v4 fun v7 =>
 Φ (v7.1, v7.2.2)
 | v5 :: r6 =>
 lenOk (v4 ++ ([v5.2.1] : List api_Write)).length 40 ∧
 rec1 (r6, (v4 ++ ([v5.2.1] : List api_Write)))
def Z60 (x0 : api_History) (x1 : List Int) (Φ : List (List Sec) × Int → Prop) : Prop :=
 Z8 x0 fun v1 =>
 (v1.2 ≠ 0 →
 Φ (([] : List (List Sec)), v1.2)) ∧
 (¬ (v1.2 ≠ 0) →
 Z46 v1.1 x1 fun v2 =>
 (¬ (v2 = true) →
 Φ (([] : List (List Sec)), 2)) ∧
 (¬ (¬ (v2 = true)) →
 image_New_W x0.Sizes fun v3 =>
 ∃ l8 : List (Int × api_Write × Unit), history_checked_members_1_I x1 v1.1 l8 ∧
 LoopW (Z59 v3 Φ) (l8, ([] : List api_Write))))
def Z61 (v4 : Int) (rec2 : (Int × (List (consistency_content × Int))) → Prop) (Φ : List Int × Bool × Int → Prop) : Bool × (List (consistency_content × Int)) → Prop
 | (v6, v7) =>
 (¬ (v6 = true) →
 ((1 : Int) ≠ 0 →
 Φ (([] : List Int), false, 1)) ∧
 (¬ ((1 : Int) ≠ 0) →
 False)) ∧
 (¬ (¬ (v6 = true)) →
 inI (v4 + 1) ∧
 rec2 ((v4 + 1), v7))
def Z62 (x0 : api_History) (v4 : Int) (rec2 : (Int × (List (consistency_content × Int))) → Prop) (Φ : List Int × Bool × Int → Prop) : (Int × (List (consistency_content × Int))) → ((Int × (List (consistency_content × Int))) → Prop) → Prop
 | (v8, v9), rec4 =>
 (v8 < (((ix x0.Writes v4).Data).length : Int) →
 inX v8 ((ix x0.Writes v4).Data).length ∧
 inI (((ix x0.Writes v4).Start) + v8) ∧
 (¬ ((mhas v9 (consistency_content.mk (consistency_place.mk ((ix x0.Writes v4).Volume) (((ix x0.Writes v4).Start) + v8)) (ix ((ix x0.Writes v4).Data) v8))) = true) →
 (¬ ((ix ((ix x0.Writes v4).Data) v8) ≠ sec0) →
 Z61 v4 rec2 Φ (false, (mput v9 (consistency_content.mk (consistency_place.mk ((ix x0.Writes v4).Volume) (((ix x0.Writes v4).Start) + v8)) (ix ((ix x0.Writes v4).Data) v8)) v4))) ∧
 (¬ (¬ ((ix ((ix x0.Writes v4).Data) v8) ≠ sec0)) →
 inI (v8 + 1) ∧
 rec4 ((v8 + 1), (mput v9 (consistency_content.mk (consistency_place.mk ((ix x0.Writes v4).Volume) (((ix x0.Writes v4).Start) + v8)) (ix ((ix x0.Writes v4).Data) v8)) v4)))) ∧
 (¬ (¬ ((mhas v9 (consistency_content.mk (consistency_place.mk ((ix x0.Writes v4).Volume) (((ix x0.Writes v4).Start) + v8)) (ix ((ix x0.Writes v4).Data) v8))) = true)) →
 Z61 v4 rec2 Φ (false, (mput v9 (consistency_content.mk (consistency_place.mk ((ix x0.Writes v4).Volume) (((ix x0.Writes v4).Start) + v8)) (ix ((ix x0.Writes v4).Data) v8)) v4)))) ∧
 (¬ (v8 < (((ix x0.Writes v4).Data).length : Int)) →
 Z61 v4 rec2 Φ (true, v9))
def Z63 (v10 : Int) (v11 : List Int) (Φ : List Int × Bool × Int → Prop) : Bool → Prop
 | v13 =>
 (v13 = true →
 Φ (([] : List Int), false, v10)) ∧
 (¬ (v13 = true) →
 Φ (v11, true, 0))
def Z64 (Φ : List Int × Bool × Int → Prop) : Int × List Int × Bool → Prop
 | (v10, v11, v12) =>
 Join (Z63 v10 v11 Φ) fun J6 =>
 (v10 ≠ 0 →
 J6 true) ∧
 (¬ (v10 ≠ 0) →
 J6 v12)
def Z65 (v21 : List Int × Int) (Φ : List Int × Bool × Int → Prop) : Bool × Int × Int × List Sec → Prop
 | (v23, _, _, _) =>
 Z64 Φ (0, v21.1, v23)
def Z66 (x1 : List (List Sec)) (v14 : Bool) (v15 : Int) (v16 : Int) (v18 : List Sec) (v21 : List Int × Int) (v22 : List (List Sec) × Int) (v27 : Int) (rec10 : (Int) → Prop) (Φ : List Int × Bool × Int → Prop) : (Int) → ((Int) → Prop) → Prop
 | v28, rec11 =>
 (v28 < ((ix v22.1 v27).length : Int) →
 inX v28 (ix v22.1 v27).length ∧
 inX v27 x1.length ∧
 inX v28 (ix x1 v27).length ∧
 ((ix (ix v22.1 v27) v28) ≠ (ix (ix x1 v27) v28) →
 Z53 (consistency_place.mk v27 v28) (ix (ix v22.1 v27) v28) fun v29 =>
 Z65 v21 Φ (true, v29.Volume, v29.Start, v29.Data)) ∧
 (¬ ((ix (ix v22.1 v27) v28) ≠ (ix (ix x1 v27) v28)) →
 (¬ (¬ (v14 = true)) →
 Z65 v21 Φ (v14, v15, v16, v18)) ∧
 (¬ (¬ (¬ (v14 = true))) →
 inI (v28 + 1) ∧
 rec11 (v28 + 1)))) ∧
 (¬ (v28 < ((ix v22.1 v27).length : Int)) →
 inI (v27 + 1) ∧
 rec10 (v27 + 1))
def Z67 (x1 : List (List Sec)) (v14 : Bool) (v15 : Int) (v16 : Int) (v18 : List Sec) (v21 : List Int × Int) (v22 : List (List Sec) × Int) (Φ : List Int × Bool × Int → Prop) : (Int) → ((Int) → Prop) → Prop
 | v27, rec10 =>
 (v27 < (v22.1.length : Int) →
 inX v27 v22.1.length ∧
 LoopW (Z66 x1 v14 v15 v16 v18 v21 v22 v27 rec10 Φ) 0) ∧
 (¬ (v27 < (v22.1.length : Int)) →
 Z65 v21 Φ (v14, v15, v16, v18))
def Z68 (x0 : api_History) (x1 : List (List Sec)) (v14 : Bool) (v15 : Int) (v16 : Int) (v17 : List (Int × Bool)) (v18 : List Sec) (Φ : List Int × Bool × Int → Prop) : (Int × List Int) → ((Int × List Int) → Prop) → Prop
 | (v19, v20), rec8 =>
 (v19 < (x0.Writes.length : Int) →
 ((mget v17 v19 false) = true →
 lenOk (v20 ++ ([v19] : List Int)).length 8 ∧
 inI (v19 + 1) ∧
 rec8 ((v19 + 1), (v20 ++ ([v19] : List Int)))) ∧
 (¬ ((mget v17 v19 false) = true) →
 inI (v19 + 1) ∧
 rec8 ((v19 + 1), v20))) ∧
 (¬ (v19 < (x0.Writes.length : Int)) →
 cut_Least_W x0 v20 fun v21 =>
 (v21.2 ≠ 0 →
 Z64 Φ (v21.2, ([] : List Int), false)) ∧
 (¬ (v21.2 ≠ 0) →
 Z60 x0 v21.1 fun v22 =>
 (v22.2 ≠ 0 →
 Z64 Φ (v22.2, ([] : List Int), false)) ∧
 (¬ (v22.2 ≠ 0) →
 LoopW (Z67 x1 v14 v15 v16 v18 v21 v22 Φ) 0)))
def Z69 (x0 : api_History) (x1 : List (List Sec)) (Φ : List Int × Bool × Int → Prop) : Bool × Int × Int × (List (Int × Bool)) × List Sec → Prop
 | (v14, v15, v16, v17, v18) =>
 (v14 = true →
 Z64 Φ (0, ([] : List Int), true)) ∧
 (¬ (v14 = true) →
 LoopW (Z68 x0 x1 v14 v15 v16 v17 v18 Φ) (0, ([] : List Int)))
def Z70 (x0 : api_History) (x1 : List (List Sec)) (v5 : List (consistency_content × Int)) (v30 : Int) (rec12 : (Int × (List (Int × Bool))) → Prop) (Φ : List Int × Bool × Int → Prop) : (Int × (List (Int × Bool))) → ((Int × (List (Int × Bool))) → Prop) → Prop
 | (v32, v33), rec13 =>
 (v32 < ((ix x1 v30).length : Int) →
 inX v32 (ix x1 v30).length ∧
 ((ix (ix x1 v30) v32) = sec0 →
 inI (v32 + 1) ∧
 rec13 ((v32 + 1), v33)) ∧
 (¬ ((ix (ix x1 v30) v32) = sec0) →
 (¬ ((mhas v5 (consistency_content.mk (consistency_place.mk v30 v32) (ix (ix x1 v30) v32))) = true) →
 Z53 (consistency_place.mk v30 v32) (ix (ix x1 v30) v32) fun v34 =>
 Z69 x0 x1 Φ (true, v34.Volume, v34.Start, v33, v34.Data)) ∧
 (¬ (¬ ((mhas v5 (consistency_content.mk (consistency_place.mk v30 v32) (ix (ix x1 v30) v32))) = true)) →
 inI (v32 + 1) ∧
 rec13 ((v32 + 1), (mput v33 (mget v5 (consistency_content.mk (consistency_place.mk v30 v32) (ix (ix x1 v30) v32)) 0) true))))) ∧
 (¬ (v32 < ((ix x1 v30).length : Int)) →
 inI (v30 + 1) ∧
 rec12 ((v30 + 1), v33))
def Z71 (x0 : api_History) (x1 : List (List Sec)) (v5 : List (consistency_content × Int)) (Φ : List Int × Bool × Int → Prop) : (Int × (List (Int × Bool))) → ((Int × (List (Int × Bool))) → Prop) → Prop
 | (v30, v31), rec12 =>
 (v30 < (x1.length : Int) →
 inX v30 x1.length ∧
 LoopW (Z70 x0 x1 v5 v30 rec12 Φ) (0, v31)) ∧
 (¬ (v30 < (x1.length : Int)) →
 Z69 x0 x1 Φ (false, 0, 0, v31, ([] : List Sec)))
def Z72 (x0 : api_History) (x1 : List (List Sec)) (Φ : List Int × Bool × Int → Prop) : (Int × (List (consistency_content × Int))) → ((Int × (List (consistency_content × Int))) → Prop) → Prop
 | (v4, v5), rec2 =>
 (v4 < (x0.Writes.length : Int) →
 inX v4 x0.Writes.length ∧
 LoopW (Z62 x0 v4 rec2 Φ) (0, v5)) ∧
 (¬ (v4 < (x0.Writes.length : Int)) →
 ((0 : Int) ≠ 0 →
 Φ (([] : List Int), false, 0)) ∧
 (¬ ((0 : Int) ≠ 0) →
 LoopW (Z71 x0 x1 v5 Φ) (0, ([] : List (Int × Bool)))))
def Z73 (x0 : api_History) (x1 : List (List Sec)) (Φ : List Int × Bool × Int → Prop) : Bool → Prop
 | v3 =>
 (v3 = true →
 ((22 : Int) ≠ 0 →
 Φ (([] : List Int), false, 22)) ∧
 (¬ ((22 : Int) ≠ 0) →
 False)) ∧
 (¬ (v3 = true) →
 LoopW (Z72 x0 x1 Φ) (0, ([] : List (consistency_content × Int))))
def Z74 (x0 : api_History) (x1 : List (List Sec)) (Φ : List Int × Bool × Int → Prop) : (Int) → ((Int) → Prop) → Prop
 | v35, rec14 =>
 (v35 < (x1.length : Int) →
 inX v35 x1.length ∧
 inX v35 x0.Sizes.length ∧
 Z52 (ix x1 v35) (ix x0.Sizes v35) fun v36 =>
 (¬ (v36 = true) →
 Z73 x0 x1 Φ true) ∧
 (¬ (¬ (v36 = true)) →
 inI (v35 + 1) ∧
 rec14 (v35 + 1))) ∧
 (¬ (v35 < (x1.length : Int)) →
 Z73 x0 x1 Φ false)
def Z75 (x0 : api_History) (x1 : List (List Sec)) (Φ : List Int × Bool × Int → Prop) : Prop :=
 Z9 x0 fun v1 =>
 (v1 ≠ 0 →
 (v1 ≠ 0 →
 Φ (([] : List Int), false, v1)) ∧
 (¬ (v1 ≠ 0) →
 False)) ∧
 (¬ (v1 ≠ 0) →
 image_Check_W x1 fun v2 =>
 (v2 ≠ 0 →
 (v2 ≠ 0 →
 Φ (([] : List Int), false, v2)) ∧
 (¬ (v2 ≠ 0) →
 False)) ∧
 (¬ (v2 ≠ 0) →
 ((x1.length : Int) ≠ (x0.Sizes.length : Int) →
 Z73 x0 x1 Φ true) ∧
 (¬ ((x1.length : Int) ≠ (x0.Sizes.length : Int)) →
 LoopW (Z74 x0 x1 Φ) 0)))
def Z76 (v4 : Int) (rec2 : (Int × (List (consistency_content × Int))) → Prop) (Φ : List Int × Bool × Int → Prop) : Bool × (List (consistency_content × Int)) → Prop
 | (v6, v7) =>
 (¬ (v6 = true) →
 ((1 : Int) ≠ 0 →
 Φ (([] : List Int), false, 1)) ∧
 (¬ ((1 : Int) ≠ 0) →
 False)) ∧
 (¬ (¬ (v6 = true)) →
 inI (v4 + 1) ∧
 rec2 ((v4 + 1), v7))
def Z77 (x0 : api_History) (v4 : Int) (rec2 : (Int × (List (consistency_content × Int))) → Prop) (Φ : List Int × Bool × Int → Prop) : (Int × (List (consistency_content × Int))) → ((Int × (List (consistency_content × Int))) → Prop) → Prop
 | (v8, v9), rec4 =>
 (v8 < (((ix x0.Writes v4).Data).length : Int) →
 inX v8 ((ix x0.Writes v4).Data).length ∧
 inI (((ix x0.Writes v4).Start) + v8) ∧
 (¬ ((mhas v9 (consistency_content.mk (consistency_place.mk ((ix x0.Writes v4).Volume) (((ix x0.Writes v4).Start) + v8)) (ix ((ix x0.Writes v4).Data) v8))) = true) →
 (¬ ((ix ((ix x0.Writes v4).Data) v8) ≠ sec0) →
 Z76 v4 rec2 Φ (false, (mput v9 (consistency_content.mk (consistency_place.mk ((ix x0.Writes v4).Volume) (((ix x0.Writes v4).Start) + v8)) (ix ((ix x0.Writes v4).Data) v8)) v4))) ∧
 (¬ (¬ ((ix ((ix x0.Writes v4).Data) v8) ≠ sec0)) →
 inI (v8 + 1) ∧
 rec4 ((v8 + 1), (mput v9 (consistency_content.mk (consistency_place.mk ((ix x0.Writes v4).Volume) (((ix x0.Writes v4).Start) + v8)) (ix ((ix x0.Writes v4).Data) v8)) v4)))) ∧
 (¬ (¬ ((mhas v9 (consistency_content.mk (consistency_place.mk ((ix x0.Writes v4).Volume) (((ix x0.Writes v4).Start) + v8)) (ix ((ix x0.Writes v4).Data) v8))) = true)) →
 Z76 v4 rec2 Φ (false, (mput v9 (consistency_content.mk (consistency_place.mk ((ix x0.Writes v4).Volume) (((ix x0.Writes v4).Start) + v8)) (ix ((ix x0.Writes v4).Data) v8)) v4)))) ∧
 (¬ (v8 < (((ix x0.Writes v4).Data).length : Int)) →
 Z76 v4 rec2 Φ (true, v9))
def Z78 (v13 : Int) (v14 : List Int) (rec7 : (Int × List Int) → Prop) (_ : List Int × Bool × Int → Prop) : Bool → Prop
 | v15 =>
 (v15 = true →
 lenOk (v14 ++ ([v13] : List Int)).length 8 ∧
 inI (v13 + 1) ∧
 rec7 ((v13 + 1), (v14 ++ ([v13] : List Int)))) ∧
 (¬ (v15 = true) →
 inI (v13 + 1) ∧
 rec7 ((v13 + 1), v14))
def Z79 (x0 : api_History) (x1 : List (List Sec)) (v5 : List (consistency_content × Int)) (v13 : Int) (v14 : List Int) (rec7 : (Int × List Int) → Prop) (Φ : List Int × Bool × Int → Prop) : (Int) → ((Int) → Prop) → Prop
 | v16, rec9 =>
 (v16 < (((ix x0.Writes v13).Data).length : Int) →
 inX v16 ((ix x0.Writes v13).Data).length ∧
 inI (((ix x0.Writes v13).Start) + v16) ∧
 inX ((ix x0.Writes v13).Volume) x1.length ∧
 inX (((ix x0.Writes v13).Start) + v16) (ix x1 ((ix x0.Writes v13).Volume)).length ∧
 ((mhas v5 (consistency_content.mk (consistency_place.mk ((ix x0.Writes v13).Volume) (((ix x0.Writes v13).Start) + v16)) (ix (ix x1 ((ix x0.Writes v13).Volume)) (((ix x0.Writes v13).Start) + v16)))) = true →
 (¬ (v13 ≤ (mget v5 (consistency_content.mk (consistency_place.mk ((ix x0.Writes v13).Volume) (((ix x0.Writes v13).Start) + v16)) (ix (ix x1 ((ix x0.Writes v13).Volume)) (((ix x0.Writes v13).Start) + v16))) 0)) →
 Z78 v13 v14 rec7 Φ false) ∧
 (¬ (¬ (v13 ≤ (mget v5 (consistency_content.mk (consistency_place.mk ((ix x0.Writes v13).Volume) (((ix x0.Writes v13).Start) + v16)) (ix (ix x1 ((ix x0.Writes v13).Volume)) (((ix x0.Writes v13).Start) + v16))) 0))) →
 inI (v16 + 1) ∧
 rec9 (v16 + 1))) ∧
 (¬ ((mhas v5 (consistency_content.mk (consistency_place.mk ((ix x0.Writes v13).Volume) (((ix x0.Writes v13).Start) + v16)) (ix (ix x1 ((ix x0.Writes v13).Volume)) (((ix x0.Writes v13).Start) + v16)))) = true) →
 Z78 v13 v14 rec7 Φ false)) ∧
 (¬ (v16 < (((ix x0.Writes v13).Data).length : Int)) →
 Z78 v13 v14 rec7 Φ true)
def Z80 (x0 : api_History) (x1 : List (List Sec)) (v5 : List (consistency_content × Int)) (Φ : List Int × Bool × Int → Prop) : (Int × List Int) → ((Int × List Int) → Prop) → Prop
 | (v13, v14), rec7 =>
 (v13 < (x0.Writes.length : Int) →
 inX v13 x0.Writes.length ∧
 LoopW (Z79 x0 x1 v5 v13 v14 rec7 Φ) 0) ∧
 (¬ (v13 < (x0.Writes.length : Int)) →
 Z38 x0 v14 fun v17 =>
 Φ (v17.1, decide (v17.2 = 0), v17.2))
def Z81 (x0 : api_History) (x1 : List (List Sec)) (v5 : List (consistency_content × Int)) (v11 : Int) (Φ : List Int × Bool × Int → Prop) : Bool → Prop
 | v12 =>
 (v12 = true →
 Φ (([] : List Int), false, v11)) ∧
 (¬ (v12 = true) →
 LoopW (Z80 x0 x1 v5 Φ) (0, ([] : List Int)))
def Z82 (x0 : api_History) (x1 : List (List Sec)) (v5 : List (consistency_content × Int)) (Φ : List Int × Bool × Int → Prop) : Bool × Int → Prop
 | (v10, v11) =>
 Join (Z81 x0 x1 v5 v11 Φ) fun J6 =>
 (v11 ≠ 0 →
 J6 true) ∧
 (¬ (v11 ≠ 0) →
 J6 v10)
def Z83 (x0 : api_History) (x1 : List (List Sec)) (v5 : List (consistency_content × Int)) (Φ : List Int × Bool × Int → Prop) : Bool × Int × Int × List Sec → Prop
 | (v27, _, _, _) =>
 Z82 x0 x1 v5 Φ (v27, 0)
def Z84 (x0 : api_History) (x1 : List (List Sec)) (v5 : List (consistency_content × Int)) (v18 : Bool) (v19 : Int) (v20 : Int) (v22 : List Sec) (v26 : List (List Sec) × Int) (v31 : Int) (rec13 : (Int) → Prop) (Φ : List Int × Bool × Int → Prop) : (Int) → ((Int) → Prop) → Prop
 | v32, rec14 =>
 (v32 < ((ix v26.1 v31).length : Int) →
 inX v32 (ix v26.1 v31).length ∧
 inX v31 x1.length ∧
 inX v32 (ix x1 v31).length ∧
 ((ix (ix v26.1 v31) v32) ≠ (ix (ix x1 v31) v32) →
 Z53 (consistency_place.mk v31 v32) (ix (ix v26.1 v31) v32) fun v33 =>
 Z83 x0 x1 v5 Φ (true, v33.Volume, v33.Start, v33.Data)) ∧
 (¬ ((ix (ix v26.1 v31) v32) ≠ (ix (ix x1 v31) v32)) →
 (¬ (¬ (v18 = true)) →
 Z83 x0 x1 v5 Φ (v18, v19, v20, v22)) ∧
 (¬ (¬ (¬ (v18 = true))) →
 inI (v32 + 1) ∧
 rec14 (v32 + 1)))) ∧
 (¬ (v32 < ((ix v26.1 v31).length : Int)) →
 inI (v31 + 1) ∧
 rec13 (v31 + 1))
def Z85 (x0 : api_History) (x1 : List (List Sec)) (v5 : List (consistency_content × Int)) (v18 : Bool) (v19 : Int) (v20 : Int) (v22 : List Sec) (v26 : List (List Sec) × Int) (Φ : List Int × Bool × Int → Prop) : (Int) → ((Int) → Prop) → Prop
 | v31, rec13 =>
 (v31 < (v26.1.length : Int) →
 inX v31 v26.1.length ∧
 LoopW (Z84 x0 x1 v5 v18 v19 v20 v22 v26 v31 rec13 Φ) 0) ∧
 (¬ (v31 < (v26.1.length : Int)) →
 Z83 x0 x1 v5 Φ (v18, v19, v20, v22))
def Z86 (x0 : api_History) (x1 : List (List Sec)) (v5 : List (consistency_content × Int)) (v18 : Bool) (v19 : Int) (v20 : Int) (v21 : List (Int × Bool)) (v22 : List Sec) (Φ : List Int × Bool × Int → Prop) : (Int × List Int) → ((Int × List Int) → Prop) → Prop
 | (v23, v24), rec11 =>
 (v23 < (x0.Writes.length : Int) →
 ((mget v21 v23 false) = true →
 lenOk (v24 ++ ([v23] : List Int)).length 8 ∧
 inI (v23 + 1) ∧
 rec11 ((v23 + 1), (v24 ++ ([v23] : List Int)))) ∧
 (¬ ((mget v21 v23 false) = true) →
 inI (v23 + 1) ∧
 rec11 ((v23 + 1), v24))) ∧
 (¬ (v23 < (x0.Writes.length : Int)) →
 cut_Least_W x0 v24 fun v25 =>
 (v25.2 ≠ 0 →
 Z82 x0 x1 v5 Φ (false, v25.2)) ∧
 (¬ (v25.2 ≠ 0) →
 Z60 x0 v25.1 fun v26 =>
 (v26.2 ≠ 0 →
 Z82 x0 x1 v5 Φ (false, v26.2)) ∧
 (¬ (v26.2 ≠ 0) →
 LoopW (Z85 x0 x1 v5 v18 v19 v20 v22 v26 Φ) 0)))
def Z87 (x0 : api_History) (x1 : List (List Sec)) (v5 : List (consistency_content × Int)) (Φ : List Int × Bool × Int → Prop) : Bool × Int × Int × (List (Int × Bool)) × List Sec → Prop
 | (v18, v19, v20, v21, v22) =>
 (v18 = true →
 Z82 x0 x1 v5 Φ (true, 0)) ∧
 (¬ (v18 = true) →
 LoopW (Z86 x0 x1 v5 v18 v19 v20 v21 v22 Φ) (0, ([] : List Int)))
def Z88 (x0 : api_History) (x1 : List (List Sec)) (v5 : List (consistency_content × Int)) (v34 : Int) (rec15 : (Int × (List (Int × Bool))) → Prop) (Φ : List Int × Bool × Int → Prop) : (Int × (List (Int × Bool))) → ((Int × (List (Int × Bool))) → Prop) → Prop
 | (v36, v37), rec16 =>
 (v36 < ((ix x1 v34).length : Int) →
 inX v36 (ix x1 v34).length ∧
 ((ix (ix x1 v34) v36) = sec0 →
 inI (v36 + 1) ∧
 rec16 ((v36 + 1), v37)) ∧
 (¬ ((ix (ix x1 v34) v36) = sec0) →
 (¬ ((mhas v5 (consistency_content.mk (consistency_place.mk v34 v36) (ix (ix x1 v34) v36))) = true) →
 Z53 (consistency_place.mk v34 v36) (ix (ix x1 v34) v36) fun v38 =>
 Z87 x0 x1 v5 Φ (true, v38.Volume, v38.Start, v37, v38.Data)) ∧
 (¬ (¬ ((mhas v5 (consistency_content.mk (consistency_place.mk v34 v36) (ix (ix x1 v34) v36))) = true)) →
 inI (v36 + 1) ∧
 rec16 ((v36 + 1), (mput v37 (mget v5 (consistency_content.mk (consistency_place.mk v34 v36) (ix (ix x1 v34) v36)) 0) true))))) ∧
 (¬ (v36 < ((ix x1 v34).length : Int)) →
 inI (v34 + 1) ∧
 rec15 ((v34 + 1), v37))
def Z89 (x0 : api_History) (x1 : List (List Sec)) (v5 : List (consistency_content × Int)) (Φ : List Int × Bool × Int → Prop) : (Int × (List (Int × Bool))) → ((Int × (List (Int × Bool))) → Prop) → Prop
 | (v34, v35), rec15 =>
 (v34 < (x1.length : Int) →
 inX v34 x1.length ∧
 LoopW (Z88 x0 x1 v5 v34 rec15 Φ) (0, v35)) ∧
 (¬ (v34 < (x1.length : Int)) →
 Z87 x0 x1 v5 Φ (false, 0, 0, v35, ([] : List Sec)))
def Z90 (x0 : api_History) (x1 : List (List Sec)) (Φ : List Int × Bool × Int → Prop) : (Int × (List (consistency_content × Int))) → ((Int × (List (consistency_content × Int))) → Prop) → Prop
 | (v4, v5), rec2 =>
 (v4 < (x0.Writes.length : Int) →
 inX v4 x0.Writes.length ∧
 LoopW (Z77 x0 v4 rec2 Φ) (0, v5)) ∧
 (¬ (v4 < (x0.Writes.length : Int)) →
 ((0 : Int) ≠ 0 →
 Φ (([] : List Int), false, 0)) ∧
 (¬ ((0 : Int) ≠ 0) →
 LoopW (Z89 x0 x1 v5 Φ) (0, ([] : List (Int × Bool)))))
def Z91 (x0 : api_History) (x1 : List (List Sec)) (Φ : List Int × Bool × Int → Prop) : Bool → Prop
 | v3 =>
 (v3 = true →
 ((22 : Int) ≠ 0 →
 Φ (([] : List Int), false, 22)) ∧
 (¬ ((22 : Int) ≠ 0) →
 False)) ∧
 (¬ (v3 = true) →
 LoopW (Z90 x0 x1 Φ) (0, ([] : List (consistency_content × Int))))
def Z92 (x0 : api_History) (x1 : List (List Sec)) (Φ : List Int × Bool × Int → Prop) : (Int) → ((Int) → Prop) → Prop
 | v39, rec17 =>
 (v39 < (x1.length : Int) →
 inX v39 x1.length ∧
 inX v39 x0.Sizes.length ∧
 Z52 (ix x1 v39) (ix x0.Sizes v39) fun v40 =>
 (¬ (v40 = true) →
 Z91 x0 x1 Φ true) ∧
 (¬ (¬ (v40 = true)) →
 inI (v39 + 1) ∧
 rec17 (v39 + 1))) ∧
 (¬ (v39 < (x1.length : Int)) →
 Z91 x0 x1 Φ false)
def Z93 (x0 : api_History) (x1 : List (List Sec)) (Φ : List Int × Bool × Int → Prop) : Prop :=
 Z9 x0 fun v1 =>
 (v1 ≠ 0 →
 (v1 ≠ 0 →
 Φ (([] : List Int), false, v1)) ∧
 (¬ (v1 ≠ 0) →
 False)) ∧
 (¬ (v1 ≠ 0) →
 image_Check_W x1 fun v2 =>
 (v2 ≠ 0 →
 (v2 ≠ 0 →
 Φ (([] : List Int), false, v2)) ∧
 (¬ (v2 ≠ 0) →
 False)) ∧
 (¬ (v2 ≠ 0) →
 ((x1.length : Int) ≠ (x0.Sizes.length : Int) →
 Z91 x0 x1 Φ true) ∧
 (¬ ((x1.length : Int) ≠ (x0.Sizes.length : Int)) →
 LoopW (Z92 x0 x1 Φ) 0)))
def Z94 (v4 : Int) (rec2 : (Int × (List (consistency_content × Int))) → Prop) (Φ : api_Write × Bool × Int → Prop) : Bool × (List (consistency_content × Int)) → Prop
 | (v6, v7) =>
 (¬ (v6 = true) →
 ((1 : Int) ≠ 0 →
 Φ ((api_Write.mk 0 0 ([] : List Sec)), false, 1)) ∧
 (¬ ((1 : Int) ≠ 0) →
 False)) ∧
 (¬ (¬ (v6 = true)) →
 inI (v4 + 1) ∧
 rec2 ((v4 + 1), v7))
def Z95 (x0 : api_History) (v4 : Int) (rec2 : (Int × (List (consistency_content × Int))) → Prop) (Φ : api_Write × Bool × Int → Prop) : (Int × (List (consistency_content × Int))) → ((Int × (List (consistency_content × Int))) → Prop) → Prop
 | (v8, v9), rec4 =>
 (v8 < (((ix x0.Writes v4).Data).length : Int) →
 inX v8 ((ix x0.Writes v4).Data).length ∧
 inI (((ix x0.Writes v4).Start) + v8) ∧
 (¬ ((mhas v9 (consistency_content.mk (consistency_place.mk ((ix x0.Writes v4).Volume) (((ix x0.Writes v4).Start) + v8)) (ix ((ix x0.Writes v4).Data) v8))) = true) →
 (¬ ((ix ((ix x0.Writes v4).Data) v8) ≠ sec0) →
 Z94 v4 rec2 Φ (false, (mput v9 (consistency_content.mk (consistency_place.mk ((ix x0.Writes v4).Volume) (((ix x0.Writes v4).Start) + v8)) (ix ((ix x0.Writes v4).Data) v8)) v4))) ∧
 (¬ (¬ ((ix ((ix x0.Writes v4).Data) v8) ≠ sec0)) →
 inI (v8 + 1) ∧
 rec4 ((v8 + 1), (mput v9 (consistency_content.mk (consistency_place.mk ((ix x0.Writes v4).Volume) (((ix x0.Writes v4).Start) + v8)) (ix ((ix x0.Writes v4).Data) v8)) v4)))) ∧
 (¬ (¬ ((mhas v9 (consistency_content.mk (consistency_place.mk ((ix x0.Writes v4).Volume) (((ix x0.Writes v4).Start) + v8)) (ix ((ix x0.Writes v4).Data) v8))) = true)) →
 Z94 v4 rec2 Φ (false, (mput v9 (consistency_content.mk (consistency_place.mk ((ix x0.Writes v4).Volume) (((ix x0.Writes v4).Start) + v8)) (ix ((ix x0.Writes v4).Data) v8)) v4)))) ∧
 (¬ (v8 < (((ix x0.Writes v4).Data).length : Int)) →
 Z94 v4 rec2 Φ (true, v9))
def Z96 (Φ : api_Write × Bool × Int → Prop) : Bool × Int × Int × List Sec → Prop
 | (v19, v20, v21, v22) =>
 Φ ((api_Write.mk v20 v21 v22), v19, 0)
def Z97 (x1 : List (List Sec)) (v10 : Bool) (v11 : Int) (v12 : Int) (v14 : List Sec) (v18 : List (List Sec) × Int) (v23 : Int) (rec8 : (Int) → Prop) (Φ : api_Write × Bool × Int → Prop) : (Int) → ((Int) → Prop) → Prop
 | v24, rec9 =>
 (v24 < ((ix v18.1 v23).length : Int) →
 inX v24 (ix v18.1 v23).length ∧
 inX v23 x1.length ∧
 inX v24 (ix x1 v23).length ∧
 ((ix (ix v18.1 v23) v24) ≠ (ix (ix x1 v23) v24) →
 Z53 (consistency_place.mk v23 v24) (ix (ix v18.1 v23) v24) fun v25 =>
 Z96 Φ (true, v25.Volume, v25.Start, v25.Data)) ∧
 (¬ ((ix (ix v18.1 v23) v24) ≠ (ix (ix x1 v23) v24)) →
 (¬ (¬ (v10 = true)) →
 Z96 Φ (v10, v11, v12, v14)) ∧
 (¬ (¬ (¬ (v10 = true))) →
 inI (v24 + 1) ∧
 rec9 (v24 + 1)))) ∧
 (¬ (v24 < ((ix v18.1 v23).length : Int)) →
 inI (v23 + 1) ∧
 rec8 (v23 + 1))
def Z98 (x1 : List (List Sec)) (v10 : Bool) (v11 : Int) (v12 : Int) (v14 : List Sec) (v18 : List (List Sec) × Int) (Φ : api_Write × Bool × Int → Prop) : (Int) → ((Int) → Prop) → Prop
 | v23, rec8 =>
 (v23 < (v18.1.length : Int) →
 inX v23 v18.1.length ∧
 LoopW (Z97 x1 v10 v11 v12 v14 v18 v23 rec8 Φ) 0) ∧
 (¬ (v23 < (v18.1.length : Int)) →
 Z96 Φ (v10, v11, v12, v14))
def Z99 (x0 : api_History) (x1 : List (List Sec)) (v10 : Bool) (v11 : Int) (v12 : Int) (v13 : List (Int × Bool)) (v14 : List Sec) (Φ : api_Write × Bool × Int → Prop) : (Int × List Int) → ((Int × List Int) → Prop) → Prop
 | (v15, v16), rec6 =>
 (v15 < (x0.Writes.length : Int) →
 ((mget v13 v15 false) = true →
 lenOk (v16 ++ ([v15] : List Int)).length 8 ∧
 inI (v15 + 1) ∧
 rec6 ((v15 + 1), (v16 ++ ([v15] : List Int)))) ∧
 (¬ ((mget v13 v15 false) = true) →
 inI (v15 + 1) ∧
 rec6 ((v15 + 1), v16))) ∧
 (¬ (v15 < (x0.Writes.length : Int)) →
 cut_Least_W x0 v16 fun v17 =>
 (v17.2 ≠ 0 →
 Φ ((api_Write.mk 0 0 ([] : List Sec)), false, v17.2)) ∧
 (¬ (v17.2 ≠ 0) →
 Z60 x0 v17.1 fun v18 =>
 (v18.2 ≠ 0 →
 Φ ((api_Write.mk 0 0 ([] : List Sec)), false, v18.2)) ∧
 (¬ (v18.2 ≠ 0) →
 LoopW (Z98 x1 v10 v11 v12 v14 v18 Φ) 0)))
def Z100 (x0 : api_History) (x1 : List (List Sec)) (Φ : api_Write × Bool × Int → Prop) : Bool × Int × Int × (List (Int × Bool)) × List Sec → Prop
 | (v10, v11, v12, v13, v14) =>
 (v10 = true →
 Φ ((api_Write.mk v11 v12 v14), true, 0)) ∧
 (¬ (v10 = true) →
 LoopW (Z99 x0 x1 v10 v11 v12 v13 v14 Φ) (0, ([] : List Int)))
def Z101 (x0 : api_History) (x1 : List (List Sec)) (v5 : List (consistency_content × Int)) (v26 : Int) (rec10 : (Int × (List (Int × Bool))) → Prop) (Φ : api_Write × Bool × Int → Prop) : (Int × (List (Int × Bool))) → ((Int × (List (Int × Bool))) → Prop) → Prop
 | (v28, v29), rec11 =>
 (v28 < ((ix x1 v26).length : Int) →
 inX v28 (ix x1 v26).length ∧
 ((ix (ix x1 v26) v28) = sec0 →
 inI (v28 + 1) ∧
 rec11 ((v28 + 1), v29)) ∧
 (¬ ((ix (ix x1 v26) v28) = sec0) →
 (¬ ((mhas v5 (consistency_content.mk (consistency_place.mk v26 v28) (ix (ix x1 v26) v28))) = true) →
 Z53 (consistency_place.mk v26 v28) (ix (ix x1 v26) v28) fun v30 =>
 Z100 x0 x1 Φ (true, v30.Volume, v30.Start, v29, v30.Data)) ∧
 (¬ (¬ ((mhas v5 (consistency_content.mk (consistency_place.mk v26 v28) (ix (ix x1 v26) v28))) = true)) →
 inI (v28 + 1) ∧
 rec11 ((v28 + 1), (mput v29 (mget v5 (consistency_content.mk (consistency_place.mk v26 v28) (ix (ix x1 v26) v28)) 0) true))))) ∧
 (¬ (v28 < ((ix x1 v26).length : Int)) →
 inI (v26 + 1) ∧
 rec10 ((v26 + 1), v29))
def Z102 (x0 : api_History) (x1 : List (List Sec)) (v5 : List (consistency_content × Int)) (Φ : api_Write × Bool × Int → Prop) : (Int × (List (Int × Bool))) → ((Int × (List (Int × Bool))) → Prop) → Prop
 | (v26, v27), rec10 =>
 (v26 < (x1.length : Int) →
 inX v26 x1.length ∧
 LoopW (Z101 x0 x1 v5 v26 rec10 Φ) (0, v27)) ∧
 (¬ (v26 < (x1.length : Int)) →
 Z100 x0 x1 Φ (false, 0, 0, v27, ([] : List Sec)))
def Z103 (x0 : api_History) (x1 : List (List Sec)) (Φ : api_Write × Bool × Int → Prop) : (Int × (List (consistency_content × Int))) → ((Int × (List (consistency_content × Int))) → Prop) → Prop
 | (v4, v5), rec2 =>
 (v4 < (x0.Writes.length : Int) →
 inX v4 x0.Writes.length ∧
 LoopW (Z95 x0 v4 rec2 Φ) (0, v5)) ∧
 (¬ (v4 < (x0.Writes.length : Int)) →
 ((0 : Int) ≠ 0 →
 Φ ((api_Write.mk 0 0 ([] : List Sec)), false, 0)) ∧
 (¬ ((0 : Int) ≠ 0) →
 LoopW (Z102 x0 x1 v5 Φ) (0, ([] : List (Int × Bool)))))
def Z104 (x0 : api_History) (x1 : List (List Sec)) (Φ : api_Write × Bool × Int → Prop) : Bool → Prop
 | v3 =>
 (v3 = true →
 ((22 : Int) ≠ 0 →
 Φ ((api_Write.mk 0 0 ([] : List Sec)), false, 22)) ∧
 (¬ ((22 : Int) ≠ 0) →
 False)) ∧
 (¬ (v3 = true) →
 LoopW (Z103 x0 x1 Φ) (0, ([] : List (consistency_content × Int))))
def Z105 (x0 : api_History) (x1 : List (List Sec)) (Φ : api_Write × Bool × Int → Prop) : (Int) → ((Int) → Prop) → Prop
 | v31, rec12 =>
 (v31 < (x1.length : Int) →
 inX v31 x1.length ∧
 inX v31 x0.Sizes.length ∧
 Z52 (ix x1 v31) (ix x0.Sizes v31) fun v32 =>
 (¬ (v32 = true) →
 Z104 x0 x1 Φ true) ∧
 (¬ (¬ (v32 = true)) →
 inI (v31 + 1) ∧
 rec12 (v31 + 1))) ∧
 (¬ (v31 < (x1.length : Int)) →
 Z104 x0 x1 Φ false)
def Z106 (x0 : api_History) (x1 : List (List Sec)) (Φ : api_Write × Bool × Int → Prop) : Prop :=
 Z9 x0 fun v1 =>
 (v1 ≠ 0 →
 (v1 ≠ 0 →
 Φ ((api_Write.mk 0 0 ([] : List Sec)), false, v1)) ∧
 (¬ (v1 ≠ 0) →
 False)) ∧
 (¬ (v1 ≠ 0) →
 image_Check_W x1 fun v2 =>
 (v2 ≠ 0 →
 (v2 ≠ 0 →
 Φ ((api_Write.mk 0 0 ([] : List Sec)), false, v2)) ∧
 (¬ (v2 ≠ 0) →
 False)) ∧
 (¬ (v2 ≠ 0) →
 ((x1.length : Int) ≠ (x0.Sizes.length : Int) →
 Z104 x0 x1 Φ true) ∧
 (¬ ((x1.length : Int) ≠ (x0.Sizes.length : Int)) →
 LoopW (Z105 x0 x1 Φ) 0)))
def Z107 (v2 : Int) (rec1 : (Int × (List (consistency_content × Int))) → Prop) (Φ : Bool → Prop) : Bool × (List (consistency_content × Int)) → Prop
 | (v4, v5) =>
 (¬ (v4 = true) →
 Φ false) ∧
 (¬ (¬ (v4 = true)) →
 inI (v2 + 1) ∧
 rec1 ((v2 + 1), v5))
def Z108 (x0 : api_History) (v2 : Int) (rec1 : (Int × (List (consistency_content × Int))) → Prop) (Φ : Bool → Prop) : (Int × (List (consistency_content × Int))) → ((Int × (List (consistency_content × Int))) → Prop) → Prop
 | (v6, v7), rec3 =>
 (v6 < (((ix x0.Writes v2).Data).length : Int) →
 inX v6 ((ix x0.Writes v2).Data).length ∧
 inI (((ix x0.Writes v2).Start) + v6) ∧
 (¬ ((mhas v7 (consistency_content.mk (consistency_place.mk ((ix x0.Writes v2).Volume) (((ix x0.Writes v2).Start) + v6)) (ix ((ix x0.Writes v2).Data) v6))) = true) →
 (¬ ((ix ((ix x0.Writes v2).Data) v6) ≠ sec0) →
 Z107 v2 rec1 Φ (false, (mput v7 (consistency_content.mk (consistency_place.mk ((ix x0.Writes v2).Volume) (((ix x0.Writes v2).Start) + v6)) (ix ((ix x0.Writes v2).Data) v6)) v2))) ∧
 (¬ (¬ ((ix ((ix x0.Writes v2).Data) v6) ≠ sec0)) →
 inI (v6 + 1) ∧
 rec3 ((v6 + 1), (mput v7 (consistency_content.mk (consistency_place.mk ((ix x0.Writes v2).Volume) (((ix x0.Writes v2).Start) + v6)) (ix ((ix x0.Writes v2).Data) v6)) v2)))) ∧
 (¬ (¬ ((mhas v7 (consistency_content.mk (consistency_place.mk ((ix x0.Writes v2).Volume) (((ix x0.Writes v2).Start) + v6)) (ix ((ix x0.Writes v2).Data) v6))) = true)) →
 Z107 v2 rec1 Φ (false, (mput v7 (consistency_content.mk (consistency_place.mk ((ix x0.Writes v2).Volume) (((ix x0.Writes v2).Start) + v6)) (ix ((ix x0.Writes v2).Data) v6)) v2)))) ∧
 (¬ (v6 < (((ix x0.Writes v2).Data).length : Int)) →
 Z107 v2 rec1 Φ (true, v7))
def Z109 (x0 : api_History) (Φ : Bool → Prop) : (Int × (List (consistency_content × Int))) → ((Int × (List (consistency_content × Int))) → Prop) → Prop
 | (v2, v3), rec1 =>
 (v2 < (x0.Writes.length : Int) →
 inX v2 x0.Writes.length ∧
 LoopW (Z108 x0 v2 rec1 Φ) (0, v3)) ∧
 (¬ (v2 < (x0.Writes.length : Int)) →
 Φ true)
def Z110 (x0 : api_History) (Φ : Bool → Prop) : Prop :=
 Z9 x0 fun v1 =>
 (v1 ≠ 0 →
 Φ false) ∧
 (¬ (v1 ≠ 0) →
 LoopW (Z109 x0 Φ) (0, ([] : List (consistency_content × Int))))
def Z111 (x0 : Int) (x1 : BitVec 8) (Φ : List api_Write → Prop) : Prop :=
 Φ ([(api_Write.mk 0 x0 ([(Sec.mk x1 (0#8) (0#8) (0#8) (0#8) (0#8) (0#8) (0#8))] : List Sec))] : List api_Write)
def Z112 (x0 : List Sec) (x1 : List Sec) (Φ : Bool → Prop) : (Int) → ((Int) → Prop) → Prop
 | v1, rec1 =>
 (v1 < (x0.length : Int) →
 inX v1 x0.length ∧
 inX v1 x1.length ∧
 ((ix x0 v1) ≠ (ix x1 v1) →
 Φ false) ∧
 (¬ ((ix x0 v1) ≠ (ix x1 v1)) →
 inI (v1 + 1) ∧
 rec1 (v1 + 1))) ∧
 (¬ (v1 < (x0.length : Int)) →
 Φ true)
def Z113 (x0 : List Sec) (x1 : List Sec) (Φ : Bool → Prop) : Prop :=
 ((x0.length : Int) ≠ (x1.length : Int) →
 Φ false) ∧
 (¬ ((x0.length : Int) ≠ (x1.length : Int)) →
 LoopW (Z112 x0 x1 Φ) 0)
def Z114 (x0 : List api_Write) (x1 : List api_Write) (Φ : Bool → Prop) : (Int) → ((Int) → Prop) → Prop
 | v1, rec1 =>
 (v1 < (x0.length : Int) →
 inX v1 x0.length ∧
 inX v1 x1.length ∧
 (((ix x0 v1).Volume) ≠ ((ix x1 v1).Volume) →
 Φ false) ∧
 (¬ (((ix x0 v1).Volume) ≠ ((ix x1 v1).Volume)) →
 inX v1 x0.length ∧
 inX v1 x1.length ∧
 (((ix x0 v1).Start) ≠ ((ix x1 v1).Start) →
 Φ false) ∧
 (¬ (((ix x0 v1).Start) ≠ ((ix x1 v1).Start)) →
 inX v1 x0.length ∧
 inX v1 x1.length ∧
 ∃ v2 : Bool × Unit, Z113 ((ix x0 v1).Data) ((ix x1 v1).Data) (fun z => (z, ()) = v2) ∧
 (¬ (v2.1 = true) →
 Φ false) ∧
 (¬ (¬ (v2.1 = true)) →
 inI (v1 + 1) ∧
 rec1 (v1 + 1))))) ∧
 (¬ (v1 < (x0.length : Int)) →
 Φ true)
def Z115 (x0 : List api_Write) (x1 : List api_Write) (Φ : Bool → Prop) : Prop :=
 ((x0.length : Int) ≠ (x1.length : Int) →
 Φ false) ∧
 (¬ ((x0.length : Int) ≠ (x1.length : Int)) →
 LoopW (Z114 x0 x1 Φ) 0)
def Z116 (v1 : api_History) (Φ : Bool → Prop) : Unit → Prop
 | _ =>
 ∃ v2 : List (List Sec) × Unit, law18_of_W (0#8) (2#8) (0#8) (fun z => (z, ()) = v2) ∧
 ∃ v3 : List Int × Bool × Int × Unit, Z75 v1 v2.1 (fun z => (z.1, z.2.1, z.2.2, ()) = v3) ∧
 ∃ v4 : List (List Sec) × Unit, law18_of_W (0#8) (2#8) (0#8) (fun z => (z, ()) = v4) ∧
 ∃ v5 : api_Write × Bool × Int × Unit, Z106 v1 v4.1 (fun z => (z.1, z.2.1, z.2.2, ()) = v5) ∧
 ∃ v6 : List (List Sec) × Unit, law18_of_W (1#8) (5#8) (0#8) (fun z => (z, ()) = v6) ∧
 ∃ v7 : api_Write × Bool × Int × Unit, Z106 v1 v6.1 (fun z => (z.1, z.2.1, z.2.2, ()) = v7) ∧
 ∃ v8 : List (List Sec) × Unit, law18_of_W (3#8) (2#8) (0#8) (fun z => (z, ()) = v8) ∧
 ∃ v9 : api_Write × Bool × Int × Unit, Z106 v1 v8.1 (fun z => (z.1, z.2.1, z.2.2, ()) = v9) ∧
 (v3.2.1 = true →
 Φ false) ∧
 (¬ (v3.2.1 = true) →
 inI (v3.2.2.1 + v5.2.2.1) ∧
 inI ((v3.2.2.1 + v5.2.2.1) + v7.2.2.1) ∧
 inI (((v3.2.2.1 + v5.2.2.1) + v7.2.2.1) + v9.2.2.1) ∧
 ((((v3.2.2.1 + v5.2.2.1) + v7.2.2.1) + v9.2.2.1) ≠ 0 →
 Φ false) ∧
 (¬ ((((v3.2.2.1 + v5.2.2.1) + v7.2.2.1) + v9.2.2.1) ≠ 0) →
 (¬ (v5.2.1 = true) →
 Φ false) ∧
 (¬ (¬ (v5.2.1 = true)) →
 (¬ (v7.2.1 = true) →
 Φ false) ∧
 (¬ (¬ (v7.2.1 = true)) →
 (¬ (v9.2.1 = true) →
 Φ false) ∧
 (¬ (¬ (v9.2.1 = true)) →
 Z110 v1 fun v10 =>
 (¬ (v10 = true) →
 Φ false) ∧
 (¬ (¬ (v10 = true)) →
 ∃ v11 : List api_Write × Unit, Z111 0 (1#8) (fun z => (z, ()) = v11) ∧
 ∃ v12 : Bool × Unit, Z115 ([v5.1] : List api_Write) v11.1 (fun z => (z, ()) = v12) ∧
 (v12.1 = true →
 ∃ v13 : List api_Write × Unit, Z111 1 (5#8) (fun z => (z, ()) = v13) ∧
 ∃ v14 : Bool × Unit, Z115 ([v7.1] : List api_Write) v13.1 (fun z => (z, ()) = v14) ∧
 (v14.1 = true →
 ∃ v15 : List api_Write × Unit, Z111 1 (4#8) (fun z => (z, ()) = v15) ∧
 ∃ v16 : Bool × Unit, Z115 ([v9.1] : List api_Write) v15.1 (fun z => (z, ()) = v16) ∧
 Φ v16.1) ∧
 (¬ (v14.1 = true) →
 Φ false)) ∧
 (¬ (v12.1 = true) →
 Φ false)))))))
def Z117 (v1 : api_History) (v17 : List (List Sec)) (v18 : List (List Sec)) (v19 : List (List Sec)) (v20 : List (List Sec)) (v21 : Int) (rec2 : (Int) → Prop) (Φ : Bool → Prop) : Unit → Prop
 | _ =>
 inX v21 ([v17, v18, v19, v20] : List (List (List Sec))).length ∧
 Z75 v1 (ix ([v17, v18, v19, v20] : List (List (List Sec))) v21) fun v22 =>
 Z93 v1 (ix ([v17, v18, v19, v20] : List (List (List Sec))) v21) fun v23 =>
 (v22.2.2 ≠ 0 →
 Φ false) ∧
 (¬ (v22.2.2 ≠ 0) →
 (v23.2.2 ≠ 0 →
 Φ false) ∧
 (¬ (v23.2.2 ≠ 0) →
 (¬ (v22.2.1 = true) →
 Φ false) ∧
 (¬ (¬ (v22.2.1 = true)) →
 (¬ (v23.2.1 = true) →
 Φ false) ∧
 (¬ (¬ (v23.2.1 = true)) →
 ref15_First_W v21 fun v24 =>
 Z40 v22.1 v24 fun v25 =>
 (¬ (v25 = true) →
 Φ false) ∧
 (¬ (¬ (v25 = true)) →
 ref15_First_W v21 fun v26 =>
 Z40 v23.1 v26 fun v27 =>
 (¬ (v27 = true) →
 Φ false) ∧
 (¬ (¬ (v27 = true)) →
 inI (v21 + 1) ∧
 rec2 (v21 + 1)))))))
def Z118 (v1 : api_History) (v17 : List (List Sec)) (v18 : List (List Sec)) (v19 : List (List Sec)) (v20 : List (List Sec)) (Φ : Bool → Prop) : (Int) → ((Int) → Prop) → Prop
 | v21, rec2 =>
 Join (Z117 v1 v17 v18 v19 v20 v21 rec2 Φ) fun J3 =>
 (v21 < (([v17, v18, v19, v20] : List (List (List Sec))).length : Int) →
 J3 ()) ∧
 (¬ (v21 < (([v17, v18, v19, v20] : List (List (List Sec))).length : Int)) →
 Z116 v1 Φ ())
def law18_awake_W (Φ : Bool → Prop) : Prop :=
 Z51 fun v1 =>
 law18_of_W (0#8) (0#8) (0#8) fun v17 =>
 law18_of_W (1#8) (0#8) (0#8) fun v18 =>
 law18_of_W (1#8) (2#8) (0#8) fun v19 =>
 law18_of_W (3#8) (4#8) (0#8) fun v20 =>
 LoopW (Z118 v1 v17 v18 v19 v20 Φ) 0
def Z119 (x0 : List Sec) (x1 : List Sec) (Φ : Bool → Prop) : (Int) → ((Int) → Prop) → Prop
 | v1, rec1 =>
 (v1 < (x0.length : Int) →
 inX v1 x0.length ∧
 inX v1 x1.length ∧
 ((ix x0 v1) ≠ (ix x1 v1) →
 Φ false) ∧
 (¬ ((ix x0 v1) ≠ (ix x1 v1)) →
 inI (v1 + 1) ∧
 rec1 (v1 + 1))) ∧
 (¬ (v1 < (x0.length : Int)) →
 Φ true)
def Z120 (x0 : List Sec) (x1 : List Sec) (Φ : Bool → Prop) : Prop :=
 ((x0.length : Int) ≠ (x1.length : Int) →
 Φ false) ∧
 (¬ ((x0.length : Int) ≠ (x1.length : Int)) →
 LoopW (Z119 x0 x1 Φ) 0)
def image_Same_L1 (x0 : List (List Sec)) (x1 : List (List Sec)) (Φ : Bool → Prop) : (Int) → ((Int) → Prop) → Prop
 | v1, rec1 =>
 (v1 < (x0.length : Int) →
 inX v1 x0.length ∧
 inX v1 x1.length ∧
 Z120 (ix x0 v1) (ix x1 v1) fun v2 =>
 (¬ (v2 = true) →
 Φ false) ∧
 (¬ (¬ (v2 = true)) →
 inI (v1 + 1) ∧
 rec1 (v1 + 1))) ∧
 (¬ (v1 < (x0.length : Int)) →
 Φ true)
def image_Same_W (x0 : List (List Sec)) (x1 : List (List Sec)) (Φ : Bool → Prop) : Prop :=
 ((x0.length : Int) ≠ (x1.length : Int) →
 Φ false) ∧
 (¬ ((x0.length : Int) ≠ (x1.length : Int)) →
 LoopW (image_Same_L1 x0 x1 Φ) 0)
def Z121 (x0 : List Int) (x1 : List Int) (Φ : Bool → Prop) : (Int) → ((Int) → Prop) → Prop
 | v1, rec1 =>
 (v1 < (x1.length : Int) →
 inX v1 x1.length ∧
 Z44 x0 (ix x1 v1) fun v2 =>
 (¬ (v2 = true) →
 Φ (decide (¬ (0 ≤ v1)))) ∧
 (¬ (¬ (v2 = true)) →
 inI (v1 + 1) ∧
 rec1 (v1 + 1))) ∧
 (¬ (v1 < (x1.length : Int)) →
 Φ (decide (¬ (0 ≤ ((-1) : Int)))))
def Z122 (x0 : List Int) (x1 : List Int) (Φ : Bool → Prop) : Prop :=
 LoopW (Z121 x0 x1 Φ) 0
def Z123 (v3 : List Int × Bool × Int) (v4 : List Int × Bool × Int) (v5 : List (List Int) × Int) (v11 : Int) (rec3 : (Bool × Bool × Bool × Int) → Prop) (Φ : Bool → Prop) : Bool × Bool → Prop
 | (v14, v15) =>
 Z122 (ix v5.1 v11) v3.1 fun v16 =>
 (¬ (v16 = true) →
 Φ false) ∧
 (¬ (¬ (v16 = true)) →
 Z122 v4.1 (ix v5.1 v11) fun v17 =>
 (¬ (v17 = true) →
 Φ false) ∧
 (¬ (¬ (v17 = true)) →
 inI (v11 + 1) ∧
 rec3 (true, v14, v15, (v11 + 1))))
def Z124 (x0 : api_History) (x1 : List (List Sec)) (v3 : List Int × Bool × Int) (v4 : List Int × Bool × Int) (v5 : List (List Int) × Int) (Φ : Bool → Prop) : (Bool × Bool × Bool × Int) → ((Bool × Bool × Bool × Int) → Prop) → Prop
 | (v8, v9, v10, v11), rec3 =>
 (v11 < (v5.1.length : Int) →
 inX v11 v5.1.length ∧
 Z60 x0 (ix v5.1 v11) fun v12 =>
 (v12.2 ≠ 0 →
 Φ false) ∧
 (¬ (v12.2 ≠ 0) →
 image_Same_W v12.1 x1 fun v13 =>
 (¬ (v13 = true) →
 inI (v11 + 1) ∧
 rec3 (v8, v9, v10, (v11 + 1))) ∧
 (¬ (¬ (v13 = true)) →
 Join (Z123 v3 v4 v5 v11 rec3 Φ) fun J4 =>
 (v9 = true →
 (v10 = true →
 J4 (true, true)) ∧
 (¬ (v10 = true) →
 Z40 (ix v5.1 v11) v4.1 fun v18 =>
 J4 (true, v18))) ∧
 (¬ (v9 = true) →
 Z40 (ix v5.1 v11) v3.1 fun v19 =>
 (v10 = true →
 J4 (v19, true)) ∧
 (¬ (v10 = true) →
 Z40 (ix v5.1 v11) v4.1 fun v20 =>
 J4 (v19, v20)))))) ∧
 (¬ (v11 < (v5.1.length : Int)) →
 (v3.2.1 = v8 →
 (v4.2.1 = v8 →
 (¬ (v8 = true) →
 law18_awake_W fun v21 =>
 Φ v21) ∧
 (¬ (¬ (v8 = true)) →
 (v9 = true →
 (v10 = true →
 law18_awake_W fun v22 =>
 Φ v22) ∧
 (¬ (v10 = true) →
 Φ false)) ∧
 (¬ (v9 = true) →
 Φ false))) ∧
 (¬ (v4.2.1 = v8) →
 Φ false)) ∧
 (¬ (v3.2.1 = v8) →
 Φ false))
def Z125 (x0 : api_History) (x1 : List (List Sec)) (v3 : List Int × Bool × Int) (v4 : List Int × Bool × Int) (v5 : List (List Int) × Int) (Φ : Bool → Prop) : Bool → Prop
 | v6 =>
 (v6 = true →
 (v3.2.2 = v4.2.2 →
 (¬ (v3.2.1 = true) →
 (¬ (v4.2.1 = true) →
 law18_awake_W fun v7 =>
 Φ v7) ∧
 (¬ (¬ (v4.2.1 = true)) →
 Φ false)) ∧
 (¬ (¬ (v3.2.1 = true)) →
 Φ false)) ∧
 (¬ (v3.2.2 = v4.2.2) →
 Φ false)) ∧
 (¬ (v6 = true) →
 LoopW (Z124 x0 x1 v3 v4 v5 Φ) (false, false, false, 0))
def Z126 (x0 : api_History) (x1 : List (List Sec)) (Φ : Bool → Prop) : Bool → Prop
 | v1 =>
 (v1 = true →
 law18_awake_W fun v2 =>
 Φ v2) ∧
 (¬ (v1 = true) →
 Z75 x0 x1 fun v3 =>
 Z93 x0 x1 fun v4 =>
 cut_All_W x0 300 fun v5 =>
 Join (Z125 x0 x1 v3 v4 v5 Φ) fun J2 =>
 (v3.2.2 ≠ 0 →
 J2 true) ∧
 (¬ (v3.2.2 ≠ 0) →
 (v4.2.2 ≠ 0 →
 J2 true) ∧
 (¬ (v4.2.2 ≠ 0) →
 J2 (decide (v5.2 ≠ 0)))))
def Z127 (x0 : api_History) (x1 : List (List Sec)) (Φ : Bool → Prop) : Prop :=
 Join (Z126 x0 x1 Φ) fun J1 =>
 law18_few_W x0 x1 fun v23 =>
 (¬ (v23 = true) →
 J1 true) ∧
 (¬ (¬ (v23 = true)) →
 J1 (decide (8 < (x0.Writes.length : Int))))
def ghT : Hp → Prop := fun _ => True
def gh : Hp → Prop := fun _ => True
theorem ghUp : GUp gh := fun _ _ _ _ => trivial
def ct56 : Ct DD := ⟨56, [26], [4], [[false]], true, fun x Φ => ref15_Few_W x.1 fun y => Φ (y, ())⟩
def pl56 : List PE := [⟨[4, 1, 0, 1, 1], [], [0], ⟨[.int], [(1, .kp 2), (3, .v .int)], [], [], []⟩, false⟩, ⟨[4, 1, 0, 1, 1, 1], [], [0], ⟨[.int], [(1, .kp 2), (4, .v .int)], [], [], []⟩, false⟩]
def ct161 : Ct DD := ⟨161, [3], [4], [[false]], true, fun x Φ => Z0 x.1 fun y => Φ (y, ())⟩
def pl161 : List PE := []
def ct142 : Ct DD := ⟨142, [22], [30], [[false]], true, fun x Φ => Z2 x.1 fun y => Φ (y, ())⟩
def pl142 : List PE := [⟨[4, 1, 0, 1, 12, 0, 1, 11, 0, 0, 1, 1], [], [], ⟨[.int], [(0, .kp 0), (1, .kp 1), (7, .kp 4), (8, .v .int)], [], [], []⟩, false⟩]
def ct144 : Ct DD := ⟨144, [3], [117], [[true]], false, fun x Φ => image_New_1_W x.1 fun y => Φ (y, ())⟩
def pl144 : List PE := []
def ct97 : Ct DD := ⟨97, [22], [71, 30], [[true], [false]], false, fun x Φ => image_New_W x.1 fun y => Φ (y.1, y.2, ())⟩
def pl97 : List PE := [⟨[4, 1, 0, 1, 1, 11, 0, 1, 1], [], [], ⟨[.int, .lst 117], [(1, .kp 2), (5, .own 0), (11, .kp 8), (12, .kp 9), (13, .v .int)], [], [117], []⟩, false⟩]
def ct189 : Ct DD := ⟨189, [117], [3], [[false]], true, fun x Φ => Z3 x.1 fun y => Φ (y, ())⟩
def pl189 : List PE := []
def ct160 : Ct DD := ⟨160, [71], [22], [[true]], false, fun x Φ => image_sizes_W x.1 fun y => Φ (y, ())⟩
def pl160 : List PE := [⟨[4, 1, 0, 1, 1, 11, 0, 1], [], [], ⟨[.int, .lst 3], [(1, .kp 2), (5, .own 0), (11, .kp 8), (12, .kp 9), (13, .v .int)], [], [3], []⟩, false⟩]
def ct133 : Ct DD := ⟨133, [71], [30], [[false]], true, fun x Φ => image_Check_W x.1 fun y => Φ (y, ())⟩
def pl133 : List PE := []
def ct147 : Ct DD := ⟨147, [71, 119], [30], [[false]], true, fun x Φ => image_fits_W x.1 x.2.1 fun y => Φ (y, ())⟩
def pl147 : List PE := [⟨[4, 0, 1], [], [0], ⟨[.bool], [(0, .kp 1), (3, .kp 3), (5, .v .bool)], [], [], []⟩, true⟩]
def ct126 : Ct DD := ⟨126, [71, 119], [30], [[false]], true, fun x Φ => image_Fits_W x.1 x.2.1 fun y => Φ (y, ())⟩
def pl126 : List PE := []
def ct79 : Ct DD := ⟨79, [26], [109, 30], [[false, false, false, true, true], [false]], false, fun x Φ => Z8 x.1 fun y => Φ (y.1, y.2, ())⟩
def pl79 : List PE := [⟨[4, 1, 0, 1, 1, 1, 1, 1], [3], [3, 2, 0], ⟨[.int], [(1, .kp 5), (2, .kp 6), (4, .kp 10), (5, .kp 17), (31, .kp 26), (32, .kp 27), (33, .v .int)], [(1, 109, [.kp 34,.kp 35,.kp 36,.kp 37,.kp 38])], [], []⟩, false⟩, ⟨[4, 1, 0, 1, 1, 1, 1, 1, 1], [], [3, 0], ⟨[.int, .lst 3, .lst 3], [(1, .kp 5), (2, .kp 6), (4, .kp 10), (46, .kp 41), (47, .kp 45), (48, .v .int)], [(1, 109, [.kp 34,.kp 35,.kp 36,.kp 37,.kp 38]), (2, 109, [.kp 29,.kp 30,.kp 31,.own 0,.own 1])], [3, 3], []⟩, false⟩, ⟨[1, 4, 0, 1, 1, 5, 4, 1, 0, 1, 1, 1, 1, 1, 1], [], [49, 1], ⟨[.int, .lst 3, .lst 3], [(1, .kp 5), (2, .kp 6), (4, .kp 10), (12, .v .int), (46, .kp 41), (47, .kp 45), (48, .kp 50)], [(2, 109, [.kp 29,.kp 30,.kp 31,.own 0,.own 1])], [3, 3], []⟩, true⟩]
def ct32 : Ct DD := ⟨32, [26], [30], [[false]], true, fun x Φ => Z9 x.1 fun y => Φ (y, ())⟩
def pl32 : List PE := []
def ct165 : Ct DD := ⟨165, [210, 210], [210, 210], [[false], [false]], true, fun x Φ => Z10 x.1 x.2.1 fun y => Φ (y.1, y.2, ())⟩
def pl165 : List PE := []
def ct148 : Ct DD := ⟨148, [185, 185], [185, 185], [[false], [false]], true, fun x Φ => Z11 x.1 x.2.1 fun y => Φ (y.1, y.2, ())⟩
def pl148 : List PE := []
def ct106 : Ct DD := ⟨106, [22, 3], [22], [[true]], false, fun x Φ => Z14 x.1 x.2.1 fun y => Φ (y, ())⟩
def pl106 : List PE := [⟨[4, 0, 1, 1, 1, 1, 1, 1], [], [], ⟨[.int, .lst 3], [(7, .own 0), (8, .v .int)], [], [3], []⟩, false⟩, ⟨[0, 1, 1, 1], [], [], ⟨[.bool], [(0, .kp 0), (6, .kp 15), (26, .v .bool)], [], [], []⟩, true⟩]
def ct107 : Ct DD := ⟨107, [80, 22], [94, 4], [[true], [false]], false, fun x Φ => Z17 x.1 x.2.1 fun y => Φ (y.1, y.2, ())⟩
def pl107 : List PE := [⟨[4, 1, 0, 1, 1], [], [], ⟨[.int, .lst 4], [(0, .kp 1), (1, .kp 2), (6, .own 0), (14, .kp 11), (15, .kp 12), (16, .v .int)], [], [4], []⟩, false⟩, ⟨[0, 1, 4, 0, 1, 1, 5, 4, 1, 0, 1, 1], [], [14], ⟨[.bool], [(0, .kp 1), (1, .kp 2), (6, .kp 15), (8, .kp 22), (14, .kp 11), (15, .kp 12), (16, .kp 16), (43, .v .bool)], [], [], []⟩, true⟩]
def ct70 : Ct DD := ⟨70, [80, 3, 3], [4], [[false]], true, fun x Φ => Z18 x.1 x.2.1 x.2.2.1 fun y => Φ (y, ())⟩
def pl70 : List PE := []
def ct108 : Ct DD := ⟨108, [80, 94, 3], [4], [[false]], true, fun x Φ => Z20 x.1 x.2.1 x.2.2.1 fun y => Φ (y, ())⟩
def pl108 : List PE := [⟨[4, 1, 0, 1], [], [], ⟨[.int], [(0, .kp 0), (1, .kp 1), (2, .kp 2), (11, .kp 7), (12, .v .int)], [], [], []⟩, false⟩]
def ct43 : Ct DD := ⟨43, [22], [22], [[true]], false, fun x Φ => Z21 x.1 fun y => Φ (y, ())⟩
def pl43 : List PE := []
def tn109 : Tn DD := ⟨109, 3, [], fun xs Φ => Z22 xs Φ⟩
def ct110 : Ct DD := ⟨110, [22], [9], [[false]], true, fun x Φ => cut_text_W x.1 fun y => Φ (y, ())⟩
def tn111 : Tn DD := ⟨111, 22, [112], fun xs Φ => Z23 xs Φ⟩
def ct60 : Ct DD := ⟨60, [80, 29, 3], [29, 4], [[true], [false]], false, fun x Φ => Z28 x.1 x.2.1 x.2.2.1 fun y => Φ (y.1, y.2, ())⟩
def pl60 : List PE := [⟨[4, 1, 0, 1, 1, 1], [], [], ⟨[.int, .mp 9 4, .lst 22], [(0, .kp 1), (2, .kp 3), (8, .kp 7), (9, .own 0), (18, .kp 9), (19, .kp 10), (20, .v .int)], [], [22], [(0, .map 9 4 false false)]⟩, false⟩, ⟨[4, 1, 1, 1, 4, 0, 1, 1, 5, 4, 1, 0, 1, 1, 1], [13], [13], ⟨[.int, .mp 9 4, .lst 22], [(0, .kp 1), (2, .kp 3), (8, .kp 7), (9, .own 0), (11, .kp 19), (12, .kp 25), (18, .kp 9), (19, .kp 10), (20, .kp 15), (33, .kp 29), (34, .v .int)], [], [22], [(0, .map 9 4 false false)]⟩, false⟩, ⟨[1, 1, 1, 1, 4, 0, 1, 1, 5, 4, 1, 1, 1, 4, 0, 1, 1, 5, 4, 1, 0, 1, 1, 1], [39], [38, 39], ⟨[.mp 9 4, .lst 22], [(0, .kp 1), (2, .kp 3), (8, .kp 7), (9, .own 0), (11, .kp 19), (12, .kp 25), (18, .kp 9), (19, .kp 10), (20, .kp 15), (33, .kp 29), (34, .kp 33)], [], [22], [(0, .map 9 4 false false)]⟩, true⟩, ⟨[0, 1, 4, 0, 1, 1, 5, 4, 1, 1, 1, 4, 0, 1, 1, 5, 4, 1, 0, 1, 1, 1], [], [0, 31], ⟨[.bool], [(0, .kp 1), (2, .kp 3), (8, .kp 7), (9, .kp 32), (11, .kp 19), (12, .kp 25), (14, .kp 36), (18, .kp 9), (19, .kp 10), (20, .kp 15), (33, .kp 29), (34, .kp 33), (47, .v .bool)], [], [], []⟩, true⟩]
def ct14 : Ct DD := ⟨14, [26, 3], [29, 30], [[true], [false]], false, fun x Φ => cut_All_W x.1 x.2.1 fun y => Φ (y.1, y.2, ())⟩
def pl14 : List PE := [⟨[4, 1, 0, 1, 1, 1, 1, 1], [23], [23, 22, 1, 0], ⟨[], [(1, .kp 3), (6, .kp 12), (8, .kp 25), (9, .kp 28)], [], [], []⟩, false⟩, ⟨[0, 1, 1, 1], [], [1, 0], ⟨[.bool], [(1, .kp 3), (6, .kp 12), (25, .v .bool)], [], [], []⟩, false⟩, ⟨[4, 1, 0, 1, 1, 1, 1, 1, 11, 0, 1], [], [5, 3, 1, 0], ⟨[.int, .lst 3, .lst 3], [(5, .kp 24), (48, .kp 52), (49, .kp 53), (50, .v .int)], [(2, 100, [.kp 55,.kp 56,.own 0,.own 1])], [3, 3], []⟩, false⟩, ⟨[4, 1, 0, 1, 1, 1, 1, 1], [2, 65, 66], [81, 2, 65, 66, 5, 3, 1, 0], ⟨[.lst 22, .lst 22], [(1, .kp 68), (6, .kp 24), (8, .own 0), (9, .own 1)], [], [22, 22], []⟩, false⟩, ⟨[0, 1, 1, 1], [], [2, 65, 66, 5, 3, 1, 0], ⟨[.bool], [(1, .kp 68), (6, .kp 24), (25, .v .bool)], [], [], []⟩, false⟩]
def ct68 : Ct DD := ⟨68, [94], [94], [[true]], false, fun x Φ => Z29 x.1 fun y => Φ (y, ())⟩
def pl68 : List PE := []
def it121 : It DD := ⟨121, [94], [3], fun x l => cut_marks_members_1_I x.1 l⟩
def pl121 : List PE := [⟨[4, 1], [], [], ⟨[.int], [(0, .kp 0), (5, .kp 3), (6, .kp 4), (7, .v .int)], [], [], []⟩, false⟩]
def ct71 : Ct DD := ⟨71, [94], [22], [[true]], false, fun x Φ => Z32 x.1 fun y => Φ (y, ())⟩
def pl71 : List PE := [⟨[4, 1, 0, 1, 11, 0, 1, 12, 0, 1], [0], [0], ⟨[.lst 3], [], [(1, 22, [.own 0])], [3], []⟩, false⟩]
def ct17 : Ct DD := ⟨17, [26, 22], [22, 30], [[true], [false]], false, fun x Φ => cut_Least_W x.1 x.2.1 fun y => Φ (y.1, y.2, ())⟩
def pl17 : List PE := [⟨[4, 1, 0, 1, 1, 1, 1, 13, 0, 1], [], [4, 3, 2, 1, 0], ⟨[], [(1, .kp 6), (9, .kp 17), (11, .kp 21), (24, .kp 22), (25, .kp 23), (26, .kp 24)], [], [], []⟩, false⟩, ⟨[4, 1, 0, 1, 1, 1, 1, 1, 11, 0, 1, 13, 0, 1], [], [7, 5, 3, 2, 1, 0], ⟨[.int, .lst 3, .lst 3], [(5, .kp 26), (48, .kp 54), (49, .kp 55), (50, .v .int)], [(4, 100, [.kp 57,.kp 58,.own 0,.own 1])], [3, 3], []⟩, false⟩, ⟨[4, 1, 0, 1, 1, 1, 1, 13, 0, 1], [4, 70, 71], [72, 4, 70, 71, 7, 5, 3, 2, 1, 0], ⟨[.int, .lst 94], [(1, .kp 74), (9, .kp 84), (11, .own 0), (24, .kp 89), (25, .kp 90), (26, .v .int)], [], [94], []⟩, false⟩, ⟨[4, 1, 0, 1, 1, 1, 1], [97], [97, 94, 93, 72, 4, 70, 71, 7, 5, 3, 2, 1, 0], ⟨[.lst 4], [], [(96, 94, [.own 0])], [4], []⟩, false⟩, ⟨[4, 1, 4, 7, 4, 1, 0, 1, 1, 1, 1], [], [], ⟨[.int, .lst 4], [(6, .kp 110), (9, .kp 119), (10, .kp 128), (35, .kp 57), (36, .v .int)], [(96, 94, [.own 0])], [4], []⟩, false⟩]
def ct19 : Ct DD := ⟨19, [26, 22], [22, 30], [[true], [false]], false, fun x Φ => Z38 x.1 x.2.1 fun y => Φ (y.1, y.2, ())⟩
def pl19 : List PE := [⟨[4, 1, 0, 1, 1, 1, 1, 13, 0, 1], [], [4, 3, 2, 1, 0], ⟨[], [(1, .kp 6), (9, .kp 17), (11, .kp 21), (24, .kp 22), (25, .kp 23), (26, .kp 24)], [], [], []⟩, false⟩, ⟨[4, 1, 0, 1, 1, 1, 1, 1, 11, 0, 1, 13, 0, 1], [], [7, 5, 3, 2, 1, 0], ⟨[.int, .lst 3, .lst 3], [(5, .kp 26), (48, .kp 54), (49, .kp 55), (50, .v .int)], [(4, 100, [.kp 57,.kp 58,.own 0,.own 1])], [3, 3], []⟩, false⟩, ⟨[4, 1, 0, 1, 1, 1, 1, 13, 0, 1], [4, 70, 71], [72, 4, 70, 71, 7, 5, 3, 2, 1, 0], ⟨[.int, .lst 94], [(1, .kp 74), (9, .kp 84), (11, .own 0), (24, .kp 89), (25, .kp 90), (26, .v .int)], [], [94], []⟩, false⟩, ⟨[4, 1, 0, 1, 1, 1, 1], [98], [98, 95, 94, 93, 72, 4, 70, 71, 7, 5, 3, 2, 1, 0], ⟨[.lst 4], [], [(97, 94, [.own 0])], [4], []⟩, false⟩, ⟨[4, 1, 4, 7, 4, 1, 0, 1, 1, 1, 1], [], [], ⟨[.int, .lst 4], [(6, .kp 111), (7, .kp 112), (9, .kp 120), (10, .kp 130), (35, .kp 57), (36, .v .int)], [(97, 94, [.own 0])], [4], []⟩, false⟩]
def ct23 : Ct DD := ⟨23, [22, 22], [4], [[false]], true, fun x Φ => Z40 x.1 x.2.1 fun y => Φ (y, ())⟩
def pl23 : List PE := [⟨[4, 1, 0, 1, 1], [], [], ⟨[.int], [(0, .kp 0), (1, .kp 1), (12, .kp 9), (13, .v .int)], [], [], []⟩, false⟩]
def ct33 : Ct DD := ⟨33, [3], [22], [[true]], false, fun x Φ => ref15_First_W x.1 fun y => Φ (y, ())⟩
def pl33 : List PE := [⟨[4, 1, 0, 1, 1], [], [], ⟨[.int, .lst 3], [(0, .kp 0), (3, .own 0), (4, .v .int)], [], [3], []⟩, false⟩]
def ct128 : Ct DD := ⟨128, [22, 3], [3], [[false]], true, fun x Φ => Z43 x.1 x.2.1 fun y => Φ (y, ())⟩
def pl128 : List PE := [⟨[4, 1, 0, 1], [], [], ⟨[.int], [(0, .kp 0), (1, .kp 1), (7, .kp 4), (8, .v .int)], [], [], []⟩, false⟩]
def ct80 : Ct DD := ⟨80, [22, 3], [4], [[false]], true, fun x Φ => Z44 x.1 x.2.1 fun y => Φ (y, ())⟩
def pl80 : List PE := []
def ct84 : Ct DD := ⟨84, [109, 22], [4], [[false]], true, fun x Φ => Z46 x.1 x.2.1 fun y => Φ (y, ())⟩
def pl84 : List PE := [⟨[4, 1, 0, 1], [], [0], ⟨[.int], [(1, .kp 2), (2, .kp 3), (7, .kp 5), (8, .kp 6), (9, .v .int)], [], [], []⟩, false⟩]
def it145 : It DD := ⟨145, [22, 109], [3, 119], fun x l => history_checked_members_1_I x.1 x.2.1 l⟩
def pl145 : List PE := [⟨[4, 1], [], [], ⟨[.int], [(0, .kp 0), (2, .kp 4), (6, .kp 5), (7, .kp 6), (8, .v .int)], [], [], []⟩, false⟩]
def ct87 : Ct DD := ⟨87, [71], [4], [[false]], true, fun x Φ => ref07_Few_W x.1 fun y => Φ (y, ())⟩
def pl87 : List PE := [⟨[4, 1, 0, 1, 1], [], [], ⟨[.int], [(0, .kp 0), (3, .v .int)], [], [], []⟩, false⟩]
def ct49 : Ct DD := ⟨49, [26, 71], [4], [[false]], true, fun x Φ => law18_few_W x.1 x.2.1 fun y => Φ (y, ())⟩
def pl49 : List PE := []
def ct129 : Ct DD := ⟨129, [157], [117], [[true]], false, fun x Φ => Z49 x.1 fun y => Φ (y, ())⟩
def pl129 : List PE := [⟨[4, 1, 0, 1, 1], [], [], ⟨[.int, .lst 123], [(3, .own 0), (6, .kp 3), (7, .kp 4), (8, .v .int)], [], [123], []⟩, false⟩]
def ct130 : Ct DD := ⟨130, [3, 3], [58], [[false, false]], true, fun x Φ => Z50 x.1 x.2.1 fun y => Φ (y, ())⟩
def pl130 : List PE := []
def ct88 : Ct DD := ⟨88, [], [26], [[true, true, true]], false, fun _ Φ => Z51 fun y => Φ (y, ())⟩
def pl88 : List PE := []
def ct89 : Ct DD := ⟨89, [5, 5, 5], [71], [[true]], false, fun x Φ => law18_of_W x.1 x.2.1 x.2.2.1 fun y => Φ (y, ())⟩
def pl89 : List PE := []
def ct135 : Ct DD := ⟨135, [117, 3], [4], [[false]], true, fun x Φ => Z52 x.1 x.2.1 fun y => Φ (y, ())⟩
def pl135 : List PE := []
def ct138 : Ct DD := ⟨138, [172, 123], [119], [[false, false, true]], false, fun x Φ => Z53 x.1 x.2.1 fun y => Φ (y, ())⟩
def pl138 : List PE := []
def ct163 : Ct DD := ⟨163, [117], [117], [[true]], false, fun x Φ => Z54 x.1 fun y => Φ (y, ())⟩
def pl163 : List PE := []
def ct99 : Ct DD := ⟨99, [71, 23], [71, 3, 30], [[true], [false], [false]], false, fun x Φ => image_Apply_W x.1 x.2.1 fun y => Φ (y.1, y.2.1, y.2.2, ())⟩
def ct53 : Ct DD := ⟨53, [26, 22], [71, 30], [[true], [false]], false, fun x Φ => Z60 x.1 x.2.1 fun y => Φ (y.1, y.2, ())⟩
def pl53 : List PE := [⟨[4, 1, 0, 1, 1, 1, 1, 1, 1], [7, 6, 1, 2], [7, 6, 4, 3, 1, 2, 0], ⟨[.lst 119], [], [(5, 23, [.own 0])], [119], []⟩, false⟩]
def ct51 : Ct DD := ⟨51, [26, 71], [22, 4, 30], [[false], [false], [false]], false, fun x Φ => Z75 x.1 x.2.1 fun y => Φ (y.1, y.2.1, y.2.2, ())⟩
def pl51 : List PE := [⟨[4, 1, 0, 1, 1, 11, 0, 1, 1, 1, 1, 12, 0, 1], [], [25, 23, 1, 0], ⟨[.int, .mp 175 3], [(4, .kp 31), (10, .kp 33), (11, .kp 34), (12, .v .int)], [], [], [(24, .map 175 3 true false)]⟩, false⟩, ⟨[1, 4, 0, 1, 1, 5, 4, 1, 0, 1, 1, 11, 0, 1, 1, 1, 1, 12, 0, 1], [], [41, 40], ⟨[.bool, .mp 175 3], [(4, .kp 31), (7, .v .bool), (10, .kp 33), (11, .kp 34), (12, .kp 42)], [], [], [(24, .map 175 3 true false)]⟩, true⟩, ⟨[4, 1, 0, 1, 12, 0, 1, 4, 0, 1, 1, 5, 4, 1, 0, 1, 1, 11, 0, 1, 1, 1, 1, 12, 0, 1], [], [53], ⟨[.int, .mp 175 3], [(1, .kp 55), (2, .kp 56), (8, .kp 59), (9, .kp 60), (10, .v .int)], [], [], [(24, .map 175 3 true false)]⟩, false⟩, ⟨[0, 1, 1, 1, 1], [], [40, 24, 25, 23, 1, 0], ⟨[.bool], [(8, .kp 62), (9, .kp 63), (32, .v .bool)], [], [], []⟩, true⟩, ⟨[1, 1, 1], [], [40, 24, 25, 23, 1, 0], ⟨[.int, .lst 3, .bool], [(8, .v .int), (9, .v (.lst 3)), (11, .v .bool)], [], [], []⟩, false⟩, ⟨[4, 1, 0, 1, 1, 1, 1, 1, 1, 1, 11, 0, 1, 1, 1], [], [65, 64, 66, 86, 67, 63, 62], ⟨[.int, .lst 3], [(1, .kp 68), (3, .kp 70), (6, .kp 73), (7, .kp 74), (8, .kp 76), (9, .own 0), (28, .kp 92), (29, .v .int)], [], [3], []⟩, false⟩, ⟨[1, 1, 1, 1, 1, 1, 1, 1, 1, 1, 1, 1, 11, 0, 1, 1, 1], [], [100, 99, 98, 66, 67, 63, 62], ⟨[.bool, .int, .int, .lst 123], [(3, .kp 70), (6, .kp 73), (7, .kp 74), (11, .kp 112)], [(65, 4, [.v .bool]), (64, 119, [.v .int,.v .int,.own 0])], [123], []⟩, true⟩, ⟨[4, 1, 12, 0, 1, 1, 1, 1, 1, 1, 1, 1, 1, 1, 1, 1, 11, 0, 1, 1, 1], [], [86], ⟨[.int], [(1, .kp 127), (8, .kp 124), (9, .kp 128), (10, .v .int)], [(65, 4, [.kp 94]), (64, 119, [.kp 95,.kp 96,.kp 97])], [], []⟩, false⟩, ⟨[4, 1, 1, 4, 0, 1, 1, 5, 4, 1, 12, 0, 1, 1, 1, 1, 1, 1, 1, 1, 1, 1, 1, 1, 11, 0, 1, 1, 1], [], [], ⟨[.int], [(1, .kp 127), (4, .kp 135), (8, .kp 124), (9, .kp 128), (10, .kp 130), (15, .kp 137), (16, .kp 138), (17, .v .int)], [(65, 4, [.kp 94]), (64, 119, [.kp 95,.kp 96,.kp 97])], [], []⟩, false⟩, ⟨[1, 1, 1, 1, 11, 0, 1, 1, 1], [], [67, 63, 62], ⟨[.bool, .int, .int, .mp 3 4, .lst 123], [(1, .kp 68), (3, .kp 70), (6, .kp 73), (7, .kp 74), (8, .kp 76)], [(65, 4, [.v .bool]), (64, 119, [.v .int,.v .int,.own 0])], [123], [(66, .map 3 4 false false)]⟩, false⟩, ⟨[4, 1, 15, 0, 1, 1, 1, 1, 11, 0, 1, 1, 1], [], [], ⟨[.int, .mp 3 4], [(1, .kp 86), (8, .kp 60), (9, .kp 87), (10, .v .int)], [(65, 4, [.kp 78]), (64, 119, [.kp 79,.kp 80,.kp 81])], [], [(66, .map 3 4 false false)]⟩, false⟩, ⟨[4, 1, 1, 4, 0, 1, 1, 5, 4, 1, 15, 0, 1, 1, 1, 1, 11, 0, 1, 1, 1], [], [], ⟨[.int, .mp 3 4], [(1, .kp 86), (4, .kp 94), (8, .kp 60), (9, .kp 87), (10, .kp 89), (15, .kp 96), (16, .kp 97), (17, .v .int)], [(65, 4, [.kp 78]), (64, 119, [.kp 79,.kp 80,.kp 81])], [], [(66, .map 3 4 false false)]⟩, false⟩, ⟨[0, 1, 1, 1, 12, 0, 1], [], [1, 0], ⟨[.bool], [(1, .kp 3), (2, .kp 4), (24, .v .bool)], [], [], []⟩, true⟩, ⟨[4, 1, 0, 1, 1, 13, 0, 0, 1, 1, 1, 12, 0, 1], [], [], ⟨[.int], [(1, .kp 17), (2, .kp 23), (15, .kp 3), (16, .kp 28), (17, .v .int)], [], [], []⟩, false⟩]
def ct52 : Ct DD := ⟨52, [26, 71], [22, 4, 30], [[true], [false], [false]], false, fun x Φ => Z93 x.1 x.2.1 fun y => Φ (y.1, y.2.1, y.2.2, ())⟩
def pl52 : List PE := [⟨[4, 1, 0, 1, 1, 11, 0, 1, 1, 1, 1, 12, 0, 1], [], [25, 23, 1, 0], ⟨[.int, .mp 175 3], [(4, .kp 31), (10, .kp 33), (11, .kp 34), (12, .v .int)], [], [], [(24, .map 175 3 true false)]⟩, false⟩, ⟨[1, 4, 0, 1, 1, 5, 4, 1, 0, 1, 1, 11, 0, 1, 1, 1, 1, 12, 0, 1], [], [41, 40], ⟨[.bool, .mp 175 3], [(4, .kp 31), (7, .v .bool), (10, .kp 33), (11, .kp 34), (12, .kp 42)], [], [], [(24, .map 175 3 true false)]⟩, true⟩, ⟨[4, 1, 0, 1, 12, 0, 1, 4, 0, 1, 1, 5, 4, 1, 0, 1, 1, 11, 0, 1, 1, 1, 1, 12, 0, 1], [], [53], ⟨[.int, .mp 175 3], [(1, .kp 55), (2, .kp 56), (8, .kp 59), (9, .kp 60), (10, .v .int)], [], [], [(24, .map 175 3 true false)]⟩, false⟩, ⟨[4, 1, 0, 1, 1, 1, 1, 1], [], [40, 24, 25, 23, 1, 0], ⟨[.int, .lst 3], [(2, .kp 43), (7, .kp 53), (13, .own 0), (40, .kp 67), (41, .v .int)], [], [3], []⟩, false⟩, ⟨[1, 4, 0, 1, 1, 5, 4, 1, 0, 1, 1, 1, 1, 1], [], [69], ⟨[.bool], [(2, .kp 43), (7, .kp 53), (13, .kp 70), (14, .kp 74), (40, .kp 67), (41, .kp 71), (46, .v .bool)], [], [], []⟩, true⟩, ⟨[0, 1, 12, 0, 1, 4, 0, 1, 1, 5, 4, 1, 0, 1, 1, 1, 1, 1], [], [], ⟨[], [], [], [9], []⟩, false⟩, ⟨[4, 1, 0, 1, 19, 0, 1, 12, 0, 1, 4, 0, 1, 1, 5, 4, 1, 0, 1, 1, 1, 1, 1], [], [82, 76, 75], ⟨[.int], [(1, .kp 84), (2, .kp 85), (8, .kp 88), (9, .kp 89), (10, .v .int)], [], [], []⟩, false⟩, ⟨[1, 0, 1, 1, 1], [], [40, 24, 25, 23, 1, 0], ⟨[.bool], [(2, .kp 43), (7, .kp 53), (12, .kp 63), (36, .v .bool)], [], [], []⟩, true⟩, ⟨[0, 1, 1, 1], [], [40, 24, 25, 23, 1, 0], ⟨[.bool, .int], [(2, .kp 43), (7, .kp 53), (11, .v .bool), (12, .v .int)], [], [], []⟩, false⟩, ⟨[4, 1, 0, 1, 1, 1, 1, 1, 1, 1, 11, 0, 0, 1, 1, 1], [], [65, 64, 66, 86, 67, 63, 62], ⟨[.int, .lst 3], [(1, .kp 68), (3, .kp 70), (6, .kp 73), (7, .kp 74), (8, .kp 76), (9, .own 0), (28, .kp 92), (29, .v .int)], [], [3], []⟩, false⟩, ⟨[1, 1, 1, 1, 1, 1, 1, 1, 1, 1, 1, 1, 11, 0, 0, 1, 1, 1], [], [100, 99, 98, 66, 67, 63, 62], ⟨[.bool, .int, .int, .lst 123], [(3, .kp 70), (6, .kp 73), (7, .kp 74), (11, .kp 112)], [(65, 4, [.v .bool]), (64, 119, [.v .int,.v .int,.own 0])], [123], []⟩, true⟩, ⟨[4, 1, 12, 0, 1, 1, 1, 1, 1, 1, 1, 1, 1, 1, 1, 1, 11, 0, 0, 1, 1, 1], [], [86], ⟨[.int], [(1, .kp 127), (8, .kp 124), (9, .kp 128), (10, .v .int)], [(65, 4, [.kp 94]), (64, 119, [.kp 95,.kp 96,.kp 97])], [], []⟩, false⟩, ⟨[4, 1, 1, 4, 0, 1, 1, 5, 4, 1, 12, 0, 1, 1, 1, 1, 1, 1, 1, 1, 1, 1, 1, 1, 11, 0, 0, 1, 1, 1], [], [], ⟨[.int], [(1, .kp 127), (4, .kp 135), (8, .kp 124), (9, .kp 128), (10, .kp 130), (15, .kp 137), (16, .kp 138), (17, .v .int)], [(65, 4, [.kp 94]), (64, 119, [.kp 95,.kp 96,.kp 97])], [], []⟩, false⟩, ⟨[1, 1, 1, 1, 11, 0, 0, 1, 1, 1], [], [67, 63, 62], ⟨[.bool, .int, .int, .mp 3 4, .lst 123], [(1, .kp 68), (3, .kp 70), (6, .kp 73), (7, .kp 74), (8, .kp 76)], [(65, 4, [.v .bool]), (64, 119, [.v .int,.v .int,.own 0])], [123], [(66, .map 3 4 false false)]⟩, false⟩, ⟨[4, 1, 15, 0, 1, 1, 1, 1, 11, 0, 0, 1, 1, 1], [], [], ⟨[.int, .mp 3 4], [(1, .kp 86), (8, .kp 60), (9, .kp 87), (10, .v .int)], [(65, 4, [.kp 78]), (64, 119, [.kp 79,.kp 80,.kp 81])], [], [(66, .map 3 4 false false)]⟩, false⟩, ⟨[4, 1, 1, 4, 0, 1, 1, 5, 4, 1, 15, 0, 1, 1, 1, 1, 11, 0, 0, 1, 1, 1], [], [], ⟨[.int, .mp 3 4], [(1, .kp 86), (4, .kp 94), (8, .kp 60), (9, .kp 87), (10, .kp 89), (15, .kp 96), (16, .kp 97), (17, .v .int)], [(65, 4, [.kp 78]), (64, 119, [.kp 79,.kp 80,.kp 81])], [], [(66, .map 3 4 false false)]⟩, false⟩, ⟨[0, 1, 1, 1, 12, 0, 1], [], [1, 0], ⟨[.bool], [(1, .kp 3), (2, .kp 4), (24, .v .bool)], [], [], []⟩, true⟩, ⟨[4, 1, 0, 1, 1, 13, 0, 0, 1, 1, 1, 12, 0, 1], [], [], ⟨[.int], [(1, .kp 17), (2, .kp 23), (15, .kp 3), (16, .kp 28), (17, .v .int)], [], [], []⟩, false⟩]
def ct90 : Ct DD := ⟨90, [26, 71], [119, 4, 30], [[false, false, true], [false], [false]], false, fun x Φ => Z106 x.1 x.2.1 fun y => Φ (y.1, y.2.1, y.2.2, ())⟩
def pl90 : List PE := [⟨[4, 1, 0, 1, 1, 11, 0, 1, 1, 1, 1, 12, 0, 1], [], [29, 27, 2, 1, 0], ⟨[.int, .mp 175 3], [(4, .kp 35), (10, .kp 37), (11, .kp 38), (12, .v .int)], [], [], [(28, .map 175 3 true false)]⟩, false⟩, ⟨[1, 4, 0, 1, 1, 5, 4, 1, 0, 1, 1, 11, 0, 1, 1, 1, 1, 12, 0, 1], [], [45, 44], ⟨[.bool, .mp 175 3], [(4, .kp 35), (7, .v .bool), (10, .kp 37), (11, .kp 38), (12, .kp 46)], [], [], [(28, .map 175 3 true false)]⟩, true⟩, ⟨[4, 1, 0, 1, 12, 0, 1, 4, 0, 1, 1, 5, 4, 1, 0, 1, 1, 11, 0, 1, 1, 1, 1, 12, 0, 1], [], [57], ⟨[.int, .mp 175 3], [(1, .kp 59), (2, .kp 60), (8, .kp 63), (9, .kp 64), (10, .v .int)], [], [], [(28, .map 175 3 true false)]⟩, false⟩, ⟨[4, 1, 0, 1, 1, 1, 1, 1, 1, 1, 11, 0, 1, 1, 1], [], [48, 47, 49, 75, 50, 46, 45, 44, 28, 29, 27, 2, 1, 0], ⟨[.int, .lst 3], [(1, .kp 52), (3, .kp 54), (6, .kp 57), (7, .kp 58), (8, .kp 60), (9, .own 0), (28, .kp 81), (29, .v .int)], [], [3], []⟩, false⟩, ⟨[1, 1, 1, 1, 1, 1, 1, 1, 1, 1, 1, 1, 11, 0, 1, 1, 1], [], [89, 88, 87, 49, 50, 46, 45, 44, 28, 29, 27, 2, 1, 0], ⟨[.bool, .int, .int, .lst 123], [(3, .kp 54), (6, .kp 57), (7, .kp 58), (11, .kp 101)], [(48, 4, [.v .bool]), (47, 119, [.v .int,.v .int,.own 0])], [123], []⟩, true⟩, ⟨[4, 1, 12, 0, 1, 1, 1, 1, 1, 1, 1, 1, 1, 1, 1, 1, 11, 0, 1, 1, 1], [], [75], ⟨[.int], [(1, .kp 116), (8, .kp 113), (9, .kp 117), (10, .v .int)], [(48, 4, [.kp 83]), (47, 119, [.kp 84,.kp 85,.kp 86])], [], []⟩, false⟩, ⟨[4, 1, 1, 4, 0, 1, 1, 5, 4, 1, 12, 0, 1, 1, 1, 1, 1, 1, 1, 1, 1, 1, 1, 1, 11, 0, 1, 1, 1], [], [], ⟨[.int], [(1, .kp 116), (4, .kp 124), (8, .kp 113), (9, .kp 117), (10, .kp 119), (15, .kp 126), (16, .kp 127), (17, .v .int)], [(48, 4, [.kp 83]), (47, 119, [.kp 84,.kp 85,.kp 86])], [], []⟩, false⟩, ⟨[1, 1, 1, 1, 11, 0, 1, 1, 1], [], [50, 46, 45, 44, 28, 29, 27, 2, 1, 0], ⟨[.bool, .int, .int, .mp 3 4, .lst 123], [(1, .kp 52), (3, .kp 54), (6, .kp 57), (7, .kp 58), (8, .kp 60)], [(48, 4, [.v .bool]), (47, 119, [.v .int,.v .int,.own 0])], [123], [(49, .map 3 4 false false)]⟩, false⟩, ⟨[4, 1, 15, 0, 1, 1, 1, 1, 11, 0, 1, 1, 1], [], [], ⟨[.int, .mp 3 4], [(1, .kp 75), (8, .kp 73), (9, .kp 76), (10, .v .int)], [(48, 4, [.kp 62]), (47, 119, [.kp 63,.kp 64,.kp 65])], [], [(49, .map 3 4 false false)]⟩, false⟩, ⟨[4, 1, 1, 4, 0, 1, 1, 5, 4, 1, 15, 0, 1, 1, 1, 1, 11, 0, 1, 1, 1], [], [], ⟨[.int, .mp 3 4], [(1, .kp 75), (4, .kp 83), (8, .kp 73), (9, .kp 76), (10, .kp 78), (15, .kp 85), (16, .kp 86), (17, .v .int)], [(48, 4, [.kp 62]), (47, 119, [.kp 63,.kp 64,.kp 65])], [], [(49, .map 3 4 false false)]⟩, false⟩, ⟨[0, 1, 1, 1, 12, 0, 1], [], [2, 1, 0], ⟨[.bool], [(1, .kp 4), (2, .kp 5), (24, .v .bool)], [], [], []⟩, true⟩, ⟨[4, 1, 0, 1, 1, 13, 0, 0, 1, 1, 1, 12, 0, 1], [], [], ⟨[.int], [(1, .kp 18), (2, .kp 27), (15, .kp 4), (16, .kp 32), (17, .v .int)], [], [], []⟩, false⟩]
def ct92 : Ct DD := ⟨92, [26], [4], [[false]], true, fun x Φ => Z110 x.1 fun y => Φ (y, ())⟩
def pl92 : List PE := [⟨[4, 1, 0, 1, 1, 11, 0, 1, 1], [], [3, 1, 0], ⟨[.int, .mp 175 3], [(4, .kp 9), (10, .kp 11), (11, .kp 12), (12, .v .int)], [], [], [(2, .map 175 3 true false)]⟩, false⟩, ⟨[1, 4, 0, 1, 1, 5, 4, 1, 0, 1, 1, 11, 0, 1, 1], [], [22, 21], ⟨[.bool, .mp 175 3], [(4, .kp 9), (7, .v .bool), (10, .kp 11), (11, .kp 12), (12, .kp 23)], [], [], [(2, .map 175 3 true false)]⟩, true⟩, ⟨[4, 1, 0, 1, 12, 0, 1, 4, 0, 1, 1, 5, 4, 1, 0, 1, 1, 11, 0, 1, 1], [], [34], ⟨[.int, .mp 175 3], [(1, .kp 36), (2, .kp 37), (8, .kp 40), (9, .kp 41), (10, .v .int)], [], [], [(2, .map 175 3 true false)]⟩, false⟩]
def ct91 : Ct DD := ⟨91, [3, 5], [23], [[true]], false, fun x Φ => Z111 x.1 x.2.1 fun y => Φ (y, ())⟩
def pl91 : List PE := []
def ct132 : Ct DD := ⟨132, [117, 117], [4], [[false]], true, fun x Φ => Z113 x.1 x.2.1 fun y => Φ (y, ())⟩
def pl132 : List PE := [⟨[4, 1, 0, 1, 1], [], [], ⟨[.int], [(0, .kp 0), (1, .kp 1), (5, .v .int)], [], [], []⟩, false⟩]
def ct93 : Ct DD := ⟨93, [23, 23], [4], [[false]], true, fun x Φ => Z115 x.1 x.2.1 fun y => Φ (y, ())⟩
def pl93 : List PE := [⟨[4, 1, 0, 1, 1], [], [], ⟨[.int], [(0, .kp 0), (1, .kp 1), (5, .v .int)], [], [], []⟩, false⟩]
def ct50 : Ct DD := ⟨50, [], [4], [[false]], true, fun _ Φ => law18_awake_W fun y => Φ (y, ())⟩
def pl50 : List PE := [⟨[1, 1], [0, 1, 2], [3, 0, 1, 2], ⟨[], [(1, .kp 6)], [], [], []⟩, true⟩, ⟨[4, 1, 0, 1, 1], [], [14, 13, 12, 11, 10], ⟨[.int], [(1, .kp 6), (28, .kp 19), (29, .kp 20), (30, .v .int)], [], [], []⟩, false⟩, ⟨[1, 5, 4, 1, 0, 1, 1], [], [], ⟨[], [(1, .kp 6), (28, .kp 19), (29, .kp 20), (30, .kp 22)], [], [], []⟩, true⟩]
def ct101 : Ct DD := ⟨101, [117, 117], [4], [[false]], true, fun x Φ => Z120 x.1 x.2.1 fun y => Φ (y, ())⟩
def pl101 : List PE := [⟨[4, 1, 0, 1, 1], [], [], ⟨[.int], [(0, .kp 0), (1, .kp 1), (12, .kp 9), (13, .v .int)], [], [], []⟩, false⟩]
def ct54 : Ct DD := ⟨54, [71, 71], [4], [[false]], true, fun x Φ => image_Same_W x.1 x.2.1 fun y => Φ (y, ())⟩
def pl54 : List PE := [⟨[4, 1, 0, 1, 1, 12, 0, 1], [], [], ⟨[.int], [(1, .kp 1), (2, .kp 2), (15, .kp 9), (16, .kp 10), (17, .v .int)], [], [], []⟩, false⟩]
def ct55 : Ct DD := ⟨55, [22, 22], [4], [[false]], true, fun x Φ => Z122 x.1 x.2.1 fun y => Φ (y, ())⟩
def pl55 : List PE := [⟨[4, 1, 0, 1, 12, 0, 1, 12, 0, 1], [], [0], ⟨[.int], [(0, .kp 1), (1, .kp 2), (7, .kp 5), (8, .v .int)], [], [], []⟩, false⟩]
def ct11 : Ct DD := ⟨11, [26, 71], [4], [[false]], true, fun x Φ => Z127 x.1 x.2.1 fun y => Φ (y, ())⟩
def pl11 : List PE := [⟨[4, 1, 0, 1, 1, 1, 1, 1, 1, 1], [8], [9, 8, 0], ⟨[.bool, .bool, .bool, .int], [(1, .kp 2), (2, .kp 3), (5, .kp 17), (6, .kp 18), (8, .kp 26), (9, .kp 27), (13, .v .bool), (14, .v .bool), (15, .v .bool), (74, .kp 34), (75, .kp 40), (76, .v .int)], [], [], []⟩, false⟩, ⟨[1, 1, 1, 1, 1, 4, 0, 1, 1, 5, 4, 1, 0, 1, 1, 1, 1, 1, 1, 1], [], [42], ⟨[.bool, .bool], [(1, .kp 2), (2, .kp 3), (5, .kp 17), (6, .kp 18), (8, .kp 26), (9, .kp 27), (13, .kp 43), (14, .v .bool), (15, .v .bool), (17, .kp 50), (74, .kp 34), (75, .kp 40), (76, .kp 46)], [], [], []⟩, true⟩, ⟨[0, 1, 1, 1, 1, 1], [], [9, 8, 0], ⟨[.bool], [(1, .kp 2), (2, .kp 3), (5, .kp 17), (6, .kp 18), (7, .kp 19), (8, .kp 26), (9, .kp 27), (10, .kp 28), (11, .kp 34), (59, .v .bool)], [], [], []⟩, true⟩, ⟨[0, 1], [], [0], ⟨[.bool], [(1, .kp 2), (2, .kp 3), (29, .v .bool)], [], [], []⟩, true⟩]
theorem eq52 (x : TupD DD ct52.ps) (Φ : TupD DD ct52.rs → Prop) : ct52.W x Φ = topF ⟨Tryz.prog, tab, [ct17, ct19, ct32, ct53, ct133, ct135, ct138], pl52, [], gh, []⟩ 9 ct52.f ct52.ps ct52.rs ct52.own x Φ := by kernel_rfl
theorem eq19 (x : TupD DD ct19.ps) (Φ : TupD DD ct19.rs → Prop) : ct19.W x Φ = topF ⟨Tryz.prog, tab, [ct32, ct68, ct70, ct71, ct106, ct107], pl19, [it121], gh, []⟩ 9 ct19.f ct19.ps ct19.rs ct19.own x Φ := by kernel_rfl
theorem eq60 (x : TupD DD ct60.ps) (Φ : TupD DD ct60.rs → Prop) : ct60.W x Φ = topF ⟨Tryz.prog, tab, [ct43, ct107, ct108, ct110], pl60, [], gh, [tn109, tn111]⟩ 9 ct60.f ct60.ps ct60.rs ct60.own x Φ := by kernel_rfl
theorem eq106 (x : TupD DD ct106.ps) (Φ : TupD DD ct106.rs → Prop) : ct106.W x Φ = topF ⟨Tryz.prog, tab, [ct148], pl106, [], gh, []⟩ 9 ct106.f ct106.ps ct106.rs ct106.own x Φ := by kernel_rfl
theorem eq147 (x : TupD DD ct147.ps) (Φ : TupD DD ct147.rs → Prop) : ct147.W x Φ = topF ⟨Tryz.prog, tab, [], pl147, [], gh, []⟩ 9 ct147.f ct147.ps ct147.rs ct147.own x Φ := by kernel_rfl
theorem eq54 (x : TupD DD ct54.ps) (Φ : TupD DD ct54.rs → Prop) : ct54.W x Φ = topF ⟨Tryz.prog, tab, [ct101], pl54, [], gh, []⟩ 9 ct54.f ct54.ps ct54.rs ct54.own x Φ := by kernel_rfl
theorem eq132 (x : TupD DD ct132.ps) (Φ : TupD DD ct132.rs → Prop) : ct132.W x Φ = topF ⟨Tryz.prog, tab, [], pl132, [], gh, []⟩ 9 ct132.f ct132.ps ct132.rs ct132.own x Φ := by kernel_rfl
theorem eq87 (x : TupD DD ct87.ps) (Φ : TupD DD ct87.rs → Prop) : ct87.W x Φ = topF ⟨Tryz.prog, tab, [], pl87, [], gh, []⟩ 9 ct87.f ct87.ps ct87.rs ct87.own x Φ := by kernel_rfl
theorem eq128 (x : TupD DD ct128.ps) (Φ : TupD DD ct128.rs → Prop) : ct128.W x Φ = topF ⟨Tryz.prog, tab, [], pl128, [], gh, []⟩ 9 ct128.f ct128.ps ct128.rs ct128.own x Φ := by kernel_rfl
theorem eq126 (x : TupD DD ct126.ps) (Φ : TupD DD ct126.rs → Prop) : ct126.W x Φ = topF ⟨Tryz.prog, tab, [ct133, ct147], pl126, [], gh, []⟩ 9 ct126.f ct126.ps ct126.rs ct126.own x Φ := by kernel_rfl
theorem eq91 (x : TupD DD ct91.ps) (Φ : TupD DD ct91.rs → Prop) : ct91.W x Φ = topF ⟨Tryz.prog, tab, [], pl91, [], gh, []⟩ 9 ct91.f ct91.ps ct91.rs ct91.own x Φ := by kernel_rfl
theorem eq80 (x : TupD DD ct80.ps) (Φ : TupD DD ct80.rs → Prop) : ct80.W x Φ = topF ⟨Tryz.prog, tab, [ct128], pl80, [], gh, []⟩ 9 ct80.f ct80.ps ct80.rs ct80.own x Φ := by kernel_rfl
theorem eq32 (x : TupD DD ct32.ps) (Φ : TupD DD ct32.rs → Prop) : ct32.W x Φ = topF ⟨Tryz.prog, tab, [ct79], pl32, [], gh, []⟩ 9 ct32.f ct32.ps ct32.rs ct32.own x Φ := by kernel_rfl
theorem eq51 (x : TupD DD ct51.ps) (Φ : TupD DD ct51.rs → Prop) : ct51.W x Φ = topF ⟨Tryz.prog, tab, [ct17, ct32, ct53, ct133, ct135, ct138], pl51, [], gh, []⟩ 9 ct51.f ct51.ps ct51.rs ct51.own x Φ := by kernel_rfl
theorem eq17 (x : TupD DD ct17.ps) (Φ : TupD DD ct17.rs → Prop) : ct17.W x Φ = topF ⟨Tryz.prog, tab, [ct32, ct68, ct70, ct71, ct106, ct107], pl17, [it121], gh, []⟩ 9 ct17.f ct17.ps ct17.rs ct17.own x Φ := by kernel_rfl
theorem eq107 (x : TupD DD ct107.ps) (Φ : TupD DD ct107.rs → Prop) : ct107.W x Φ = topF ⟨Tryz.prog, tab, [], pl107, [], gh, []⟩ 9 ct107.f ct107.ps ct107.rs ct107.own x Φ := by kernel_rfl
theorem eq84 (x : TupD DD ct84.ps) (Φ : TupD DD ct84.rs → Prop) : ct84.W x Φ = topF ⟨Tryz.prog, tab, [], pl84, [], gh, []⟩ 9 ct84.f ct84.ps ct84.rs ct84.own x Φ := by kernel_rfl
theorem eq97 (x : TupD DD ct97.ps) (Φ : TupD DD ct97.rs → Prop) : ct97.W x Φ = topF ⟨Tryz.prog, tab, [ct142, ct144], pl97, [], gh, []⟩ 9 ct97.f ct97.ps ct97.rs ct97.own x Φ := by kernel_rfl
theorem eq108 (x : TupD DD ct108.ps) (Φ : TupD DD ct108.rs → Prop) : ct108.W x Φ = topF ⟨Tryz.prog, tab, [ct70], pl108, [], gh, []⟩ 9 ct108.f ct108.ps ct108.rs ct108.own x Φ := by kernel_rfl
theorem eqi145 (x : TupD DD it145.cs) (l : List (TupD DD it145.ts)) : it145.W x l = iterF ⟨Tryz.prog, tab, [], pl145, [], gh, []⟩ it145.f it145.cs it145.ts x l := by kernel_rfl
theorem eq71 (x : TupD DD ct71.ps) (Φ : TupD DD ct71.rs → Prop) : ct71.W x Φ = topF ⟨Tryz.prog, tab, [], pl71, [it121], gh, []⟩ 9 ct71.f ct71.ps ct71.rs ct71.own x Φ := by kernel_rfl
theorem eq138 (x : TupD DD ct138.ps) (Φ : TupD DD ct138.rs → Prop) : ct138.W x Φ = topF ⟨Tryz.prog, tab, [], pl138, [], gh, []⟩ 9 ct138.f ct138.ps ct138.rs ct138.own x Φ := by kernel_rfl
theorem eq144 (x : TupD DD ct144.ps) (Φ : TupD DD ct144.rs → Prop) : ct144.W x Φ = topF ⟨Tryz.prog, tab, [], pl144, [], gh, []⟩ 9 ct144.f ct144.ps ct144.rs ct144.own x Φ := by kernel_rfl
theorem eq130 (x : TupD DD ct130.ps) (Φ : TupD DD ct130.rs → Prop) : ct130.W x Φ = topF ⟨Tryz.prog, tab, [], pl130, [], gh, []⟩ 9 ct130.f ct130.ps ct130.rs ct130.own x Φ := by kernel_rfl
theorem eq189 (x : TupD DD ct189.ps) (Φ : TupD DD ct189.rs → Prop) : ct189.W x Φ = topF ⟨Tryz.prog, tab, [], pl189, [], gh, []⟩ 9 ct189.f ct189.ps ct189.rs ct189.own x Φ := by kernel_rfl
theorem eq90 (x : TupD DD ct90.ps) (Φ : TupD DD ct90.rs → Prop) : ct90.W x Φ = topF ⟨Tryz.prog, tab, [ct17, ct32, ct53, ct133, ct135, ct138], pl90, [], gh, []⟩ 9 ct90.f ct90.ps ct90.rs ct90.own x Φ := by kernel_rfl
theorem eq79 (x : TupD DD ct79.ps) (Φ : TupD DD ct79.rs → Prop) : ct79.W x Φ = topF ⟨Tryz.prog, tab, [ct97, ct126], pl79, [], gh, []⟩ 9 ct79.f ct79.ps ct79.rs ct79.own x Φ := by kernel_rfl
theorem eq92 (x : TupD DD ct92.ps) (Φ : TupD DD ct92.rs → Prop) : ct92.W x Φ = topF ⟨Tryz.prog, tab, [ct32], pl92, [], gh, []⟩ 9 ct92.f ct92.ps ct92.rs ct92.own x Φ := by kernel_rfl
theorem eq93 (x : TupD DD ct93.ps) (Φ : TupD DD ct93.rs → Prop) : ct93.W x Φ = topF ⟨Tryz.prog, tab, [ct132], pl93, [], gh, []⟩ 9 ct93.f ct93.ps ct93.rs ct93.own x Φ := by kernel_rfl
theorem eq53 (x : TupD DD ct53.ps) (Φ : TupD DD ct53.rs → Prop) : ct53.W x Φ = topF ⟨Tryz.prog, tab, [ct79, ct84, ct97, ct99], pl53, [it145], gh, []⟩ 9 ct53.f ct53.ps ct53.rs ct53.own x Φ := by kernel_rfl
theorem eq142 (x : TupD DD ct142.ps) (Φ : TupD DD ct142.rs → Prop) : ct142.W x Φ = topF ⟨Tryz.prog, tab, [ct161], pl142, [], gh, []⟩ 9 ct142.f ct142.ps ct142.rs ct142.own x Φ := by kernel_rfl
theorem eq165 (x : TupD DD ct165.ps) (Φ : TupD DD ct165.rs → Prop) : ct165.W x Φ = topF ⟨Tryz.prog, tab, [], pl165, [], gh, []⟩ 9 ct165.f ct165.ps ct165.rs ct165.own x Φ := by kernel_rfl
theorem eq88 (x : TupD DD ct88.ps) (Φ : TupD DD ct88.rs → Prop) : ct88.W x Φ = topF ⟨Tryz.prog, tab, [ct129, ct130], pl88, [], gh, []⟩ 9 ct88.f ct88.ps ct88.rs ct88.own x Φ := by kernel_rfl
theorem eq129 (x : TupD DD ct129.ps) (Φ : TupD DD ct129.rs → Prop) : ct129.W x Φ = topF ⟨Tryz.prog, tab, [], pl129, [], gh, []⟩ 9 ct129.f ct129.ps ct129.rs ct129.own x Φ := by kernel_rfl
theorem eqi121 (x : TupD DD it121.cs) (l : List (TupD DD it121.ts)) : it121.W x l = iterF ⟨Tryz.prog, tab, [], pl121, [], gh, []⟩ it121.f it121.cs it121.ts x l := by kernel_rfl
theorem eq70 (x : TupD DD ct70.ps) (Φ : TupD DD ct70.rs → Prop) : ct70.W x Φ = topF ⟨Tryz.prog, tab, [], pl70, [], gh, []⟩ 9 ct70.f ct70.ps ct70.rs ct70.own x Φ := by kernel_rfl
theorem eq68 (x : TupD DD ct68.ps) (Φ : TupD DD ct68.rs → Prop) : ct68.W x Φ = topF ⟨Tryz.prog, tab, [], pl68, [], gh, []⟩ 9 ct68.f ct68.ps ct68.rs ct68.own x Φ := by kernel_rfl
theorem eq148 (x : TupD DD ct148.ps) (Φ : TupD DD ct148.rs → Prop) : ct148.W x Φ = topF ⟨Tryz.prog, tab, [ct165], pl148, [], gh, []⟩ 9 ct148.f ct148.ps ct148.rs ct148.own x Φ := by kernel_rfl
theorem eq133 (x : TupD DD ct133.ps) (Φ : TupD DD ct133.rs → Prop) : ct133.W x Φ = topF ⟨Tryz.prog, tab, [ct142, ct160], pl133, [], gh, []⟩ 9 ct133.f ct133.ps ct133.rs ct133.own x Φ := by kernel_rfl
theorem eq50 (x : TupD DD ct50.ps) (Φ : TupD DD ct50.rs → Prop) : ct50.W x Φ = topF ⟨Tryz.prog, tab, [ct23, ct33, ct51, ct52, ct88, ct89, ct90, ct91, ct92, ct93], pl50, [], gh, []⟩ 9 ct50.f ct50.ps ct50.rs ct50.own x Φ := by kernel_rfl
theorem eq11 (x : TupD DD ct11.ps) (Φ : TupD DD ct11.rs → Prop) : ct11.W x Φ = topF ⟨Tryz.prog, tab, [ct14, ct23, ct49, ct50, ct51, ct52, ct53, ct54, ct55], pl11, [], gh, []⟩ 9 ct11.f ct11.ps ct11.rs ct11.own x Φ := by kernel_rfl
theorem eq14 (x : TupD DD ct14.ps) (Φ : TupD DD ct14.rs → Prop) : ct14.W x Φ = topF ⟨Tryz.prog, tab, [ct32, ct60, ct106], pl14, [], gh, []⟩ 9 ct14.f ct14.ps ct14.rs ct14.own x Φ := by kernel_rfl
theorem eq56 (x : TupD DD ct56.ps) (Φ : TupD DD ct56.rs → Prop) : ct56.W x Φ = topF ⟨Tryz.prog, tab, [], pl56, [], gh, []⟩ 9 ct56.f ct56.ps ct56.rs ct56.own x Φ := by kernel_rfl
theorem eq101 (x : TupD DD ct101.ps) (Φ : TupD DD ct101.rs → Prop) : ct101.W x Φ = topF ⟨Tryz.prog, tab, [], pl101, [], gh, []⟩ 9 ct101.f ct101.ps ct101.rs ct101.own x Φ := by kernel_rfl
theorem eq23 (x : TupD DD ct23.ps) (Φ : TupD DD ct23.rs → Prop) : ct23.W x Φ = topF ⟨Tryz.prog, tab, [], pl23, [], gh, []⟩ 9 ct23.f ct23.ps ct23.rs ct23.own x Φ := by kernel_rfl
theorem eq160 (x : TupD DD ct160.ps) (Φ : TupD DD ct160.rs → Prop) : ct160.W x Φ = topF ⟨Tryz.prog, tab, [ct189], pl160, [], gh, []⟩ 9 ct160.f ct160.ps ct160.rs ct160.own x Φ := by kernel_rfl
theorem eq55 (x : TupD DD ct55.ps) (Φ : TupD DD ct55.rs → Prop) : ct55.W x Φ = topF ⟨Tryz.prog, tab, [ct80], pl55, [], gh, []⟩ 9 ct55.f ct55.ps ct55.rs ct55.own x Φ := by kernel_rfl
theorem eq33 (x : TupD DD ct33.ps) (Φ : TupD DD ct33.rs → Prop) : ct33.W x Φ = topF ⟨Tryz.prog, tab, [], pl33, [], gh, []⟩ 9 ct33.f ct33.ps ct33.rs ct33.own x Φ := by kernel_rfl
theorem eq89 (x : TupD DD ct89.ps) (Φ : TupD DD ct89.rs → Prop) : ct89.W x Φ = topF ⟨Tryz.prog, tab, [], pl89, [], gh, []⟩ 9 ct89.f ct89.ps ct89.rs ct89.own x Φ := by kernel_rfl
theorem eq49 (x : TupD DD ct49.ps) (Φ : TupD DD ct49.rs → Prop) : ct49.W x Φ = topF ⟨Tryz.prog, tab, [ct56, ct87], pl49, [], gh, []⟩ 9 ct49.f ct49.ps ct49.rs ct49.own x Φ := by kernel_rfl
theorem eq43 (x : TupD DD ct43.ps) (Φ : TupD DD ct43.rs → Prop) : ct43.W x Φ = topF ⟨Tryz.prog, tab, [], pl43, [], gh, []⟩ 9 ct43.f ct43.ps ct43.rs ct43.own x Φ := by kernel_rfl
theorem eq161 (x : TupD DD ct161.ps) (Φ : TupD DD ct161.rs → Prop) : ct161.W x Φ = topF ⟨Tryz.prog, tab, [], pl161, [], gh, []⟩ 9 ct161.f ct161.ps ct161.rs ct161.own x Φ := by kernel_rfl
theorem eq135 (x : TupD DD ct135.ps) (Φ : TupD DD ct135.rs → Prop) : ct135.W x Φ = topF ⟨Tryz.prog, tab, [], pl135, [], gh, []⟩ 9 ct135.f ct135.ps ct135.rs ct135.own x Φ := by kernel_rfl
end Go.Proofs.YtpmjodnmnffmhaaGreatDoor
namespace Go.Proofs.YtpmjodnmnffmhaaGreatDoor
open Go.RowKit Go.Shelf
def Tryz.layC_ren : Go.Shelf.Ren := ⟨fun | 5 => 155 | 7 => 187 | n => n, fun | 22 => 3 | 3 => 3 | 4 => 4 | n => n, fun | n => n⟩
theorem Tryz.layC : Go.Proofs.SlLaysC2.n5 Tryz.prog Tryz.layC_ren := {
  mixed := by kernel_rfl
  f5 := ⟨Tryz.f155.name, by decide, Tryz.func155.trans (congrArg some (by kernel_rfl))⟩
  f7 := ⟨Tryz.f187.name, by decide, Tryz.func187.trans (congrArg some (by kernel_rfl))⟩
  t3 := Tryz.underlying3
  a3 := Tryz.isAgg3
  z3 := Tryz.sizeOf3
  v3 := Tryz.zeroValue3
  t4 := Tryz.underlying4
  a4 := Tryz.isAgg4
  z4 := Tryz.sizeOf4
  v4 := Tryz.zeroValue4
  t22 := Tryz.underlying3
  a22 := Tryz.isAgg3
  z22 := Tryz.sizeOf3
  v22 := Tryz.zeroValue3 }
theorem cmpI_calls (x y : Int) (W : World) : Calls Tryz.prog 155 #[.int .i64 x, .int .i64 y] W fun e w' => e = .returned (.int .i64 (Lib.compareInt x y)) ∧ w' = W :=
  AnyG.cmp_Compare_int Tryz.layC x y W
theorem cmpL_cons (x y : Int) (a b : List Int) : cmpL (x :: a) (y :: b) = if x < y then -1 else if y < x then 1 else cmpL a b := by rw [cmpL]
theorem cmpL_step {xs ys : List Int} {k : Nat} (h1 : k < xs.length) (h2 : k < ys.length) : cmpL (xs.drop k) (ys.drop k) = if Lib.compareInt xs[k] ys[k] ≠ 0 then Lib.compareInt xs[k] ys[k] else cmpL (xs.drop (k + 1)) (ys.drop (k + 1)) := by
  rw [List.drop_eq_getElem_cons h1, List.drop_eq_getElem_cons h2, cmpL_cons]
  unfold Lib.compareInt
  by_cases a : xs[k] < ys[k]
  · simp [a]
  · by_cases b : ys[k] < xs[k]
    · simp [a, b]
    · simp [a, b]
set_option maxRecDepth 100000 in
theorem cmp_calls {H : Hp} (p q : ElL H) (W : World) (hag : ∀ b o, H b = some o → W.heap[b]? = some o) : Calls Tryz.prog 112 #[p.1.1, q.1.1] W fun e w' => e = .returned (.int .i64 (cmpL p.1.2 q.1.2)) ∧ ∃ k os, w' = Sort.grow (W.drewN k) os := by
  obtain ⟨⟨v1, xs⟩, A1, n1, c1, s1, e1, h1⟩ := p
  obtain ⟨⟨v2, ys⟩, A2, n2, c2, s2, e2, h2⟩ := q
  have e1 : v1 = .slice A1 n1 c1 := (List.cons.inj e1).1
  have e2 : v2 = .slice A2 n2 c2 := (List.cons.inj e2).1
  subst e1 e2
  have l1 : n1 = xs.length := h1.hn
  have l2 : n2 = ys.length := h2.hn
  obtain rfl := DtL.ints h1.dat
  obtain rfl := DtL.ints h2.dat
  refine (calls_of_code Tryz.func112 rfl (Nat.le_of_ble_eq_true rfl) (R := fun v w' => v = .int .i64 (cmpL xs ys) ∧ w' = W) ?_).mono fun e w' ⟨v, h3, h4, h5⟩ => ⟨by rw [h3, h4], 0, #[], by rw [h5]; simp [World.drewN]⟩
  have hM : Mem W H W H [] := Mem.start hag
  refine CW.seq (CW.region (RW.step (Ex.assign (.int .i64 0) rfl) rfl rfl rfl (RW.nil ?_)))
  refine CW.seq (CW.seq (CW.region (RW.step (Ex.move (.slice A1 n1 c1) rfl) rfl rfl rfl (RW.step (Ex.len Tryz.underlying22 rfl) rfl rfl rfl (RW.step (Ex.move (.int .i64 0) rfl) rfl rfl rfl (RW.nil ?_))))))
  refine CW.block (CW.loop (β := Nat) (fun k σ w => w = W ∧ k ≤ n1 ∧ k ≤ n2 ∧ cmpL xs ys = cmpL (xs.drop k) (ys.drop k) ∧ ∃ τ, σ = sl [(0, .slice A1 n1 c1), (1, .slice A2 n2 c2), (9, .slice A1 n1 c1), (10, .int .i64 (n1 : Int)), (11, .int .i64 (k : Int))] τ) (fun k => n1 - k) 0 ⟨rfl, Nat.zero_le _, Nat.zero_le _, rfl, sl_canon ⟨rfl, rfl, rfl, rfl, rfl, trivial⟩⟩ ?_)
  rintro k σ w ⟨rfl, hk, hk2, hc, τ, rfl⟩
  refine CW.seq (CW.region (RW.step (Ex.lss (a := (k : Int)) (b := (n1 : Int)) rfl rfl) rfl rfl rfl (RW.nil ?_)))
  refine CW.seq (CW.cond_dec (p := (k : Int) < (n1 : Int)) rfl (fun hlt => CW.skip ?_) fun hge => CW.exit ?_)
  · have hk1 : k < n1 := by omega
    have hx : (xs.map (Value.int .i64))[k * 1 + 0]? = some (.int .i64 (xs[k]'(by omega))) := by simp [show k < xs.length by omega]
    refine CW.seq (CW.block (CW.seq (CW.region ?_)))
    refine RW.step (Ex.move (.int .i64 (k : Int)) rfl) rfl rfl rfl ?_
    refine RW.step (Ex.index st22 rfl rfl k (h1.rdc.ne (Nat.lt_of_le_of_lt (Nat.zero_le _) hk1)) rfl hk1) rfl rfl rfl ?_
    refine RW.step (Ex.loadE hM (Hp.le.refl _) h1.rdc to3 rfl hx) rfl rfl rfl ?_
    refine RW.step (Ex.assign (.int .i64 (k : Int)) rfl) rfl rfl rfl ?_
    refine RW.step (Ex.assign (.int .i64 (xs[k]'(by omega))) rfl) rfl rfl rfl (RW.nil ?_)
    refine CW.seq (CW.seq (CW.region ?_))
    refine RW.step (Ex.move (.int .i64 (k : Int)) rfl) rfl rfl rfl ?_
    refine RW.step (Ex.move (.slice A2 n2 c2) rfl) rfl rfl rfl ?_
    refine RW.step (Ex.len Tryz.underlying22 rfl) rfl rfl rfl ?_
    refine RW.step (Ex.geq (a := (k : Int)) (b := (n2 : Int)) rfl rfl) rfl rfl rfl (RW.nil ?_)
    refine (CW.cond_dec (p := (n2 : Int) ≤ (k : Int)) rfl (fun hge => ?_) fun hlt2 => CW.skip ?_)
    · refine CW.seq (CW.region (RW.step (Ex.assign (.int .i64 1) rfl) rfl rfl rfl (RW.nil ?_)))
      refine CW.ret ?_
      repeat (first | refine thenQ_ret ?_ | refine blockQ_ret ?_)
      refine end_tmp (.inl rfl) rfl (.int .i64 1) rfl ⟨?_, rfl⟩
      rw [hc, List.drop_eq_nil_of_le (show ys.length ≤ k by omega), List.drop_eq_getElem_cons (show k < xs.length by omega)]
      rfl
    · have hk3 : k < n2 := by omega
      have hy : (ys.map (Value.int .i64))[k * 1 + 0]? = some (.int .i64 (ys[k]'(by omega))) := by simp [show k < ys.length by omega]
      refine CW.seq (CW.region ?_)
      refine RW.step (Ex.move (.slice A2 n2 c2) rfl) rfl rfl rfl ?_
      refine RW.step (Ex.move (.int .i64 (k : Int)) rfl) rfl rfl rfl ?_
      refine RW.step (Ex.index st22 rfl rfl k (h2.rdc.ne (Nat.lt_of_le_of_lt (Nat.zero_le _) hk3)) rfl hk3) rfl rfl rfl ?_
      refine RW.step (Ex.loadE hM (Hp.le.refl _) h2.rdc to3 rfl hy) rfl rfl rfl ?_
      refine RW.step (Ex.assign (.int .i64 (ys[k]'(by omega))) rfl) rfl rfl rfl (RW.nil ?_)
      have hst := cmpL_step (xs := xs) (ys := ys) (k := k) (by omega) (by omega)
      refine CW.seq (CW.region ?_)
      refine RW.step (Ex.move (.int .i64 (xs[k]'(by omega))) rfl) rfl rfl rfl ?_
      refine RW.step (Ex.move (.int .i64 (ys[k]'(by omega))) rfl) rfl rfl rfl ?_
      refine RW.enter (R := fun v w' => v = .int .i64 (Lib.compareInt (xs[k]'(by omega)) (ys[k]'(by omega))) ∧ w' = w) (entB_ok (f := 155) (by kernel_rfl)) rfl rfl rfl rfl ((cmpI_calls _ _ _).mono fun e w' ⟨h3, h4⟩ => ⟨_, h3, rfl, h4⟩) fun v w' ⟨h3, h4⟩ => ?_
      subst h3 h4
      refine RW.step (Ex.assign (.int .i64 (Lib.compareInt (xs[k]'(by omega)) (ys[k]'(by omega)))) rfl) rfl rfl rfl (RW.nil ?_)
      generalize Lib.compareInt (xs[k]'(by omega)) (ys[k]'(by omega)) = r at hst ⊢
      refine CW.seq (CW.region ?_)
      refine RW.step (Ex.move (.int .i64 r) rfl) rfl rfl rfl ?_
      refine RW.step (Ex.neq (a := r) (b := 0) rfl rfl) rfl rfl rfl (RW.nil ?_)
      refine CW.cond_dec (p := r ≠ 0) rfl (fun hr => ?_) fun hr => CW.skip ?_
      · refine CW.seq (CW.region (RW.step (Ex.move (.int .i64 r) rfl) rfl rfl rfl (RW.step (Ex.assign (.int .i64 r) rfl) rfl rfl rfl (RW.nil ?_))))
        refine CW.ret ?_
        repeat (first | refine thenQ_ret ?_ | refine blockQ_ret ?_)
        refine end_tmp (.inl rfl) rfl (.int .i64 r) rfl ⟨?_, rfl⟩
        rw [hc, hst, if_pos hr]
      · refine CW.region (RW.step (Ex.add (a := (k : Int)) (b := 1) rfl rfl (by omega) (by have := h1.rdc.2.1; have := h1.rdc.2.2.1; have : maxLen = 9223372036854775807 := rfl; omega)) rfl rfl rfl (RW.step (Ex.move (.int .i64 ((k : Int) + 1)) rfl) rfl rfl rfl (RW.nil ?_)))
        exact ⟨rfl, k + 1, ⟨rfl, by omega, by omega, by rw [hc, hst, if_neg hr], sl_canon ⟨rfl, rfl, rfl, rfl, rfl, trivial⟩⟩, by omega⟩
  · have hx : xs.drop k = [] := List.drop_eq_nil_of_le (by omega)
    refine CW.seq (CW.seq (CW.region ?_))
    refine RW.step (Ex.move (.slice A1 n1 c1) rfl) rfl rfl rfl ?_
    refine RW.step (Ex.len Tryz.underlying22 rfl) rfl rfl rfl ?_
    refine RW.step (Ex.move (.slice A2 n2 c2) rfl) rfl rfl rfl ?_
    refine RW.step (Ex.len Tryz.underlying22 rfl) rfl rfl rfl ?_
    refine RW.step (Ex.lss (a := (n1 : Int)) (b := (n2 : Int)) rfl rfl) rfl rfl rfl (RW.nil ?_)
    refine (CW.cond_dec (p := (n1 : Int) < (n2 : Int)) rfl (fun hlt => ?_) fun hge2 => CW.skip ?_)
    · refine CW.seq (CW.region (RW.step (Ex.assign (.int .i64 (-1)) rfl) rfl rfl rfl (RW.nil ?_)))
      refine CW.ret ?_
      repeat (first | refine thenQ_ret ?_ | refine blockQ_ret ?_)
      refine end_tmp (.inl rfl) rfl (.int .i64 (-1)) rfl ⟨?_, rfl⟩
      rw [hc, hx, List.drop_eq_getElem_cons (show k < ys.length by omega)]
      rfl
    · refine CW.seq (CW.region (RW.step (Ex.assign (.int .i64 0) rfl) rfl rfl rfl (RW.nil ?_)))
      refine CW.ret ?_
      repeat (first | refine thenQ_ret ?_ | refine blockQ_ret ?_)
      refine end_tmp (.inl rfl) rfl (.int .i64 0) rfl ⟨?_, rfl⟩
      rw [hc, hx, List.drop_eq_nil_of_le (show ys.length ≤ k by omega)]
      rfl
def Tryz.lays171_ren : Go.Shelf.Ren := ⟨fun | 171 => 152 | 243 => 178 | 246 => 196 | 283 => 201 | 284 => 202 | 285 => 203 | 286 => 204 | 129 => 176 | 317 => 206 | 318 => 207 | 319 => 208 | 320 => 209 | 337 => 210 | 338 => 211 | n => n, fun | 3 => 3 | 9 => 9 | 2 => 2 | 4 => 4 | 171 => 243 | 0 => 0 | 53 => 210 | 37 => 157 | 5 => 5 | 173 => 245 | 212 => 250 | 51 => 207 | 20 => 20 | 213 => 251 | 46 => 185 | 232 => 252 | 233 => 253 | n => n, fun | 17 => 0 | 18 => 1 | 19 => 2 | n => n⟩
theorem Tryz.lays171 : Go.Proofs.Lays.n171 Tryz.prog Tryz.lays171_ren := {
  mixed := by kernel_rfl
  f129 := Tryz.func176.trans (congrArg some (by kernel_rfl))
  f171 := Tryz.func152.trans (congrArg some (by kernel_rfl))
  f243 := Tryz.func178.trans (congrArg some (by kernel_rfl))
  f246 := Tryz.func196.trans (congrArg some (by kernel_rfl))
  f283 := Tryz.func201.trans (congrArg some (by kernel_rfl))
  f284 := Tryz.func202.trans (congrArg some (by kernel_rfl))
  f285 := Tryz.func203.trans (congrArg some (by kernel_rfl))
  f286 := Tryz.func204.trans (congrArg some (by kernel_rfl))
  f317 := Tryz.func206.trans (congrArg some (by kernel_rfl))
  f318 := Tryz.func207.trans (congrArg some (by kernel_rfl))
  f319 := Tryz.func208.trans (congrArg some (by kernel_rfl))
  f320 := Tryz.func209.trans (congrArg some (by kernel_rfl))
  f337 := Tryz.func210.trans (congrArg some (by kernel_rfl))
  f338 := Tryz.func211.trans (congrArg some (by kernel_rfl))
  t0 := Tryz.underlying0
  a0 := Tryz.isAgg0
  z0 := Tryz.sizeOf0
  v0 := Tryz.zeroValue0
  t2 := Tryz.underlying2
  a2 := Tryz.isAgg2
  z2 := Tryz.sizeOf2
  v2 := Tryz.zeroValue2
  t3 := Tryz.underlying3
  a3 := Tryz.isAgg3
  z3 := Tryz.sizeOf3
  v3 := Tryz.zeroValue3
  t4 := Tryz.underlying4
  a4 := Tryz.isAgg4
  z4 := Tryz.sizeOf4
  v4 := Tryz.zeroValue4
  t5 := Tryz.underlying5
  a5 := Tryz.isAgg5
  z5 := Tryz.sizeOf5
  v5 := Tryz.zeroValue5
  t9 := Tryz.underlying9
  a9 := Tryz.isAgg9
  z9 := Tryz.sizeOf9
  v9 := Tryz.zeroValue9
  t20 := Tryz.underlying20
  a20 := Tryz.isAgg20
  z20 := Tryz.sizeOf20
  v20 := Tryz.zeroValue20
  t37 := Tryz.underlying157
  a37 := Tryz.isAgg157
  z37 := Tryz.sizeOf157
  v37 := Tryz.zeroValue157
  t46 := Tryz.underlying185
  a46 := Tryz.isAgg185
  z46 := Tryz.sizeOf185
  v46 := Tryz.zeroValue185
  t51 := Tryz.underlying207
  a51 := Tryz.isAgg207
  z51 := Tryz.sizeOf207
  v51 := Tryz.zeroValue207
  t53 := Tryz.underlying210
  a53 := Tryz.isAgg210
  z53 := Tryz.sizeOf210
  v53 := Tryz.zeroValue210
  t171 := Tryz.underlying243
  a171 := Tryz.isAgg243
  z171 := Tryz.sizeOf243
  v171 := Tryz.zeroValue243
  t173 := Tryz.underlying245
  a173 := Tryz.isAgg245
  z173 := Tryz.sizeOf245
  v173 := Tryz.zeroValue245
  t212 := Tryz.underlying250
  a212 := Tryz.isAgg250
  z212 := Tryz.sizeOf250
  v212 := Tryz.zeroValue250
  t213 := Tryz.underlying251
  a213 := Tryz.isAgg251
  z213 := Tryz.sizeOf251
  t232 := Tryz.underlying252
  a232 := Tryz.isAgg252
  z232 := Tryz.sizeOf252
  v232 := Tryz.zeroValue252
  t233 := Tryz.underlying253
  a233 := Tryz.isAgg253
  z233 := Tryz.sizeOf253
  v233 := Tryz.zeroValue253
  g17 := by kernel_rfl
  g18 := by kernel_rfl
  g19 := by kernel_rfl }
def Tryz.lays169_ren : Go.Shelf.Ren := ⟨fun | 169 => 153 | n => n, fun | 70 => 190 | 9 => 9 | 0 => 0 | 72 => 192 | 37 => 157 | 127 => 222 | 3 => 3 | 5 => 5 | n => n, fun | n => n⟩
theorem Tryz.lays169 : Go.Proofs.Lays.n169 Tryz.prog Tryz.lays169_ren := {
  mixed := by kernel_rfl
  f169 := Tryz.func153.trans (congrArg some (by kernel_rfl))
  t0 := Tryz.underlying0
  a0 := Tryz.isAgg0
  z0 := Tryz.sizeOf0
  v0 := Tryz.zeroValue0
  t3 := Tryz.underlying3
  a3 := Tryz.isAgg3
  z3 := Tryz.sizeOf3
  v3 := Tryz.zeroValue3
  t9 := Tryz.underlying9
  a9 := Tryz.isAgg9
  z9 := Tryz.sizeOf9
  v9 := Tryz.zeroValue9
  t37 := Tryz.underlying157
  a37 := Tryz.isAgg157
  z37 := Tryz.sizeOf157
  v37 := Tryz.zeroValue157
  t70 := Tryz.underlying190
  a70 := Tryz.isAgg190
  z70 := Tryz.sizeOf190
  v70 := Tryz.zeroValue190
  t72 := Tryz.underlying192
  a72 := Tryz.isAgg192
  z72 := Tryz.sizeOf192
  v72 := Tryz.zeroValue192
  t127 := Tryz.underlying222
  a127 := Tryz.isAgg222
  z127 := Tryz.sizeOf222
  v127 := Tryz.zeroValue222 }
theorem bx169 : Builder.Extra Tryz.prog Tryz.lays169_ren where
  sizeBuilder := by kernel_rfl
  liesBuilder := by kernel_rfl
  t5 := Tryz.underlying5
  a5 := Tryz.isAgg5
  z5 := Tryz.sizeOf5
  v5 := Tryz.zeroValue5
  infoByte := by kernel_rfl
  cellsByte := by kernel_rfl
  sizeByte := by kernel_rfl
  neB5 := by decide
theorem itoa_calls (i : Nat) (hi : i < 100) (w : World) : Calls Tryz.prog 152 #[.int .i64 i] w fun e w' => e = .returned (.string ⟨(Lib.decDigits i).toArray⟩) ∧ w' = w := Any.strconv_Itoa_small Tryz.lays171 i hi w
theorem bx_info : (Tryz.prog.info? 5).map (fun i => (i.zero, i.size, i.bytes)) = some (some (.int .u8 0), 1, 1) := by kernel_rfl
set_option maxHeartbeats 1000000 in
set_option maxRecDepth 100000 in
theorem copyCheck_used (b : Nat) (w : World) (h0 : w.cell? ⟨b, 0, none⟩ = some (.pointer (some ⟨b, 0, none⟩))) : Calls Tryz.prog 177 #[.pointer (some ⟨b, 0, none⟩)] w fun e w' => e = .returned (.tuple #[]) ∧ w' = w := by
  obtain ⟨j, hj, _⟩ := Option.map_eq_some_iff.1 (show (Tryz.prog.info? 192).map (·.size) = some 2 by kernel_rfl)
  go_enter Tryz.func177, Tryz.ntmps177
  go_wp2
  rw [Lib.run_neq_ptr_same w _ Tryz.underlying190 hj]
  go_wp2
  go_end0
  exact ⟨rfl, rfl⟩
set_option maxHeartbeats 1000000 in
set_option maxRecDepth 100000 in
theorem copyCheck_fresh (b : Nat) (w : World) (h0 : w.cell? ⟨b, 0, none⟩ = some (.pointer none)) (hsh : w.shape? b = some (192, 2)) (hfz : w.frozen? ⟨b, 0, none⟩ = false) :
    Calls Tryz.prog 177 #[.pointer (some ⟨b, 0, none⟩)] w fun e w' => e = .returned (.tuple #[]) ∧ w' = w.setCell ⟨b, 0, none⟩ (.pointer (some ⟨b, 0, none⟩)) := by
  obtain ⟨j, hj, hjs⟩ := Option.map_eq_some_iff.1 (show (Tryz.prog.info? 192).map (·.size) = some 2 by kernel_rfl)
  go_enter Tryz.func177, Tryz.ntmps177
  go_wp2
  rw [Lib.run_to_unsafe w ⟨b, 0, none⟩ Tryz.underlying190 Tryz.underlying236 hj (by rw [hjs]; decide) hsh (Nat.zero_lt_succ 1)]
  simp only [Result.andThen]
  rw [Oper.upon_value]
  go_wp2
  rw [run_callFunc_extern Tryz.func195 (by kernel_rfl) (by kernel_rfl) (by kernel_rfl) (e := Extern.AbiNoEscape.same) (by kernel_rfl)]
  rw [Lib.run_noEscape]
  simp only [Result.andThen]
  rw [Oper.upon_value]
  go_wp2
  rw [Lib.run_from_unsafe w ⟨b, 0, none⟩ Tryz.underlying236 Tryz.underlying190 hj hsh (bx169).liesBuilder]
  simp only [Result.andThen]
  rw [Oper.upon_value]
  go_wp2
  go_end0
  exact ⟨rfl, rfl⟩
theorem copyCheck_calls (B b : Nat) (bs : List Value) (w : World) (h : Lib.IsBuilderF 192 5 B b bs w) :
    Calls Tryz.prog 177 #[.pointer (some ⟨b, 0, none⟩)] w fun e w' => e = .returned (.tuple #[]) ∧ Lib.BuilderAtF 192 5 B b (.pointer (some ⟨b, 0, none⟩)) bs w' ∧ Below B w w' := by
  rcases h with h | h
  · refine (copyCheck_fresh b w h.cell0 h.shape h.frozen0).mono ?_
    rintro e w' ⟨rfl, rfl⟩
    exact ⟨rfl, h.used _, (Below.refl B w).setCell (p := ⟨b, 0, none⟩) h.1 _⟩
  · refine (copyCheck_used b w h.cell0).mono ?_
    rintro e w' ⟨rfl, rfl⟩
    exact ⟨rfl, h, Below.refl B _⟩
set_option maxHeartbeats 1000000 in
set_option maxRecDepth 100000 in
theorem writeString_calls (B b : Nat) (bs : List Value) (s : ByteArray) (w : World) (h : Lib.IsBuilderF 192 5 B b bs w) (hlen : bs.length + s.size ≤ 140737488355328) (hBw : B ≤ w.heap.size) :
    Calls Tryz.prog 151 #[.pointer (some ⟨b, 0, none⟩), .string s] w fun e w' => e = .returned (.tuple #[.int .i64 s.size, .nilIface]) ∧ Lib.IsBuilderF 192 5 B b (bs ++ Lib.strCells s) w' ∧ Below B w w' := by
  obtain ⟨i0, hi, hz0, hz1, hz2⟩ := info_parts bx_info
  have e177 : ∀ args w, (callFunc 177 args).run Tryz.prog w = .ok (.enter 177 args) w := enters_of Tryz.func177 (by kernel_rfl) rfl
  go_enter Tryz.func151, Tryz.ntmps151
  go_wp2_with (go_at_fn 177; refine (copyCheck_calls B b bs _ h).mono ?_)
  rintro e w1 ⟨rfl, h1, hb1⟩
  obtain ⟨hB, v, hbk, hown, hne⟩ := h1
  have c0 : w1.cell? ⟨b, 0, none⟩ = some (.pointer (some ⟨b, 0, none⟩)) := by rw [Lib.cell_of_heap hbk]; rfl
  have c1 : w1.cell? ⟨b, 1, none⟩ = some v := by rw [Lib.cell_of_heap hbk]; rfl
  go_wp2_with (at_builtin; refine Lib.wpList_append_own_stringF _ rfl _ _ 157 9 rfl B 5 i0 Tryz.underlying157 Tryz.underlying9 hi hz0 hz1 hz2 _ _ _ rfl hown s rfl ?c3 ?c4 ?c5 ?_)
  case c3 => unfold maxLen; omega
  case c4 => omega
  case c5 => have := hb1.size; omega
  intro v' w2 hown' hgrow _
  have hlt : b < w1.heap.size := lt_of_heap hbk
  have hb2 : w2.heap[b]? = some (.cells #[.pointer (some ⟨b, 0, none⟩), v] 192 (0, 0)) := by
    rw [hgrow.block b hlt (fun e => hne e.symm)]
    exact hbk
  have d0 : w2.cell? ⟨b, 0, none⟩ = some (.pointer (some ⟨b, 0, none⟩)) := by rw [Lib.cell_of_heap hb2]; rfl
  have d1 : w2.cell? ⟨b, 1, none⟩ = some v := by rw [Lib.cell_of_heap hb2]; rfl
  have f1 : w2.frozen? ⟨b, 1, none⟩ = false := Lib.frozen_of_heap hb2 1
  obtain ⟨ao, n', cap, rfl⟩ : ∃ ao n' cap, v' = .slice ao n' cap := by
    rcases hown'.2 with ⟨hv, _⟩ | ⟨g, cap, cur, fz, hv, _⟩
    · exact ⟨_, _, _, hv⟩
    · exact ⟨_, _, _, hv⟩
  go_wp2
  go_ret2
  refine ⟨rfl, .inr ?_, ?_⟩
  · exact Lib.BuilderAtF.put (T := 192) (e := 5) hB hb2 (bs' := bs ++ Lib.strCells s) (by simpa [Lib.strCells_length] using hown') (by decide)
  · exact (hb1.grown hgrow (by have := hb1.size; omega) (fun k hk => (hown.lt k hk).1)).setCell (p := ⟨b, 1, none⟩) hB _
theorem string_calls (B b : Nat) (l : List UInt8) (w : World) (h : Lib.IsBuilderF 192 5 B b (Lib.byteCells l) w) (hBw : B ≤ w.heap.size) :
    Calls Tryz.prog 153 #[.pointer (some ⟨b, 0, none⟩)] w fun e w' => e = .returned (.string ⟨l.toArray⟩) ∧ Below B w w' :=
  (Any.Builder_String_any_k Tryz.lays169 bx169 B b l w h hBw).mono fun _ _ ⟨h1, _, h3, _⟩ => ⟨h1, h3⟩
theorem digS_eq {i : Nat} (hi : i < 100) : digS (i : Int) = Lib.decDigits i ++ [32] := by
  unfold digS
  by_cases h : i < 10
  · rw [if_pos (by omega), Lib.decDigits, dif_pos h]; simp
  · rw [if_neg (by omega), Lib.decDigits, dif_neg h, Lib.decDigits, dif_pos (by omega)]; simp
theorem digS_len (n : Int) : (digS n).length ≤ 3 := by
  unfold digS
  split <;> simp
theorem digs_len (l : List Int) : (l.flatMap digS).length ≤ 3 * l.length := by
  induction l with
  | nil => simp
  | cons x r ih =>
    have := digS_len x
    simp only [List.flatMap_cons, List.length_append, List.length_cons]
    omega
theorem byteCells_app (a b : List UInt8) : Lib.byteCells (a ++ b) = Lib.byteCells a ++ Lib.byteCells b := List.map_append
theorem Ex.addStr {P : Program} {σ : Nat → Value} {ty : TypeId} {w : World} {x y : Operand} {t u : TypeId} {a b : ByteArray} (hx : ev σ x = .string a) (hy : ev σ y = .string b) (hl : a.size + b.size ≤ 9223372036854775807) : Ex P σ (.binOp .add t x y u) ty w (.string (a ++ b)) w := fun _ _ _ _ => by
  simp [hx, hy, go_sem, hl]
set_option maxRecDepth 100000 in
theorem text_calls {H : Hp} {A : Option Addr} {n c : Nat} {xs : List Int} {cells : List Value} (hF : Fz H A n c xs cells) (hs : smallB xs = true) (W : World) (hag : ∀ b o, H b = some o → W.heap[b]? = some o) : Calls Tryz.prog 110 #[.slice A n c] W fun e w' => e = .returned (.string (textS xs)) ∧ Below W.heap.size W w' := by
  obtain rfl := DtL.ints hF.dat
  have ln : n = xs.length := hF.hn
  unfold smallB at hs
  rw [Bool.and_eq_true] at hs
  have hmax : xs.length ≤ 4096 := Nat.le_of_ble_eq_true hs.1
  have hsm : ∀ x ∈ xs, 0 ≤ x ∧ x < 100 := fun x hx => by
    have := List.all_eq_true.1 hs.2 x hx
    rw [Bool.and_eq_true] at this
    exact ⟨of_decide_eq_true this.1, of_decide_eq_true this.2⟩
  refine (calls_of_code Tryz.func110 rfl (Nat.le_of_ble_eq_true rfl) (R := fun v w' => v = .string (textS xs) ∧ Below W.heap.size W w') ?_).mono fun e w' ⟨v, h3, h4, h5⟩ => ⟨by rw [h3, h4], h5⟩
  have hM : Mem W H W H [] := Mem.start hag
  refine CW.seq (CW.region (RW.step (Ex.assign (.string ⟨#[]⟩) rfl) rfl rfl rfl (RW.nil ?_)))
  refine CW.seq (CW.region (RW.step (Ex.alloc (z := .agg #[.pointer none, .slice none 0 0]) (tyZero_of (by kernel_rfl))) rfl rfl rfl (RW.nil ?_)))
  have hB0 : Lib.IsBuilderF 192 5 W.heap.size W.heap.size [] (W.alloc (.cells #[.pointer none, .slice none 0 0] 192)) := Lib.IsBuilderF.of (Lib.fresh_isBuilder 192 5 W)
  have hbl0 : Below W.heap.size W (W.alloc (.cells #[.pointer none, .slice none 0 0] 192)) := (Below.refl _ W).alloc (Nat.le_refl _) _
  refine CW.seq (CW.seq (CW.region (RW.step (Ex.move (.slice A n c) rfl) rfl rfl rfl (RW.step (Ex.len Tryz.underlying22 rfl) rfl rfl rfl (RW.step (Ex.move (.int .i64 0) rfl) rfl rfl rfl (RW.nil ?_))))))
  refine CW.block (CW.loop (β := Nat) (fun k σ w => k ≤ n ∧ Lib.IsBuilderF 192 5 W.heap.size W.heap.size (Lib.byteCells ((xs.take k).flatMap digS)) w ∧ Below W.heap.size W w ∧ ∃ τ, σ = sl [(3, .pointer (some ⟨W.heap.size, 0, none⟩)), (6, .slice A n c), (7, .int .i64 (n : Int)), (8, .int .i64 (k : Int))] τ) (fun k => n - k) 0 ⟨Nat.zero_le _, hB0, hbl0, sl_canon ⟨rfl, rfl, rfl, rfl, trivial⟩⟩ ?_)
  rintro k σ w ⟨hk, hB, hbl, τ, rfl⟩
  refine CW.seq (CW.region (RW.step (Ex.lss (a := (k : Int)) (b := (n : Int)) rfl rfl) rfl rfl rfl (RW.nil ?_)))
  refine CW.seq (CW.cond_dec (p := (k : Int) < (n : Int)) rfl (fun hlt => CW.skip ?_) fun hge => CW.exit ?_)
  · have hk1 : k < n := by omega
    have hM2 : Mem W H w H [] := hM.frame hbl
    have hx : (xs.map (Value.int .i64))[k * 1 + 0]? = some (.int .i64 (xs[k]'(by omega))) := by simp [show k < xs.length by omega]
    have hr := hsm (xs[k]'(by omega)) (List.getElem_mem _)
    have htk : (xs.take (k + 1)).flatMap digS = (xs.take k).flatMap digS ++ digS (xs[k]'(by omega)) := by
      rw [List.take_succ_eq_append_getElem (by omega), List.flatMap_append]; simp
    generalize xs[k]'(by omega) = x at hx hr htk
    obtain ⟨i, rfl⟩ : ∃ i : Nat, x = (i : Int) := ⟨x.toNat, by omega⟩
    refine CW.seq (CW.block (CW.seq (CW.region ?_)))
    refine RW.step (Ex.index st22 rfl rfl k (hF.rdc.ne (Nat.lt_of_le_of_lt (Nat.zero_le _) hk1)) rfl hk1) rfl rfl rfl ?_
    refine RW.step (Ex.loadE hM2 (Hp.le.refl _) hF.rdc to3 rfl hx) rfl rfl rfl ?_
    refine RW.step (Ex.assign (.int .i64 (i : Int)) rfl) rfl rfl rfl (RW.nil ?_)
    refine CW.region ?_
    refine RW.step (Ex.move (.int .i64 (i : Int)) rfl) rfl rfl rfl ?_
    refine RW.enter (R := fun v w' => v = .string ⟨(Lib.decDigits i).toArray⟩ ∧ w' = w) (entB_ok (f := 152) (by kernel_rfl)) rfl rfl rfl rfl ((itoa_calls i (by omega) _).mono fun e w' ⟨h3, h4⟩ => ⟨_, h3, rfl, h4⟩) fun v w' ⟨h3, h4⟩ => ?_
    subst h3 h4
    have hdl : (⟨(Lib.decDigits i).toArray⟩ : ByteArray).size + (⟨#[32]⟩ : ByteArray).size ≤ 9223372036854775807 := by
      have h6 := digS_len (i : Int)
      rw [digS_eq (by omega), List.length_append] at h6
      have h7 : (⟨(Lib.decDigits i).toArray⟩ : ByteArray).size = (Lib.decDigits i).length := by simp [ByteArray.size]
      have h8 : (⟨#[32]⟩ : ByteArray).size = 1 := rfl
      omega
    refine RW.step (Ex.addStr (a := ⟨(Lib.decDigits i).toArray⟩) (b := ⟨#[32]⟩) rfl rfl hdl) rfl rfl rfl ?_
    have hs2 : Lib.byteCells ((xs.take k).flatMap digS) ++ Lib.strCells (⟨(Lib.decDigits i).toArray⟩ ++ ⟨#[32]⟩ : ByteArray) = Lib.byteCells ((xs.take (k + 1)).flatMap digS) := by
      rw [htk, digS_eq (by omega), byteCells_app]
      congr 1
    have hl2 : (Lib.byteCells ((xs.take k).flatMap digS)).length + (⟨(Lib.decDigits i).toArray⟩ ++ ⟨#[32]⟩ : ByteArray).size ≤ 140737488355328 := by
      have h6 := congrArg List.length hs2
      rw [List.length_append] at h6
      have h7 : (Lib.strCells (⟨(Lib.decDigits i).toArray⟩ ++ ⟨#[32]⟩ : ByteArray)).length = (⟨(Lib.decDigits i).toArray⟩ ++ ⟨#[32]⟩ : ByteArray).size := by
        unfold Lib.strCells; simp [ByteArray.size]
      rw [← h7, h6]
      have h8 := digs_len (xs.take (k + 1))
      have h9 : (Lib.byteCells ((xs.take (k + 1)).flatMap digS)).length = ((xs.take (k + 1)).flatMap digS).length := List.length_map _
      rw [List.length_take] at h8
      omega
    refine RW.enter (R := fun v w' => Lib.IsBuilderF 192 5 W.heap.size W.heap.size (Lib.byteCells ((xs.take (k + 1)).flatMap digS)) w' ∧ Below W.heap.size W w') (entB_ok (f := 151) (by kernel_rfl)) rfl rfl rfl rfl ((writeString_calls _ _ _ _ _ hB hl2 hbl.size).mono fun e w' ⟨h3, h4, h5⟩ => ⟨_, h3, hs2 ▸ h4, hbl.trans h5⟩) fun v w' ⟨h3, h4⟩ => RW.nil ?_
    refine CW.region (RW.step (Ex.add (a := (k : Int)) (b := 1) rfl rfl (by omega) (by omega)) rfl rfl rfl (RW.step (Ex.move (.int .i64 ((k : Int) + 1)) rfl) rfl rfl rfl (RW.nil ?_)))
    exact ⟨rfl, k + 1, ⟨by omega, h3, h4, sl_canon ⟨rfl, rfl, rfl, rfl, trivial⟩⟩, by omega⟩
  · have hx : xs.take k = xs := List.take_of_length_le (by omega)
    rw [hx] at hB
    refine CW.seq (CW.region ?_)
    refine RW.enter (R := fun v w' => v = .string ⟨(xs.flatMap digS).toArray⟩ ∧ Below W.heap.size W w') (entB_ok (f := 153) (by kernel_rfl)) rfl rfl rfl rfl ((string_calls _ _ _ _ hB hbl.size).mono fun e w' ⟨h3, h4⟩ => ⟨_, h3, rfl, hbl.trans h4⟩) fun v w' ⟨h3, h4⟩ => ?_
    subst h3
    refine RW.step (Ex.assign (.string ⟨(xs.flatMap digS).toArray⟩) rfl) rfl rfl rfl (RW.nil ?_)
    refine CW.ret ?_
    repeat (first | refine thenQ_ret ?_ | refine blockQ_ret ?_)
    exact end_tmp (.inl rfl) rfl (.string ⟨(xs.flatMap digS).toArray⟩) rfl ⟨rfl, h4⟩
end Go.Proofs.YtpmjodnmnffmhaaGreatDoor
namespace Go.Proofs.YtpmjodnmnffmhaaGreatDoor
open Go.RowKit
theorem mo : Tryz.prog.follows .mixedOrders = true := by kernel_rfl
theorem ok56 : ct56.Ok Tryz.prog tab gh := Ct.lift (E := ⟨Tryz.prog, tab, [], pl56, [], gh, []⟩) ⟨tabOk, trivial, mo, trivial, ghUp, trivial⟩ 9 ct56 fun x Φ => by rw [eq56]; exact id
theorem ok161 : ct161.Ok Tryz.prog tab gh := Ct.lift (E := ⟨Tryz.prog, tab, [], pl161, [], gh, []⟩) ⟨tabOk, trivial, mo, trivial, ghUp, trivial⟩ 9 ct161 fun x Φ => by rw [eq161]; exact id
theorem okT161 : ct161.Ok Tryz.prog tab ghT := Ct.lift (E := ⟨Tryz.prog, tab, [], pl161, [], ghT, []⟩) ⟨tabOk, trivial, mo, trivial, fun _ _ _ _ => trivial, trivial⟩ 9 ct161 fun x Φ => by
  have h : ct161.W x Φ = topF ⟨Tryz.prog, tab, [], pl161, [], ghT, []⟩ 9 ct161.f ct161.ps ct161.rs ct161.own x Φ := by kernel_rfl
  rw [h]; exact id
theorem ok142 : ct142.Ok Tryz.prog tab gh := Ct.lift (E := ⟨Tryz.prog, tab, [ct161], pl142, [], gh, []⟩) ⟨tabOk, ⟨ok161, trivial⟩, mo, trivial, ghUp, trivial⟩ 9 ct142 fun x Φ => by rw [eq142]; exact id
theorem okT142 : ct142.Ok Tryz.prog tab ghT := Ct.lift (E := ⟨Tryz.prog, tab, [ct161], pl142, [], ghT, []⟩) ⟨tabOk, ⟨okT161, trivial⟩, mo, trivial, fun _ _ _ _ => trivial, trivial⟩ 9 ct142 fun x Φ => by
  have h : ct142.W x Φ = topF ⟨Tryz.prog, tab, [ct161], pl142, [], ghT, []⟩ 9 ct142.f ct142.ps ct142.rs ct142.own x Φ := by kernel_rfl
  rw [h]; exact id
theorem ok144 : ct144.Ok Tryz.prog tab gh := Ct.lift (E := ⟨Tryz.prog, tab, [], pl144, [], gh, []⟩) ⟨tabOk, trivial, mo, trivial, ghUp, trivial⟩ 9 ct144 fun x Φ => by rw [eq144]; exact id
theorem ok97 : ct97.Ok Tryz.prog tab gh := Ct.lift (E := ⟨Tryz.prog, tab, [ct142, ct144], pl97, [], gh, []⟩) ⟨tabOk, ⟨ok142, ok144, trivial⟩, mo, trivial, ghUp, trivial⟩ 9 ct97 fun x Φ => by rw [eq97]; exact id
theorem ok189 : ct189.Ok Tryz.prog tab gh := Ct.lift (E := ⟨Tryz.prog, tab, [], pl189, [], gh, []⟩) ⟨tabOk, trivial, mo, trivial, ghUp, trivial⟩ 9 ct189 fun x Φ => by rw [eq189]; exact id
theorem okT189 : ct189.Ok Tryz.prog tab ghT := Ct.lift (E := ⟨Tryz.prog, tab, [], pl189, [], ghT, []⟩) ⟨tabOk, trivial, mo, trivial, fun _ _ _ _ => trivial, trivial⟩ 9 ct189 fun x Φ => by
  have h : ct189.W x Φ = topF ⟨Tryz.prog, tab, [], pl189, [], ghT, []⟩ 9 ct189.f ct189.ps ct189.rs ct189.own x Φ := by kernel_rfl
  rw [h]; exact id
theorem ok160 : ct160.Ok Tryz.prog tab gh := Ct.lift (E := ⟨Tryz.prog, tab, [ct189], pl160, [], gh, []⟩) ⟨tabOk, ⟨ok189, trivial⟩, mo, trivial, ghUp, trivial⟩ 9 ct160 fun x Φ => by rw [eq160]; exact id
theorem okT160 : ct160.Ok Tryz.prog tab ghT := Ct.lift (E := ⟨Tryz.prog, tab, [ct189], pl160, [], ghT, []⟩) ⟨tabOk, ⟨okT189, trivial⟩, mo, trivial, fun _ _ _ _ => trivial, trivial⟩ 9 ct160 fun x Φ => by
  have h : ct160.W x Φ = topF ⟨Tryz.prog, tab, [ct189], pl160, [], ghT, []⟩ 9 ct160.f ct160.ps ct160.rs ct160.own x Φ := by kernel_rfl
  rw [h]; exact id
theorem ok133 : ct133.Ok Tryz.prog tab gh := Ct.lift (E := ⟨Tryz.prog, tab, [ct142, ct160], pl133, [], gh, []⟩) ⟨tabOk, ⟨ok142, ok160, trivial⟩, mo, trivial, ghUp, trivial⟩ 9 ct133 fun x Φ => by rw [eq133]; exact id
theorem okT133 : ct133.Ok Tryz.prog tab ghT := Ct.lift (E := ⟨Tryz.prog, tab, [ct142, ct160], pl133, [], ghT, []⟩) ⟨tabOk, ⟨okT142, okT160, trivial⟩, mo, trivial, fun _ _ _ _ => trivial, trivial⟩ 9 ct133 fun x Φ => by
  have h : ct133.W x Φ = topF ⟨Tryz.prog, tab, [ct142, ct160], pl133, [], ghT, []⟩ 9 ct133.f ct133.ps ct133.rs ct133.own x Φ := by kernel_rfl
  rw [h]; exact id
theorem ok147 : ct147.Ok Tryz.prog tab gh := Ct.lift (E := ⟨Tryz.prog, tab, [], pl147, [], gh, []⟩) ⟨tabOk, trivial, mo, trivial, ghUp, trivial⟩ 9 ct147 fun x Φ => by rw [eq147]; exact id
theorem okT147 : ct147.Ok Tryz.prog tab ghT := Ct.lift (E := ⟨Tryz.prog, tab, [], pl147, [], ghT, []⟩) ⟨tabOk, trivial, mo, trivial, fun _ _ _ _ => trivial, trivial⟩ 9 ct147 fun x Φ => by
  have h : ct147.W x Φ = topF ⟨Tryz.prog, tab, [], pl147, [], ghT, []⟩ 9 ct147.f ct147.ps ct147.rs ct147.own x Φ := by kernel_rfl
  rw [h]; exact id
theorem ok126 : ct126.Ok Tryz.prog tab gh := Ct.lift (E := ⟨Tryz.prog, tab, [ct133, ct147], pl126, [], gh, []⟩) ⟨tabOk, ⟨ok133, ok147, trivial⟩, mo, trivial, ghUp, trivial⟩ 9 ct126 fun x Φ => by rw [eq126]; exact id
theorem ok79 : ct79.Ok Tryz.prog tab gh := Ct.lift (E := ⟨Tryz.prog, tab, [ct97, ct126], pl79, [], gh, []⟩) ⟨tabOk, ⟨ok97, ok126, trivial⟩, mo, trivial, ghUp, trivial⟩ 9 ct79 fun x Φ => by rw [eq79]; exact id
theorem ok32 : ct32.Ok Tryz.prog tab gh := Ct.lift (E := ⟨Tryz.prog, tab, [ct79], pl32, [], gh, []⟩) ⟨tabOk, ⟨ok79, trivial⟩, mo, trivial, ghUp, trivial⟩ 9 ct32 fun x Φ => by rw [eq32]; exact id
theorem ok165 : ct165.Ok Tryz.prog tab gh := Ct.lift (E := ⟨Tryz.prog, tab, [], pl165, [], gh, []⟩) ⟨tabOk, trivial, mo, trivial, ghUp, trivial⟩ 9 ct165 fun x Φ => by rw [eq165]; exact id
theorem ok148 : ct148.Ok Tryz.prog tab gh := Ct.lift (E := ⟨Tryz.prog, tab, [ct165], pl148, [], gh, []⟩) ⟨tabOk, ⟨ok165, trivial⟩, mo, trivial, ghUp, trivial⟩ 9 ct148 fun x Φ => by rw [eq148]; exact id
theorem ok106 : ct106.Ok Tryz.prog tab gh := Ct.lift (E := ⟨Tryz.prog, tab, [ct148], pl106, [], gh, []⟩) ⟨tabOk, ⟨ok148, trivial⟩, mo, trivial, ghUp, trivial⟩ 9 ct106 fun x Φ => by rw [eq106]; exact id
theorem ok107 : ct107.Ok Tryz.prog tab gh := Ct.lift (E := ⟨Tryz.prog, tab, [], pl107, [], gh, []⟩) ⟨tabOk, trivial, mo, trivial, ghUp, trivial⟩ 9 ct107 fun x Φ => by rw [eq107]; exact id
theorem ok70 : ct70.Ok Tryz.prog tab gh := Ct.lift (E := ⟨Tryz.prog, tab, [], pl70, [], gh, []⟩) ⟨tabOk, trivial, mo, trivial, ghUp, trivial⟩ 9 ct70 fun x Φ => by rw [eq70]; exact id
theorem ok108 : ct108.Ok Tryz.prog tab gh := Ct.lift (E := ⟨Tryz.prog, tab, [ct70], pl108, [], gh, []⟩) ⟨tabOk, ⟨ok70, trivial⟩, mo, trivial, ghUp, trivial⟩ 9 ct108 fun x Φ => by rw [eq108]; exact id
theorem ok43 : ct43.Ok Tryz.prog tab gh := Ct.lift (E := ⟨Tryz.prog, tab, [], pl43, [], gh, []⟩) ⟨tabOk, trivial, mo, trivial, ghUp, trivial⟩ 9 ct43 fun x Φ => by rw [eq43]; exact id
def Tryz.layS_ren : Go.Shelf.Ren := ⟨fun | 5 => 109 | 8 => 150 | 7 => 149 | 19 => 175 | 20 => 176 | 10 => 166 | 11 => 167 | 12 => 168 | 13 => 169 | 14 => 170 | 15 => 171 | 16 => 172 | 17 => 173 | 18 => 174 | 30 => 190 | 31 => 191 | 32 => 192 | 33 => 193 | 34 => 194 | 35 => 187 | 40 => 200 | n => n, fun | 23 => 22 | 25 => 3 | 3 => 3 | 32 => 185 | 22 => 22 | 0 => 0 | 44 => 207 | 46 => 210 | 4 => 4 | 36 => 215 | 35 => 214 | 41 => 173 | 5 => 5 | 9 => 9 | 53 => 230 | 57 => 234 | 63 => 241 | 64 => 51 | n => n, fun | n => n⟩
theorem Tryz.layS : Go.Proofs.SlLaysM.n5 Tryz.prog Tryz.layS_ren := {
  mixed := by kernel_rfl
  f5 := ⟨Tryz.f109.name, by decide, Tryz.func109.trans (congrArg some (by kernel_rfl))⟩
  f7 := ⟨Tryz.f149.name, by decide, Tryz.func149.trans (congrArg some (by kernel_rfl))⟩
  f8 := Tryz.func150.trans (congrArg some (by kernel_rfl))
  f10 := ⟨Tryz.f166.name, by decide, Tryz.func166.trans (congrArg some (by kernel_rfl))⟩
  f11 := ⟨Tryz.f167.name, by decide, Tryz.func167.trans (congrArg some (by kernel_rfl))⟩
  f12 := ⟨Tryz.f168.name, by decide, Tryz.func168.trans (congrArg some (by kernel_rfl))⟩
  f13 := ⟨Tryz.f169.name, by decide, Tryz.func169.trans (congrArg some (by kernel_rfl))⟩
  f14 := ⟨Tryz.f170.name, by decide, Tryz.func170.trans (congrArg some (by kernel_rfl))⟩
  f15 := ⟨Tryz.f171.name, by decide, Tryz.func171.trans (congrArg some (by kernel_rfl))⟩
  f16 := ⟨Tryz.f172.name, by decide, Tryz.func172.trans (congrArg some (by kernel_rfl))⟩
  f17 := ⟨Tryz.f173.name, by decide, Tryz.func173.trans (congrArg some (by kernel_rfl))⟩
  f18 := ⟨Tryz.f174.name, by decide, Tryz.func174.trans (congrArg some (by kernel_rfl))⟩
  f19 := Tryz.func175.trans (congrArg some (by kernel_rfl))
  f20 := Tryz.func176.trans (congrArg some (by kernel_rfl))
  f30 := ⟨Tryz.f190.name, by decide, Tryz.func190.trans (congrArg some (by kernel_rfl))⟩
  f31 := Tryz.func191.trans (congrArg some (by kernel_rfl))
  f32 := Tryz.func192.trans (congrArg some (by kernel_rfl))
  f33 := ⟨Tryz.f193.name, by decide, Tryz.func193.trans (congrArg some (by kernel_rfl))⟩
  f34 := ⟨Tryz.f194.name, by decide, Tryz.func194.trans (congrArg some (by kernel_rfl))⟩
  f35 := ⟨Tryz.f187.name, by decide, Tryz.func187.trans (congrArg some (by kernel_rfl))⟩
  f40 := ⟨Tryz.f200.name, by decide, Tryz.func200.trans (congrArg some (by kernel_rfl))⟩
  t0 := Tryz.underlying0
  a0 := Tryz.isAgg0
  z0 := Tryz.sizeOf0
  v0 := Tryz.zeroValue0
  t3 := Tryz.underlying3
  a3 := Tryz.isAgg3
  z3 := Tryz.sizeOf3
  v3 := Tryz.zeroValue3
  t4 := Tryz.underlying4
  a4 := Tryz.isAgg4
  z4 := Tryz.sizeOf4
  v4 := Tryz.zeroValue4
  t5 := Tryz.underlying5
  a5 := Tryz.isAgg5
  z5 := Tryz.sizeOf5
  v5 := Tryz.zeroValue5
  t9 := Tryz.underlying9
  a9 := Tryz.isAgg9
  z9 := Tryz.sizeOf9
  v9 := Tryz.zeroValue9
  t22 := Tryz.underlying22
  a22 := Tryz.isAgg22
  z22 := Tryz.sizeOf22
  v22 := Tryz.zeroValue22
  t23 := Tryz.underlying22
  a23 := Tryz.isAgg22
  z23 := Tryz.sizeOf22
  v23 := Tryz.zeroValue22
  t25 := Tryz.underlying3
  a25 := Tryz.isAgg3
  z25 := Tryz.sizeOf3
  v25 := Tryz.zeroValue3
  t32 := Tryz.underlying185
  a32 := Tryz.isAgg185
  z32 := Tryz.sizeOf185
  v32 := Tryz.zeroValue185
  t35 := Tryz.underlying214
  a35 := Tryz.isAgg214
  z35 := Tryz.sizeOf214
  v35 := Tryz.zeroValue214
  t36 := Tryz.underlying215
  a36 := Tryz.isAgg215
  z36 := Tryz.sizeOf215
  v36 := Tryz.zeroValue215
  t41 := Tryz.underlying173
  a41 := Tryz.isAgg173
  z41 := Tryz.sizeOf173
  v41 := Tryz.zeroValue173
  t44 := Tryz.underlying207
  a44 := Tryz.isAgg207
  z44 := Tryz.sizeOf207
  v44 := Tryz.zeroValue207
  t46 := Tryz.underlying210
  a46 := Tryz.isAgg210
  z46 := Tryz.sizeOf210
  v46 := Tryz.zeroValue210
  t53 := Tryz.underlying230
  a53 := Tryz.isAgg230
  z53 := Tryz.sizeOf230
  v53 := Tryz.zeroValue230
  t57 := Tryz.underlying234
  a57 := Tryz.isAgg234
  z57 := Tryz.sizeOf234
  v57 := Tryz.zeroValue234
  t63 := Tryz.underlying241
  a63 := Tryz.isAgg241
  z63 := Tryz.sizeOf241
  v63 := Tryz.zeroValue241
  t64 := Tryz.underlying51
  a64 := Tryz.isAgg51
  z64 := Tryz.sizeOf51
  v64 := Tryz.zeroValue51 }
theorem tnh109 {xs : List (Int)} {Φ : List (Int) → Prop} (hlen : xs.length ≤ 1099511627776) (hW : Φ (sortI xs)) {H : Hp} {w : World} {base : Nat} {v : Value} {n : Nat} {s : List Value} (_ : ∀ b o, H b = some o → w.heap[b]? = some o) (_ : ∀ b, v.ownBlock = some b → H b = none) (ho : w.ownsRow base 3 1 v n s) (hn : n = xs.length) (hd : DtL (α := Int) H s xs) : Calls Tryz.prog 109 (v :: fnVs []).toArray w fun e w' => e = .returned (.tuple #[]) ∧ ∃ (ys : List (Int)) (s' : List Value), Φ ys ∧ DtL (α := Int) H s' ys ∧ ys.length = xs.length ∧ w.grownBy w' v.ownBlock ∧ w'.ownsRow base 3 1 v n s' := by
  obtain rfl := DtL.ints hd
  obtain ⟨_, ⟨hv, h0⟩ | ⟨g, cap, cur, hv, _⟩⟩ := id ho
  · subst hv
    have hx : xs = [] := List.eq_nil_of_length_eq_zero (hn.symm.trans h0)
    have hc := AnyM.slices_Sort_int_none Tryz.layS none 0 w
    change Calls Tryz.prog 109 _ _ _ at hc
    refine hc.mono fun e w' ⟨h2, h3⟩ => ⟨h2, xs, _, ?_, hd, rfl, ?_, ?_⟩
    · rw [hx] at hW ⊢; exact hW
    · rw [h3]; exact ⟨rfl, rfl, rfl, Nat.le_refl _, fun _ _ _ => rfl⟩
    · rw [h3]; exact ho
  · subst hv
    obtain ⟨hH, hb⟩ := owns_holds (enc := Value.int .i64) (d := xs.toArray) ho (by simp)
    have hc := AnyM.slices_Sort_int Tryz.layS g 0 cap xs w hH hb (by omega)
    change Calls Tryz.prog 109 _ _ _ at hc
    rw [← hn] at hc
    refine hc.mono fun e w' ⟨h2, m, os, h3⟩ => ⟨h2, sortI xs, _, hW, DtL.ofInts _, (sortI_perm xs).length_eq, ?_, ?_⟩
    · rw [h3]; exact sorted_grown _ _ _ _ _
    · rw [h3, sortI_merge]
      have := sorted_owns (Value.int .i64) m (sortI xs).toArray os ho (by rw [List.size_toArray, (sortI_perm xs).length_eq, hn]; exact (Nat.mul_one _).symm)
      exact this
theorem tnok109 : tn109.Ok Tryz.prog gh := fun _ _ hW _ _ _ _ _ _ _ hag hap ho hn hd => tnh109 hW.1 hW.2 hag hap ho hn hd
theorem pk22 (v : Value) (cs : List Value) : PkR Tryz.prog 22 v cs = (cs = [v]) := by kernel_rfl
set_option maxRecDepth 100000 in
theorem ok110 : ct110.Ok Tryz.prog tab gh := by
  intro x Φ hW H vs hG hA
  obtain ⟨v0, k0, q0, rfl, p0, r0, hq⟩ := hA
  obtain rfl : q0 = [] := hq
  rw [pk22] at p0
  subst p0
  obtain ⟨A, n, c, cells, e0, hF⟩ := (show Dt.rd (α := List Int) H _ _ from r0)
  obtain rfl := (List.cons.inj e0).1
  obtain ⟨hs, hΦ⟩ := (show smallB x.1 = true ∧ Φ (textS x.1, ()) from hW)
  intro w hw
  refine (text_calls hF hs w hw).mono fun e w' ⟨h1, h2⟩ => ⟨_, H, [], h1, (Mem.start hw).frame h2, _, hΦ, fun nx ρ0 hn0 s b m hre => ?_⟩
  rw [show resE Tryz.prog tab ct110.rs ct110.own (textS x.1, ()) nx = some (.st (textS x.1), [], nx) by kernel_rfl] at hre
  cases hre
  exact ⟨ρ0, RM.le.refl _, Nat.le_refl _, hn0, fun _ _ => rfl, rfl, rfl⟩
def Tryz.layF_ren : Go.Shelf.Ren := ⟨fun | 6 => 111 | 15 => 150 | 14 => 154 | 28 => 175 | 29 => 176 | 20 => 179 | 21 => 180 | 22 => 181 | 23 => 182 | 24 => 183 | 25 => 184 | 26 => 185 | 27 => 186 | 46 => 197 | 47 => 191 | 48 => 192 | 49 => 198 | 50 => 199 | 57 => 205 | n => n, fun | 22 => 29 | 24 => 22 | 25 => 147 | 3 => 3 | 39 => 185 | 0 => 0 | 53 => 207 | 55 => 210 | 4 => 4 | 46 => 215 | 45 => 214 | 50 => 173 | 5 => 5 | 9 => 9 | 66 => 230 | 70 => 234 | 76 => 241 | 77 => 51 | n => n, fun | n => n⟩
theorem Tryz.layF : Go.Proofs.SlLaysF.n6 Tryz.prog Tryz.layF_ren := {
  mixed := by kernel_rfl
  f6 := ⟨Tryz.f111.name, by decide, Tryz.func111.trans (congrArg some (by kernel_rfl))⟩
  f14 := ⟨Tryz.f154.name, by decide, Tryz.func154.trans (congrArg some (by kernel_rfl))⟩
  f15 := Tryz.func150.trans (congrArg some (by kernel_rfl))
  f20 := ⟨Tryz.f179.name, by decide, Tryz.func179.trans (congrArg some (by kernel_rfl))⟩
  f21 := ⟨Tryz.f180.name, by decide, Tryz.func180.trans (congrArg some (by kernel_rfl))⟩
  f22 := ⟨Tryz.f181.name, by decide, Tryz.func181.trans (congrArg some (by kernel_rfl))⟩
  f23 := ⟨Tryz.f182.name, by decide, Tryz.func182.trans (congrArg some (by kernel_rfl))⟩
  f24 := ⟨Tryz.f183.name, by decide, Tryz.func183.trans (congrArg some (by kernel_rfl))⟩
  f25 := ⟨Tryz.f184.name, by decide, Tryz.func184.trans (congrArg some (by kernel_rfl))⟩
  f26 := ⟨Tryz.f185.name, by decide, Tryz.func185.trans (congrArg some (by kernel_rfl))⟩
  f27 := ⟨Tryz.f186.name, by decide, Tryz.func186.trans (congrArg some (by kernel_rfl))⟩
  f28 := Tryz.func175.trans (congrArg some (by kernel_rfl))
  f29 := Tryz.func176.trans (congrArg some (by kernel_rfl))
  f46 := ⟨Tryz.f197.name, by decide, Tryz.func197.trans (congrArg some (by kernel_rfl))⟩
  f47 := Tryz.func191.trans (congrArg some (by kernel_rfl))
  f48 := Tryz.func192.trans (congrArg some (by kernel_rfl))
  f49 := ⟨Tryz.f198.name, by decide, Tryz.func198.trans (congrArg some (by kernel_rfl))⟩
  f50 := ⟨Tryz.f199.name, by decide, Tryz.func199.trans (congrArg some (by kernel_rfl))⟩
  f57 := ⟨Tryz.f205.name, by decide, Tryz.func205.trans (congrArg some (by kernel_rfl))⟩
  t0 := Tryz.underlying0
  a0 := Tryz.isAgg0
  z0 := Tryz.sizeOf0
  v0 := Tryz.zeroValue0
  t3 := Tryz.underlying3
  a3 := Tryz.isAgg3
  z3 := Tryz.sizeOf3
  v3 := Tryz.zeroValue3
  t4 := Tryz.underlying4
  a4 := Tryz.isAgg4
  z4 := Tryz.sizeOf4
  v4 := Tryz.zeroValue4
  t5 := Tryz.underlying5
  a5 := Tryz.isAgg5
  z5 := Tryz.sizeOf5
  v5 := Tryz.zeroValue5
  t9 := Tryz.underlying9
  a9 := Tryz.isAgg9
  z9 := Tryz.sizeOf9
  v9 := Tryz.zeroValue9
  t22 := Tryz.underlying29
  a22 := Tryz.isAgg29
  z22 := Tryz.sizeOf29
  v22 := Tryz.zeroValue29
  a24 := Tryz.isAgg22
  z24 := Tryz.sizeOf22
  t25 := Tryz.underlying147
  a25 := Tryz.isAgg147
  z25 := Tryz.sizeOf147
  v25 := Tryz.zeroValue147
  t39 := Tryz.underlying185
  a39 := Tryz.isAgg185
  z39 := Tryz.sizeOf185
  v39 := Tryz.zeroValue185
  t45 := Tryz.underlying214
  a45 := Tryz.isAgg214
  z45 := Tryz.sizeOf214
  v45 := Tryz.zeroValue214
  t46 := Tryz.underlying215
  a46 := Tryz.isAgg215
  z46 := Tryz.sizeOf215
  v46 := Tryz.zeroValue215
  t50 := Tryz.underlying173
  a50 := Tryz.isAgg173
  z50 := Tryz.sizeOf173
  v50 := Tryz.zeroValue173
  t53 := Tryz.underlying207
  a53 := Tryz.isAgg207
  z53 := Tryz.sizeOf207
  v53 := Tryz.zeroValue207
  t55 := Tryz.underlying210
  a55 := Tryz.isAgg210
  z55 := Tryz.sizeOf210
  v55 := Tryz.zeroValue210
  t66 := Tryz.underlying230
  a66 := Tryz.isAgg230
  z66 := Tryz.sizeOf230
  v66 := Tryz.zeroValue230
  t70 := Tryz.underlying234
  a70 := Tryz.isAgg234
  z70 := Tryz.sizeOf234
  v70 := Tryz.zeroValue234
  t76 := Tryz.underlying241
  a76 := Tryz.isAgg241
  z76 := Tryz.sizeOf241
  v76 := Tryz.zeroValue241
  t77 := Tryz.underlying51
  a77 := Tryz.isAgg51
  z77 := Tryz.sizeOf51
  v77 := Tryz.zeroValue51 }
theorem tnh111 {xs : List (List Int)} {Φ : List (List Int) → Prop} (hlen : xs.length ≤ 1099511627776) (hW : Φ (sortL xs)) {H : Hp} {w : World} {base : Nat} {v : Value} {n : Nat} {s : List Value} (hag : ∀ b o, H b = some o → w.heap[b]? = some o) (hap : ∀ b, v.ownBlock = some b → H b = none) (ho : w.ownsRow base 22 1 v n s) (hn : n = xs.length) (hd : DtL (α := List Int) H s xs) : Calls Tryz.prog 111 (v :: fnVs [112]).toArray w fun e w' => e = .returned (.tuple #[]) ∧ ∃ (ys : List (List Int)) (s' : List Value), Φ ys ∧ DtL (α := List Int) H s' ys ∧ ys.length = xs.length ∧ w.grownBy w' v.ownBlock ∧ w'.ownsRow base 22 1 v n s' := by
  obtain ⟨l, e1, e2⟩ := DtL.els hd
  have hll : l.length = n := by rw [hn, e2, List.length_map]
  have none : ∀ p cap, v = .slice p 0 cap → n = 0 → Calls Tryz.prog 111 (v :: fnVs [112]).toArray w fun e w' => e = .returned (.tuple #[]) ∧ ∃ (ys : List (List Int)) (s' : List Value), Φ ys ∧ DtL (α := List Int) H s' ys ∧ ys.length = xs.length ∧ w.grownBy w' v.ownBlock ∧ w'.ownsRow base 22 1 v n s' := by
    intro p cap hv h0
    have hx : xs = [] := List.eq_nil_of_length_eq_zero (hn.symm.trans h0)
    have hc := AnyF.slices_SortFunc_none (P := Tryz.prog) (ρ := Tryz.layF_ren) { Tryz.layF with } p cap (.func (.func 112) #[] #[]) w
    change Calls Tryz.prog 111 _ _ _ at hc
    rw [hv]
    refine hc.mono fun e w' ⟨h2, h3⟩ => ⟨h2, xs, s, ?_, hd, rfl, ?_, ?_⟩
    · rw [hx] at hW ⊢; exact hW
    · rw [h3]; exact ⟨rfl, rfl, rfl, Nat.le_refl _, fun _ _ _ => rfl⟩
    · rw [h3, ← hv]; exact ho
  obtain ⟨_, ⟨hv, h0⟩ | ⟨g, cap, cur, hv, _⟩⟩ := id ho
  · exact none _ _ hv h0
  · cases hl : l with
    | nil =>
      have h0 : n = 0 := by rw [← hll, hl]; rfl
      subst h0
      exact none _ _ hv rfl
    | cons p0 l' =>
      haveI : Inhabited (ElL H) := ⟨p0⟩
      subst hv
      obtain ⟨hH, hb⟩ := owns_holds (enc := fun p : ElL H => p.1.1) (d := l.toArray) ho (by simpa using e1)
      have hgH : H g = Option.none := hap g rfl
      have eg : ∀ args w, (callFunc 112 args).run Tryz.prog w = .ok (.enter 112 args) w := enters_of Tryz.func112 (by kernel_rfl) rfl
      have hcmp : CmpLays1 Tryz.prog 112 #[] (fun p : ElL H => p.1.1) (fun p q => cmpL p.1.2 q.1.2) g 0 l.toArray.size w := fun m os dk _ p q => by
        have := cmp_calls p q (sortWorld (fun p : ElL H => p.1.1) w g 0 m dk os) fun b o hbo => by
          have h1 := hag b o hbo
          have hne : b ≠ g := by rintro rfl; rw [hgH] at hbo; cases hbo
          unfold sortWorld
          rw [sorted_old _ _ _ _ _ (lt_of_heap h1) hne]; exact h1
        exact this
      have hc := Any.slices_SortFunc Tryz.layF (fun p : ElL H => p.1.1) ElL.one (fun p q => cmpL p.1.2 q.1.2) (swoL H) 112 #[] g 0 cap l.toArray w eg hcmp hH hb (by rw [List.size_toArray, hll]; omega)
      change Calls Tryz.prog 111 _ _ _ at hc
      rw [List.size_toArray, hll] at hc
      refine hc.mono fun e w' ⟨h2, d', m, os, hp, hso, h3⟩ => ?_
      have hd' : d'.size = n := by rw [hp.1, List.size_toArray, hll]
      have hpe : d'.toList.Perm l := by
        have h4 := hp.2.2
        rw [show d'.extract 0 n = d' by rw [← hd']; simp, show l.toArray.extract 0 n = l.toArray by rw [← hll]; simp] at h4
        simpa using h4
      have hys : d'.toList.map (fun p => p.1.2) = sortL xs := by
        rw [e2]
        refine sortL_of (hpe.map _) (List.pairwise_iff_getElem.2 fun i j hi hj hij => ?_)
        have hi' : i < d'.size := by simpa using hi
        have hj' : j < d'.size := by simpa using hj
        have h5 := hso i j (Nat.zero_le _) hij (by rw [hd'] at hj'; exact hj')
        rw [getElem!_pos d' j hj', getElem!_pos d' i hi'] at h5
        simpa using ltL_false.1 h5
      refine ⟨h2, sortL xs, d'.toList.map (fun p => p.1.1), hW, ?_, (sortL_perm xs).length_eq, ?_, ?_⟩
      · rw [← hys]; exact DtL.ofEls _
      · rw [h3]; exact sorted_grown _ _ _ _ _
      · rw [h3]; exact sorted_owns (fun p : ElL H => p.1.1) m d' os ho (by rw [hd']; exact (Nat.mul_one _).symm)
theorem tnok111 : tn111.Ok Tryz.prog gh := fun _ _ hW _ _ _ _ _ _ _ hag hap ho hn hd => tnh111 hW.1 hW.2 hag hap ho hn hd
theorem ok60 : ct60.Ok Tryz.prog tab gh := Ct.lift (E := ⟨Tryz.prog, tab, [ct43, ct107, ct108, ct110], pl60, [], gh, [tn109, tn111]⟩) ⟨tabOk, ⟨ok43, ok107, ok108, ok110, trivial⟩, mo, trivial, ghUp, ⟨tnok109, tnok111, trivial⟩⟩ 9 ct60 fun x Φ => by rw [eq60]; exact id
theorem ok14 : ct14.Ok Tryz.prog tab gh := Ct.lift (E := ⟨Tryz.prog, tab, [ct32, ct60, ct106], pl14, [], gh, []⟩) ⟨tabOk, ⟨ok32, ok60, ok106, trivial⟩, mo, trivial, ghUp, trivial⟩ 9 ct14 fun x Φ => by rw [eq14]; exact id
theorem ok68 : ct68.Ok Tryz.prog tab gh := Ct.lift (E := ⟨Tryz.prog, tab, [], pl68, [], gh, []⟩) ⟨tabOk, trivial, mo, trivial, ghUp, trivial⟩ 9 ct68 fun x Φ => by rw [eq68]; exact id
theorem itok121 : it121.Ok Tryz.prog gh := It.lift (E := ⟨Tryz.prog, tab, [], pl121, [], gh, []⟩) ⟨tabOk, trivial, mo, trivial, ghUp, trivial⟩ it121 fun x l => by rw [eqi121]; exact id
theorem ok71 : ct71.Ok Tryz.prog tab gh := Ct.lift (E := ⟨Tryz.prog, tab, [], pl71, [it121], gh, []⟩) ⟨tabOk, trivial, mo, ⟨itok121, trivial⟩, ghUp, trivial⟩ 9 ct71 fun x Φ => by rw [eq71]; exact id
theorem ok17 : ct17.Ok Tryz.prog tab gh := Ct.lift (E := ⟨Tryz.prog, tab, [ct32, ct68, ct70, ct71, ct106, ct107], pl17, [it121], gh, []⟩) ⟨tabOk, ⟨ok32, ok68, ok70, ok71, ok106, ok107, trivial⟩, mo, ⟨itok121, trivial⟩, ghUp, trivial⟩ 9 ct17 fun x Φ => by rw [eq17]; exact id
theorem ok19 : ct19.Ok Tryz.prog tab gh := Ct.lift (E := ⟨Tryz.prog, tab, [ct32, ct68, ct70, ct71, ct106, ct107], pl19, [it121], gh, []⟩) ⟨tabOk, ⟨ok32, ok68, ok70, ok71, ok106, ok107, trivial⟩, mo, ⟨itok121, trivial⟩, ghUp, trivial⟩ 9 ct19 fun x Φ => by rw [eq19]; exact id
theorem ok23 : ct23.Ok Tryz.prog tab gh := Ct.lift (E := ⟨Tryz.prog, tab, [], pl23, [], gh, []⟩) ⟨tabOk, trivial, mo, trivial, ghUp, trivial⟩ 9 ct23 fun x Φ => by rw [eq23]; exact id
theorem ok33 : ct33.Ok Tryz.prog tab gh := Ct.lift (E := ⟨Tryz.prog, tab, [], pl33, [], gh, []⟩) ⟨tabOk, trivial, mo, trivial, ghUp, trivial⟩ 9 ct33 fun x Φ => by rw [eq33]; exact id
theorem ok128 : ct128.Ok Tryz.prog tab gh := Ct.lift (E := ⟨Tryz.prog, tab, [], pl128, [], gh, []⟩) ⟨tabOk, trivial, mo, trivial, ghUp, trivial⟩ 9 ct128 fun x Φ => by rw [eq128]; exact id
theorem ok80 : ct80.Ok Tryz.prog tab gh := Ct.lift (E := ⟨Tryz.prog, tab, [ct128], pl80, [], gh, []⟩) ⟨tabOk, ⟨ok128, trivial⟩, mo, trivial, ghUp, trivial⟩ 9 ct80 fun x Φ => by rw [eq80]; exact id
theorem ok84 : ct84.Ok Tryz.prog tab gh := Ct.lift (E := ⟨Tryz.prog, tab, [], pl84, [], gh, []⟩) ⟨tabOk, trivial, mo, trivial, ghUp, trivial⟩ 9 ct84 fun x Φ => by rw [eq84]; exact id
theorem itok145 : it145.Ok Tryz.prog gh := It.lift (E := ⟨Tryz.prog, tab, [], pl145, [], gh, []⟩) ⟨tabOk, trivial, mo, trivial, ghUp, trivial⟩ it145 fun x l => by rw [eqi145]; exact id
theorem ok87 : ct87.Ok Tryz.prog tab gh := Ct.lift (E := ⟨Tryz.prog, tab, [], pl87, [], gh, []⟩) ⟨tabOk, trivial, mo, trivial, ghUp, trivial⟩ 9 ct87 fun x Φ => by rw [eq87]; exact id
theorem ok49 : ct49.Ok Tryz.prog tab gh := Ct.lift (E := ⟨Tryz.prog, tab, [ct56, ct87], pl49, [], gh, []⟩) ⟨tabOk, ⟨ok56, ok87, trivial⟩, mo, trivial, ghUp, trivial⟩ 9 ct49 fun x Φ => by rw [eq49]; exact id
theorem ok129 : ct129.Ok Tryz.prog tab gh := Ct.lift (E := ⟨Tryz.prog, tab, [], pl129, [], gh, []⟩) ⟨tabOk, trivial, mo, trivial, ghUp, trivial⟩ 9 ct129 fun x Φ => by rw [eq129]; exact id
theorem ok130 : ct130.Ok Tryz.prog tab gh := Ct.lift (E := ⟨Tryz.prog, tab, [], pl130, [], gh, []⟩) ⟨tabOk, trivial, mo, trivial, ghUp, trivial⟩ 9 ct130 fun x Φ => by rw [eq130]; exact id
theorem ok88 : ct88.Ok Tryz.prog tab gh := Ct.lift (E := ⟨Tryz.prog, tab, [ct129, ct130], pl88, [], gh, []⟩) ⟨tabOk, ⟨ok129, ok130, trivial⟩, mo, trivial, ghUp, trivial⟩ 9 ct88 fun x Φ => by rw [eq88]; exact id
theorem ok89 : ct89.Ok Tryz.prog tab gh := Ct.lift (E := ⟨Tryz.prog, tab, [], pl89, [], gh, []⟩) ⟨tabOk, trivial, mo, trivial, ghUp, trivial⟩ 9 ct89 fun x Φ => by rw [eq89]; exact id
theorem ok135 : ct135.Ok Tryz.prog tab gh := Ct.lift (E := ⟨Tryz.prog, tab, [], pl135, [], gh, []⟩) ⟨tabOk, trivial, mo, trivial, ghUp, trivial⟩ 9 ct135 fun x Φ => by rw [eq135]; exact id
theorem ok138 : ct138.Ok Tryz.prog tab gh := Ct.lift (E := ⟨Tryz.prog, tab, [], pl138, [], gh, []⟩) ⟨tabOk, trivial, mo, trivial, ghUp, trivial⟩ 9 ct138 fun x Φ => by rw [eq138]; exact id
theorem okT163 : ct163.Ok Tryz.prog tab ghT := Ct.lift (E := ⟨Tryz.prog, tab, [], pl163, [], ghT, []⟩) ⟨tabOk, trivial, mo, trivial, fun _ _ _ _ => trivial, trivial⟩ 9 ct163 fun x Φ => by
  have h : ct163.W x Φ = topF ⟨Tryz.prog, tab, [], pl163, [], ghT, []⟩ 9 ct163.f ct163.ps ct163.rs ct163.own x Φ := by kernel_rfl
  rw [h]; exact id
theorem pk71 (v : Value) (cs : List Value) : PkR Tryz.prog 71 v cs = (cs = [v]) := by kernel_rfl
theorem image_Check_lift {H : Hp} (x0 : List (List Sec)) {A1 : Option Addr} {n1 c1 : Nat} {s1 : List Value} (hF1 : Fz (α := List Sec) H A1 n1 c1 x0 s1) {Φ : Int → Prop} (hm : image_Check_W x0 Φ) : RetP Tryz.prog 133 #[.slice A1 n1 c1] H (fun _ v L => ∃ y, Φ y ∧ v = .int .i64 (y) ∧ L = []) := by
  refine RetP.mono (okT133 (x0, ()) (fun y => Φ y.1) hm H [.slice A1 n1 c1] trivial ⟨_, [.slice A1 n1 c1], _, rfl, by rw [pk71], (show Dt.rd (α := List (List Sec)) H _ _ from ⟨A1, n1, c1, s1, rfl, hF1⟩), rfl⟩) fun H' v L _ ⟨y, hy, hr⟩ => ?_
  obtain ⟨ρ, _, _, _, _, h1, h2⟩ := hr 0 (fun _ => none) (fun _ _ => rfl) _ _ _ (show resE Tryz.prog tab _ _ y 0 = some (.i .i64 y.1, [], 0) by kernel_rfl)
  exact ⟨y.1, hy, h1, h2⟩
theorem pk117 (v : Value) (cs : List Value) : PkR Tryz.prog 117 v cs = (cs = [v]) := by kernel_rfl
theorem slices_Clone_api_Sector_api_Sector_lift {H : Hp} (x0 : List Sec) {A1 : Option Addr} {n1 c1 : Nat} {s1 : List Value} (hF1 : Fz (α := Sec) H A1 n1 c1 x0 s1) {Φ : List Sec → Prop} (hm : Z54 x0 Φ) : RetP Tryz.prog 163 #[.slice A1 n1 c1] H (fun H' v L => ∃ y, Φ y ∧ ∃ A12, ∃ n12, ∃ c12, ∃ s12, v = .slice A12 n12 c12 ∧ DtL (α := Sec) H' s12 y ∧ n12 = y.length ∧ L = [.row (.slice A12 n12 c12) 123 8 n12 s12]) := by
  refine RetP.mono (okT163 (x0, ()) (fun y => Φ y.1) hm H [.slice A1 n1 c1] trivial ⟨_, [.slice A1 n1 c1], _, rfl, by rw [pk117], (show Dt.rd (α := List Sec) H _ _ from ⟨A1, n1, c1, s1, rfl, hF1⟩), rfl⟩) fun H' v L _ ⟨y, hy, hr⟩ => ?_
  obtain ⟨ρ, _, _, _, _, h1, h2⟩ := hr 0 (fun _ => none) (fun _ _ => rfl) _ _ _ (show resE Tryz.prog tab _ _ y 0 = some (.own 0, [(0, .row 123 y.1)], 1) by kernel_rfl)
  obtain ⟨A, n, c, e1, rfl⟩ := h1
  obtain ⟨S, L', rfl, ⟨A', n', c', s, e2, rfl, e3, e4⟩, e5⟩ := h2
  obtain rfl : L' = [] := e5
  rw [e1] at e2; cases e2
  exact ⟨y.1, hy, A, n, c, s, rfl, e3, e4, rfl⟩
theorem image_mappedE_lift {H : Hp} (x0 : List (List Sec)) {A1 : Option Addr} {n1 c1 : Nat} {s1 : List Value} (hF1 : Fz (α := List Sec) H A1 n1 c1 x0 s1) {Φ : List (List Sec) → Prop} (hm : Z56 x0 Φ) : RetP Tryz.prog 162 #[.slice A1 n1 c1, .func (.func 163) #[] #[]] H (fun H' v L => ∃ y, Φ y ∧ ∃ A45, ∃ n45, ∃ c45, ∃ s45, ∃ rs46, v = .slice A45 n45 c45 ∧ DeepL (α := List Sec) [123] H' s45 y rs46 ∧ n45 = y.length ∧ L = .row (.slice A45 n45 c45) 117 1 n45 s45 :: rs46) := by
 refine RetP.of_code Tryz.func162 rfl (nb rfl) fun w0 hM => ?_
 refine CW.sr <| RW.st (Ex.assign (.slice none 0 0) rfl) rfl <| RW.nil <| CW.sr <| RW.st (Ex.move (.slice A1 n1 c1) rfl) rfl <| RW.st (Ex.lenN st70.1 rfl hF1.hn) rfl ?_
 obtain ⟨hg8, hm⟩ := hm
 obtain ⟨hg9, hm⟩ := hm
 refine RW.makeE (α := List Sec) hM st70 tz117 rfl rfl hg8 hg9 rfl rfl ?_; intro b2 n3 c4 s5 w hd6 hn7 hM
 refine RW.st (Ex.assign (.slice (some ⟨b2, 0, none⟩) n3 c4) rfl) rfl <| RW.nil <| CW.seq <| CW.sr <| RW.st (Ex.move (.slice A1 n1 c1) rfl) rfl <| RW.st (Ex.lenN st70.1 rfl hF1.hn) rfl <| RW.st (Ex.move (.int .i64 0) rfl) rfl <| RW.nil <| CW.block ?_
 obtain ⟨m44, hm⟩ := hm
 skip
 refine CW.loop (β := Nat) (fun n σ w => ∃ (v12 : List (List Sec)), ∃ (A13 : Option Addr), ∃ (n14 : Nat), ∃ (c15 : Nat), ∃ (s16 : List Value), ∃ (rs17 : List Ent), ∃ (v20 : Int), ∃ Hk10, H.le Hk10 ∧ (∃ τ, σ = sl [(1, .func (.func 163) #[] #[]), (5, .slice A13 n14 c15), (11, .slice A1 n1 c1), (12, .int .i64 ((x0.length : Int))), (13, .int .i64 v20)] τ) ∧ Mem w0 H w Hk10 (.row (.slice A13 n14 c15) 117 1 n14 s16 :: rs17) ∧ (DeepL (α := List Sec) [123] Hk10 s16 v12 rs17) ∧ (n14 = v12.length) ∧ LoopN (Z55 x0 Φ) n (v12, v20)) (fun n => n) m44 ⟨([] : List (List Sec)), (some ⟨b2, 0, none⟩), n3, c4, s5, [], 0, H, (Hp.le.refl _), sl_canon ⟨rfl, rfl, rfl, rfl, rfl, trivial⟩, hM, (DeepL.ofNil (Ts := [123]) hd6), hn7, hm⟩ ?_
 rintro k21 _ w ⟨v12, A13, n14, c15, s16, rs17, v20, Hk10, hle11, ⟨τ, rfl⟩, hM, hd18, hn19, hm⟩
 obtain _ | k21 := k21
 · exact hm.elim
 replace hm : (Z55 x0 Φ) (v12, v20) (LoopN (Z55 x0 Φ) k21) := hm
 generalize hrec22 : LoopN (Z55 x0 Φ) k21 = rec1 at hm
 refine CW.sr <| RW.st (Ex.lss rfl rfl) rfl <| RW.nil <| CW.seq ?_
 refine CW.cond_dec (p := v20 < (x0.length : Int)) rfl (fun hc23 => ?_) (fun hc23 => ?_)
 ·
  replace hm := And.left hm hc23
  refine CW.skip <| CW.seq <| CW.block <| CW.sr ?_
  obtain ⟨hg24, hm⟩ := hm
  refine RW.st (Ex.index st70 rfl rfl v20.toNat (hF1.ne hg24) hg24.nat (hF1.lt hg24)) rfl ?_
  obtain ⟨_, ⟨A25, n25, c25, s25, rfl, hF25⟩, hx26⟩ := DtL.getI (α := List Sec) (hF1.mono hle11).dat hg24
  refine RW.st (Ex.loadE hM hle11 hF1.rdc to117 rfl (hx26 0 _ rfl)) rfl <| RW.st (Ex.assign (.slice A25 n25 c25) rfl) rfl <| RW.nil <| CW.region <| RW.st (Ex.move (.slice A13 n14 c15) rfl) rfl <| RW.st (Ex.move (.func (.func 163) #[] #[]) rfl) rfl <| RW.st (Ex.move (.slice A25 n25 c25) rfl) rfl ?_
  refine RW.callP hM (slices_Clone_api_Sector_api_Sector_lift (ix x0 v20) hF25 hm) en163 rfl rfl rfl rfl ?_; rintro _ w H28 _ hle29 ⟨v27, hm, A30, n30, c30, s30, rfl, hd31, hn32, rfl⟩ hM
  refine RW.buildSlice hM st70 tz117 [(0, .slice A30 n30 c30)] [.slice A30 n30 c30] (by decide) rfl rfl rfl (by decide) rfl rfl ?_; intro b33 w hM
  obtain ⟨hg39, hm⟩ := hm
  refine RW.appendH (α := List Sec) (xs := v12) (x0 := v27) hM 2 st70 rfl rfl hn19 rfl (fun j u hj => hM.rowCell (k := 0) rfl rfl hj) rfl (oneAll ⟨rfl, trivial⟩) hg39 rfl rfl ?_; intro A35 n36 c37 w hn38 hM
  obtain ⟨s40, rs41, hd42, hM⟩ := Mem.adopt (α := List Sec) (Ts := [123]) (x := v27) [.row (.slice (some ⟨b33, 0, none⟩) 1 1) 117 1 1 [.slice A30 n30 c30], .row (.slice A35 n36 c37) 117 1 n36 (s16 ++ [.slice A30 n30 c30])] (Mem.pickT (L1 := [.row (.slice (some ⟨b33, 0, none⟩) 1 1) 117 1 1 [.slice A30 n30 c30], .row (.slice A30 n30 c30) 123 8 n30 s30, .row (.slice A35 n36 c37) 117 1 n36 (s16 ++ [.slice A30 n30 c30])]) (T := rs17) hM [1, 0, 2] rfl rfl) 1 rfl (hd18.mono hle29) ⟨A30, n30, c30, s30, rfl, rfl, hd31, hn32⟩
  replace hM : Mem w0 H w H28 (.row (.slice A35 n36 c37) 117 1 n36 s40 :: rs41) := Mem.pickT (L1 := [.row (.slice (some ⟨b33, 0, none⟩) 1 1) 117 1 1 [.slice A30 n30 c30], .row (.slice A35 n36 c37) 117 1 n36 s40]) (T := rs41) hM [1] rfl rfl
  refine RW.st (Ex.assign (.slice A35 n36 c37) rfl) rfl <| RW.nil <| CW.region ?_
  obtain ⟨hg43, hm⟩ := hm
  refine RW.st (Ex.add rfl rfl hg43.1 hg43.2) rfl <| RW.st (Ex.move (.int .i64 (v20 + 1)) rfl) rfl <| RW.nil ?_
  exact And.intro rfl ⟨k21, ⟨(v12 ++ [v27]), A35, n36, c37, s40, rs41, v20 + 1, H28, hle11.trans hle29, sl_canon ⟨rfl, rfl, rfl, rfl, rfl, trivial⟩, hM, hd42, hn38, (by rw [hrec22]; exact hm)⟩, Nat.lt_succ_self _⟩
 ·
  replace hm := And.right hm hc23
  refine CW.exit ?_
  refine CW.sr <| RW.st (Ex.move (.slice A13 n14 c15) rfl) rfl <| RW.st (Ex.assign (.slice A13 n14 c15) rfl) rfl <| RW.nil <| CW.ret ?_
  refine end_tmp (.inl rfl) rfl (.slice A13 n14 c15) rfl ?_
  exact ⟨_, _, hM, v12, hm, A13, n14, c15, s16, rs17, rfl, hd18, hn19, rfl⟩
theorem image_copiedE_lift {H : Hp} (x0 : List (List Sec)) {A1 : Option Addr} {n1 c1 : Nat} {s1 : List Value} (hF1 : Fz (α := List Sec) H A1 n1 c1 x0 s1) {Φ : List (List Sec) → Prop} (hm : Z57 x0 Φ) : RetP Tryz.prog 146 #[.slice A1 n1 c1] H (fun H' v L => ∃ y, Φ y ∧ ∃ A9, ∃ n9, ∃ c9, ∃ s9, ∃ rs10, v = .slice A9 n9 c9 ∧ DeepL (α := List Sec) [123] H' s9 y rs10 ∧ n9 = y.length ∧ L = .row (.slice A9 n9 c9) 117 1 n9 s9 :: rs10) := by
 refine RetP.of_code Tryz.func146 rfl (nb rfl) fun w0 hM => ?_
 refine CW.sr <| RW.st (Ex.assign (.slice none 0 0) rfl) rfl <| RW.nil <| CW.sr <| RW.st (Ex.move (.slice A1 n1 c1) rfl) rfl ?_
 refine RW.callP hM (image_mappedE_lift x0 hF1 hm) en162 rfl rfl rfl rfl ?_; rintro _ w H3 _ hle4 ⟨v2, hm, A5, n5, c5, s5, rs6, rfl, hd7, hn8, rfl⟩ hM
 replace hM := Mem.toTail (a := [.row (.slice A5 n5 c5) 117 1 n5 s5]) (b := rs6) (c := []) hM
 refine RW.st (Ex.assign (.slice A5 n5 c5) rfl) rfl <| RW.nil <| CW.ret ?_
 refine end_tmp (.inl rfl) rfl (.slice A5 n5 c5) rfl ?_
 exact ⟨_, _, hM, v2, hm, A5, n5, c5, s5, rs6, rfl, hd7, hn8, rfl⟩
theorem pk119 (v : Value) (cs : List Value) : PkR Tryz.prog 119 v cs = (v = .agg cs.toArray) := by kernel_rfl
theorem image_fits_lift {H : Hp} (x0 : List (List Sec)) (x1 : api_Write) {A1 : Option Addr} {n1 c1 : Nat} {s1 : List Value} (hF1 : Fz (α := List Sec) H A1 n1 c1 x0 s1) {A2 : Option Addr} {n2 c2 : Nat} {s2 : List Value} (hF2 : Fz (α := Sec) H A2 n2 c2 x1.Data s2) {Φ : Int → Prop} (hm : image_fits_W x0 x1 Φ) : RetP Tryz.prog 147 #[.slice A1 n1 c1, .agg #[.int .i64 (x1.Volume), .int .i64 (x1.Start), .slice A2 n2 c2]] H (fun _ v L => ∃ y, Φ y ∧ v = .int .i64 (y) ∧ L = []) := by
  refine RetP.mono (okT147 (x0, x1, ()) (fun y => Φ y.1) hm H [.slice A1 n1 c1, .agg #[.int .i64 (x1.Volume), .int .i64 (x1.Start), .slice A2 n2 c2]] trivial ⟨_, [.slice A1 n1 c1], _, rfl, by rw [pk71], (show Dt.rd (α := List (List Sec)) H _ _ from ⟨A1, n1, c1, s1, rfl, hF1⟩), ⟨_, [.int .i64 (x1.Volume), .int .i64 (x1.Start), .slice A2 n2 c2], _, rfl, by rw [pk119], (show Dt.rd (α := api_Write) H _ _ from ⟨A2, n2, c2, s2, rfl, hF2⟩), rfl⟩⟩) fun H' v L _ ⟨y, hy, hr⟩ => ?_
  obtain ⟨ρ, _, _, _, _, h1, h2⟩ := hr 0 (fun _ => none) (fun _ _ => rfl) _ _ _ (show resE Tryz.prog tab _ _ y 0 = some (.i .i64 y.1, [], 0) by kernel_rfl)
  exact ⟨y.1, hy, h1, h2⟩
theorem image_Apply_lift {H : Hp} (x0 : List (List Sec)) (x1 : List api_Write) {A1 : Option Addr} {n1 c1 : Nat} {s1 : List Value} (hF1 : Fz (α := List Sec) H A1 n1 c1 x0 s1) {A2 : Option Addr} {n2 c2 : Nat} {s2 : List Value} (hF2 : Fz (α := api_Write) H A2 n2 c2 x1 s2) {Φ : List (List Sec) × Int × Int → Prop} (hm : image_Apply_W x0 x1 Φ) : RetP Tryz.prog 99 #[.slice A1 n1 c1, .slice A2 n2 c2] H (fun H' v L => ∃ y, Φ y ∧ ∃ A89, ∃ n89, ∃ c89, ∃ s89, ∃ rs90, v = .tuple #[.slice A89 n89 c89, .int .i64 (y.2.1), .int .i64 (y.2.2)] ∧ DeepL (α := List Sec) [123] H' s89 y.1 rs90 ∧ n89 = y.1.length ∧ L = .row (.slice A89 n89 c89) 117 1 n89 s89 :: rs90) := by
 refine RetP.of_code Tryz.func99 rfl (nb rfl) fun w0 hM => ?_
 refine CW.sr <| RW.st (Ex.assign (.slice none 0 0) rfl) rfl <| RW.st (Ex.assign (.int .i64 0) rfl) rfl <| RW.st (Ex.assign (.int .i64 0) rfl) rfl <| RW.nil <| CW.seq <| CW.sr <| RW.st (Ex.move (.slice A1 n1 c1) rfl) rfl ?_
 refine RW.callP hM (image_Check_lift x0 hF1 hm) en133 rfl rfl rfl rfl ?_; rintro _ w H4 _ hle5 ⟨v3, hm, rfl, rfl⟩ hM
 refine RW.st (Ex.assign (.int .i64 v3) rfl) rfl <| RW.nil <| CW.sr <| RW.st (Ex.move (.int .i64 v3) rfl) rfl <| RW.st (Ex.neq rfl rfl) rfl <| RW.nil ?_
 refine CW.cond_dec (p := v3 ≠ 0) rfl (fun hc6 => ?_) (fun hc6 => ?_)
 ·
  replace hm := And.left hm hc6
  refine CW.sr <| RW.st (Ex.move (.int .i64 v3) rfl) rfl <| RW.st (Ex.assign (.slice none 0 0) rfl) rfl <| RW.st (Ex.assign (.int .i64 0) rfl) rfl <| RW.st (Ex.assign (.int .i64 v3) rfl) rfl <| RW.nil <| CW.ret ?_
  refine thenQ_ret ?_
  refine end_tmp3 (.inl rfl) rfl (.slice none 0 0) (.int .i64 0) (.int .i64 v3) rfl rfl rfl ?_
  replace hM := hM.nilRow 117 1
  exact ⟨_, _, hM, (([] : List (List Sec)), 0, v3), hm, none, 0, 0, [], [], rfl, (DeepL.nil : DeepL (α := List Sec) [123] H4 [] [] []), rfl, rfl⟩
 ·
  replace hm := And.right hm hc6
  refine CW.skip <| CW.sr <| RW.st (Ex.move (.slice A1 n1 c1) rfl) rfl ?_
  refine RW.callP hM (image_copiedE_lift x0 (hF1.mono hle5) hm) en146 rfl rfl rfl rfl ?_; rintro _ w H8 _ hle9 ⟨v7, hm, A10, n10, c10, s10, rs11, rfl, hd12, hn13, rfl⟩ hM
  replace hM := Mem.toTail (a := [.row (.slice A10 n10 c10) 117 1 n10 s10]) (b := rs11) (c := []) hM
  refine RW.st (Ex.assign (.slice A10 n10 c10) rfl) rfl <| RW.nil <| CW.seq <| CW.sr <| RW.st (Ex.move (.slice A2 n2 c2) rfl) rfl <| RW.st (Ex.lenN st23.1 rfl hF2.hn) rfl <| RW.st (Ex.move (.int .i64 0) rfl) rfl <| RW.nil <| CW.block ?_
  obtain ⟨m88, hm⟩ := hm
  skip
  refine CW.loop (β := Nat) (fun n σ w => ∃ (v16 : List (List Sec)), ∃ (A17 : Option Addr), ∃ (n18 : Nat), ∃ (c19 : Nat), ∃ (s20 : List Value), ∃ (rs21 : List Ent), ∃ (v24 : Int), ∃ Hk14, H8.le Hk14 ∧ (∃ τ, σ = sl [(8, .slice A17 n18 c19), (19, .slice A2 n2 c2), (20, .int .i64 ((x1.length : Int))), (21, .int .i64 v24)] τ) ∧ Mem w0 H w Hk14 (.row (.slice A17 n18 c19) 117 1 n18 s20 :: rs21) ∧ (DeepL (α := List Sec) [123] Hk14 s20 v16 rs21) ∧ (n18 = v16.length) ∧ LoopN (Z58 x1 Φ) n (v16, v24)) (fun n => n) m88 ⟨v7, A10, n10, c10, s10, rs11, 0, H8, (Hp.le.refl _), sl_canon ⟨rfl, rfl, rfl, rfl, trivial⟩, hM, hd12, hn13, hm⟩ ?_
  rintro k25 _ w ⟨v16, A17, n18, c19, s20, rs21, v24, Hk14, hle15, ⟨τ, rfl⟩, hM, hd22, hn23, hm⟩
  obtain _ | k25 := k25
  · exact hm.elim
  replace hm : (Z58 x1 Φ) (v16, v24) (LoopN (Z58 x1 Φ) k25) := hm
  generalize hrec26 : LoopN (Z58 x1 Φ) k25 = rec1 at hm
  refine CW.sr <| RW.st (Ex.lss rfl rfl) rfl <| RW.nil <| CW.seq ?_
  refine CW.cond_dec (p := v24 < (x1.length : Int)) rfl (fun hc27 => ?_) (fun hc27 => ?_)
  ·
   replace hm := And.left hm hc27
   refine CW.skip <| CW.seq <| CW.block <| CW.sr <| RW.st (Ex.move (.int .i64 v24) rfl) rfl ?_
   obtain ⟨hg28, hm⟩ := hm
   refine RW.st (Ex.index st23 rfl rfl v24.toNat (hF2.ne hg28) hg28.nat (hF2.lt hg28)) rfl ?_
   obtain ⟨_, ⟨A29, n29, c29, s29, rfl, hF29⟩, hx30⟩ := DtL.getI (α := api_Write) (hF2.mono ((hle5.trans hle9).trans hle15)).dat hg28
   refine RW.st (Ex.loadEA hM ((hle5.trans hle9).trans hle15) hF2.rdc [.int .i64 ((ix x1 v24).Volume), .int .i64 ((ix x1 v24).Start), .slice A29 n29 c29] ta119 rfl (hF2.ne hg28) rfl (chunk_sub (off := 0) (n := 3) hx30 rfl)) rfl ?_
   refine RW.alloc hM tz119 [.int .i64 0, .int .i64 0, .slice none 0 0] rfl rfl rfl ?_; intro b31 w hM
   refine RW.st (Ex.assign (.int .i64 v24) rfl) rfl ?_
   refine RW.store hM 0 (.agg #[.int .i64 ((ix x1 v24).Volume), .int .i64 ((ix x1 v24).Start), .slice A29 n29 c29]) [.int .i64 ((ix x1 v24).Volume), .int .i64 ((ix x1 v24).Start), .slice A29 n29 c29] [.int .i64 ((ix x1 v24).Volume), .int .i64 ((ix x1 v24).Start), .slice A29 n29 c29] sz119 rfl rfl rfl (oneAll ⟨rfl, rfl, rfl, trivial⟩) rfl (nb rfl) rfl (.box b31 119 [.int .i64 ((ix x1 v24).Volume), .int .i64 ((ix x1 v24).Start), .slice A29 n29 c29] :: .row (.slice A17 n18 c19) 117 1 n18 s20 :: rs21) rfl rfl rfl ?_; intro w hM
   refine RW.nil <| CW.seq <| CW.sr <| RW.st (Ex.move (.slice A17 n18 c19) rfl) rfl <| RW.st (Ex.loadA hM 0 [.int .i64 ((ix x1 v24).Volume), .int .i64 ((ix x1 v24).Start), .slice A29 n29 c29] ta119 rfl rfl rfl rfl) rfl ?_
   have hM1 := hM
   obtain ⟨H32, hM, hle33, hd34⟩ := DeepL.flat (es := [.box b31 119 [.int .i64 ((ix x1 v24).Volume), .int .i64 ((ix x1 v24).Start), .slice A29 n29 c29], .row (.slice A17 n18 c19) 117 1 n18 s20]) hM hd22
   obtain ⟨H35, hM, hle36, hF37⟩ := hM.giveF (α := List Sec) 1 rfl hd34 hn23
   refine RW.callB hM1 hM (image_fits_lift v16 (ix x1 v24) hF37 (hF29.mono (hle33.trans hle36)) hm) en147 rfl rfl rfl rfl ?_; clear hM hM1; intro v38 w hm hM
   refine RW.st (Ex.assign (.int .i64 v38) rfl) rfl <| RW.nil <| CW.sr <| RW.st (Ex.move (.int .i64 v38) rfl) rfl <| RW.st (Ex.neq rfl rfl) rfl <| RW.nil ?_
   refine CW.cond_dec (p := v38 ≠ 0) rfl (fun hc41 => ?_) (fun hc41 => ?_)
   ·
    replace hm := And.left hm hc41
    refine CW.sr <| RW.st (Ex.move (.int .i64 v24) rfl) rfl <| RW.st (Ex.move (.int .i64 v38) rfl) rfl <| RW.st (Ex.assign (.slice none 0 0) rfl) rfl <| RW.st (Ex.assign (.int .i64 v24) rfl) rfl <| RW.st (Ex.assign (.int .i64 v38) rfl) rfl <| RW.nil <| CW.ret ?_
    refine thenQ_ret (blockQ_ret (thenQ_ret (thenQ_ret (blockQ_ret (thenQ_ret ?_)))))
    refine end_tmp3 (.inl rfl) rfl (.slice none 0 0) (.int .i64 v24) (.int .i64 v38) rfl rfl rfl ?_
    replace hM := hM.nilRow 117 1
    exact ⟨_, _, ((Mem.dropT (L1 := [.row (.slice none 0 0) 117 1 0 [], .box b31 119 [.int .i64 ((ix x1 v24).Volume), .int .i64 ((ix x1 v24).Start), .slice A29 n29 c29], .row (.slice A17 n18 c19) 117 1 n18 s20]) (T := rs21) hM).pick [0] rfl rfl), (([] : List (List Sec)), v24, v38), hm, none, 0, 0, [], [], rfl, (DeepL.nil : DeepL (α := List Sec) [123] Hk14 [] [] []), rfl, rfl⟩
   ·
    replace hm := And.right hm hc41
    refine CW.skip ?_
    obtain ⟨hg42, hm⟩ := hm
    obtain ⟨c44, _, c45, _, rs46, rfl, ⟨A43, n43, c43, s43, rfl, rfl, hF43, hn48⟩, hh47, hM⟩ := Mem.focus [.box b31 119 [.int .i64 ((ix x1 v24).Volume), .int .i64 ((ix x1 v24).Start), .slice A29 n29 c29], .row (.slice A17 n18 c19) 117 1 n18 s20] hM hd22 hg42
    have hx49 := Hole.get (ch := [.slice A43 n43 c43]) hh47
    obtain ⟨hg55, hm⟩ := hm
    refine CW.drawL 10 [] [(fun Hq us E => us = [.slice A17 n18 c19] ∧ E = [] ∧ True), (fun Hq us E => us = [.pointer (some ⟨b31, 0, none⟩)] ∧ E = [] ∧ True), (fun Hq us E => us = [.int .i64 ((ix x1 v24).Volume)] ∧ E = [] ∧ True), (fun Hq us E => us = [elp A17 ((((ix x1 v24).Volume).toNat) * 1 + 0)] ∧ E = [] ∧ True), (fun Hq us E => us = [.slice A43 n43 c43] ∧ E = [] ∧ True), (fun Hq us E => us = [.pointer (some ⟨b31, 1, none⟩)] ∧ E = [] ∧ True), (fun Hq us E => us = [.int .i64 ((ix x1 v24).Start)] ∧ E = [] ∧ True), (fun Hq us E => ∃ (A56 : Option Addr), ∃ (n57 : Nat), ∃ (c58 : Nat), us = [.slice A56 n57 c58] ∧ E = [] ∧ View A43 n43 c43 8 ((ix x1 v24).Start) A56 n57 c58 ∧ True), (fun Hq us E => us = [.pointer (some ⟨b31, 2, none⟩)] ∧ E = [] ∧ True), (fun Hq us E => us = [.slice A29 n29 c29] ∧ E = [] ∧ True)]
     (fun k => [[0], [1], [2], [3], [4], [5], [6], [7], [8], [9]].getD k []) (fun _ => none) (by kernel_rfl) hM (by kernel_rfl) (by kernel_rfl) (by kernel_rfl) rfl (by simp only [List.forall_mem_cons]; exact ⟨fun _ _ _ _ hle ⟨e1, e2, _⟩ => ⟨e1, e2, trivial⟩, fun _ _ _ _ hle ⟨e1, e2, _⟩ => ⟨e1, e2, trivial⟩, fun _ _ _ _ hle ⟨e1, e2, _⟩ => ⟨e1, e2, trivial⟩, fun _ _ _ _ hle ⟨e1, e2, _⟩ => ⟨e1, e2, trivial⟩, fun _ _ _ _ hle ⟨e1, e2, _⟩ => ⟨e1, e2, trivial⟩, fun _ _ _ _ hle ⟨e1, e2, _⟩ => ⟨e1, e2, trivial⟩, fun _ _ _ _ hle ⟨e1, e2, _⟩ => ⟨e1, e2, trivial⟩, fun _ _ _ _ hle ⟨A56, n57, c58, e1, e2, hV59, _⟩ => ⟨A56, n57, c58, e1, e2, hV59, trivial⟩, fun _ _ _ _ hle ⟨e1, e2, _⟩ => ⟨e1, e2, trivial⟩, fun _ _ _ _ hle ⟨e1, e2, _⟩ => ⟨e1, e2, trivial⟩, by simp⟩) ⟨?_, ?_, ?_, ?_, ?_, ?_, ?_, ?_, ?_, ?_, trivial⟩ ?_
    ·
     intro H' σ' w R E hle hMR hE0 hE hp hf
     obtain rfl := hE0 rfl
     obtain ⟨τ, rfl⟩ := sl_canon (σ := σ') (l := [(8, .slice A17 n18 c19)]) ⟨(hf 8 (by kernel_rfl)).trans rfl, trivial⟩
     have hM := Mem.subR (R := R) hMR
     exact RW.step (Ex.move (.slice A17 n18 c19) rfl) rfl rfl rfl (RW.nil ⟨rfl, rfl, _, rfl, H', [], Hp.le.refl _, hMR, rfl, rfl, trivial⟩)
    ·
     intro H' σ' w R E hle hMR hE0 hE hp hf
     obtain rfl := hE0 rfl
     obtain ⟨τ, rfl⟩ := sl_canon (σ := σ') (l := [(10, .pointer (some ⟨b31, 0, none⟩))]) ⟨(hf 10 (by kernel_rfl)).trans rfl, trivial⟩
     have hM := Mem.subR (R := R) hMR
     exact RW.step (Ex.fieldAddr fa119_0 rfl) rfl rfl rfl (RW.nil ⟨rfl, rfl, _, rfl, H', [], Hp.le.refl _, hMR, rfl, rfl, trivial⟩)
    ·
     intro H' σ' w R E hle hMR hE0 hE hp hf
     obtain rfl := hE0 rfl
     obtain ⟨_, hg⟩ := hp 1 (by decide) (by kernel_rfl)
     obtain ⟨e60, _, _⟩ := hg.get rfl
     have e61 : σ' 34 = .pointer (some ⟨b31, 0, none⟩) := (List.cons.inj e60).1
     obtain ⟨τ, rfl⟩ := sl_canon (σ := σ') (l := [(34, .pointer (some ⟨b31, 0, none⟩))]) ⟨e61, trivial⟩
     have hM := Mem.subR (R := R) hMR
     exact RW.step (Ex.load1 hM 1 to3 rfl rfl rfl) rfl rfl rfl (RW.nil ⟨rfl, rfl, _, rfl, H', [], Hp.le.refl _, hMR, rfl, rfl, trivial⟩)
    ·
     intro H' σ' w R E hle hMR hE0 hE hp hf
     obtain rfl := hE0 rfl
     obtain ⟨_, hg⟩ := hp 0 (by decide) (by kernel_rfl)
     obtain ⟨e62, _, _⟩ := hg.get rfl
     have e63 : σ' 33 = .slice A17 n18 c19 := (List.cons.inj e62).1
     obtain ⟨_, hg⟩ := hp 2 (by decide) (by kernel_rfl)
     obtain ⟨e64, _, _⟩ := hg.get rfl
     have e65 : σ' 35 = .int .i64 ((ix x1 v24).Volume) := (List.cons.inj e64).1
     obtain ⟨τ, rfl⟩ := sl_canon (σ := σ') (l := [(33, .slice A17 n18 c19), (35, .int .i64 ((ix x1 v24).Volume))]) ⟨e63, e65, trivial⟩
     have hM := Mem.subR (R := R) hMR
     exact RW.step (Ex.index st71 rfl rfl (((ix x1 v24).Volume).toNat) (hM.rowNeD (α := List Sec) (p := 2) rfl hn23 hg42) hg42.nat (Nat.lt_of_lt_of_eq hg42.lt (hn23).symm)) rfl rfl rfl (RW.nil ⟨rfl, rfl, _, rfl, H', [], Hp.le.refl _, hMR, rfl, rfl, trivial⟩)
    ·
     intro H' σ' w R E hle hMR hE0 hE hp hf
     obtain rfl := hE0 rfl
     obtain ⟨_, hg⟩ := hp 3 (by decide) (by kernel_rfl)
     obtain ⟨e66, _, _⟩ := hg.get rfl
     have e67 : σ' 36 = elp A17 ((((ix x1 v24).Volume).toNat) * 1 + 0) := (List.cons.inj e66).1
     obtain ⟨τ, rfl⟩ := sl_canon (σ := σ') (l := [(36, elp A17 ((((ix x1 v24).Volume).toNat) * 1 + 0))]) ⟨e67, trivial⟩
     have hM := Mem.subR (R := R) hMR
     exact RW.step (Ex.loadR hM 2 rfl to117 (hM.rowNeD (α := List Sec) (p := 2) rfl hn23 hg42) rfl (hx49 0 _ rfl)) rfl rfl rfl (RW.nil ⟨rfl, rfl, _, rfl, H', [], Hp.le.refl _, hMR, rfl, rfl, trivial⟩)
    ·
     intro H' σ' w R E hle hMR hE0 hE hp hf
     obtain rfl := hE0 rfl
     obtain ⟨τ, rfl⟩ := sl_canon (σ := σ') (l := [(10, .pointer (some ⟨b31, 0, none⟩))]) ⟨(hf 10 (by kernel_rfl)).trans rfl, trivial⟩
     have hM := Mem.subR (R := R) hMR
     exact RW.step (Ex.fieldAddr fa119_1 rfl) rfl rfl rfl (RW.nil ⟨rfl, rfl, _, rfl, H', [], Hp.le.refl _, hMR, rfl, rfl, trivial⟩)
    ·
     intro H' σ' w R E hle hMR hE0 hE hp hf
     obtain rfl := hE0 rfl
     obtain ⟨_, hg⟩ := hp 5 (by decide) (by kernel_rfl)
     obtain ⟨e68, _, _⟩ := hg.get rfl
     have e69 : σ' 38 = .pointer (some ⟨b31, 1, none⟩) := (List.cons.inj e68).1
     obtain ⟨τ, rfl⟩ := sl_canon (σ := σ') (l := [(38, .pointer (some ⟨b31, 1, none⟩))]) ⟨e69, trivial⟩
     have hM := Mem.subR (R := R) hMR
     exact RW.step (Ex.load1 hM 1 to3 rfl rfl rfl) rfl rfl rfl (RW.nil ⟨rfl, rfl, _, rfl, H', [], Hp.le.refl _, hMR, rfl, rfl, trivial⟩)
    ·
     intro H' σ' w R E hle hMR hE0 hE hp hf
     obtain rfl := hE0 rfl
     obtain ⟨_, hg⟩ := hp 4 (by decide) (by kernel_rfl)
     obtain ⟨e70, _, _⟩ := hg.get rfl
     have e71 : σ' 37 = .slice A43 n43 c43 := (List.cons.inj e70).1
     obtain ⟨_, hg⟩ := hp 6 (by decide) (by kernel_rfl)
     obtain ⟨e72, _, _⟩ := hg.get rfl
     have e73 : σ' 39 = .int .i64 ((ix x1 v24).Start) := (List.cons.inj e72).1
     obtain ⟨τ, rfl⟩ := sl_canon (σ := σ') (l := [(37, .slice A43 n43 c43), (39, .int .i64 ((ix x1 v24).Start))]) ⟨e71, e73, trivial⟩
     have hM := Mem.subR (R := R) hMR
     refine RW.sliceLo st117 rfl rfl hn48 hg55 rfl rfl ?_; intro A56 n57 c58 hV59
     exact RW.nil ⟨rfl, rfl, _, rfl, H', [], Hp.le.refl _, hMR, A56, n57, c58, rfl, rfl, hV59, trivial⟩
    ·
     intro H' σ' w R E hle hMR hE0 hE hp hf
     obtain rfl := hE0 rfl
     obtain ⟨τ, rfl⟩ := sl_canon (σ := σ') (l := [(10, .pointer (some ⟨b31, 0, none⟩))]) ⟨(hf 10 (by kernel_rfl)).trans rfl, trivial⟩
     have hM := Mem.subR (R := R) hMR
     exact RW.step (Ex.fieldAddr fa119_2 rfl) rfl rfl rfl (RW.nil ⟨rfl, rfl, _, rfl, H', [], Hp.le.refl _, hMR, rfl, rfl, trivial⟩)
    ·
     intro H' σ' w R E hle hMR hE0 hE hp hf
     obtain rfl := hE0 rfl
     obtain ⟨_, hg⟩ := hp 8 (by decide) (by kernel_rfl)
     obtain ⟨e74, _, _⟩ := hg.get rfl
     have e75 : σ' 41 = .pointer (some ⟨b31, 2, none⟩) := (List.cons.inj e74).1
     obtain ⟨τ, rfl⟩ := sl_canon (σ := σ') (l := [(41, .pointer (some ⟨b31, 2, none⟩))]) ⟨e75, trivial⟩
     have hM := Mem.subR (R := R) hMR
     exact RW.step (Ex.load1 hM 1 to117 rfl rfl rfl) rfl rfl rfl (RW.nil ⟨rfl, rfl, _, rfl, H', [], Hp.le.refl _, hMR, rfl, rfl, trivial⟩)
    ·
     intro HR8 σ' w X miss hms hleR hM hX hX0 hf
     simp [subs] at hms
     rcases hms with rfl
     ·
      obtain ⟨H76, hH8⟩ : ∃ x, x = HR8 := ⟨_, rfl⟩
      subst hH8
      have hle77 := hleR
      obtain ⟨_, g0, y0⟩ := hX 0 (by decide) (by kernel_rfl)
      obtain ⟨_, rfl, _⟩ := g0.get rfl
      replace y0 : X 0 = [] := y0
      obtain ⟨_, g0, y1⟩ := hX 1 (by decide) (by kernel_rfl)
      obtain ⟨_, rfl, _⟩ := g0.get rfl
      replace y1 : X 1 = [] := y1
      obtain ⟨_, g0, y2⟩ := hX 2 (by decide) (by kernel_rfl)
      obtain ⟨_, rfl, _⟩ := g0.get rfl
      replace y2 : X 2 = [] := y2
      obtain ⟨_, g0, y3⟩ := hX 3 (by decide) (by kernel_rfl)
      obtain ⟨_, rfl, _⟩ := g0.get rfl
      replace y3 : X 3 = [] := y3
      obtain ⟨_, g0, y4⟩ := hX 4 (by decide) (by kernel_rfl)
      obtain ⟨_, rfl, _⟩ := g0.get rfl
      replace y4 : X 4 = [] := y4
      obtain ⟨_, g0, y5⟩ := hX 5 (by decide) (by kernel_rfl)
      obtain ⟨_, rfl, _⟩ := g0.get rfl
      replace y5 : X 5 = [] := y5
      obtain ⟨_, g0, y6⟩ := hX 6 (by decide) (by kernel_rfl)
      obtain ⟨_, rfl, _⟩ := g0.get rfl
      replace y6 : X 6 = [] := y6
      obtain ⟨_, g0, y7⟩ := hX 7 (by decide) (by kernel_rfl)
      obtain ⟨A56, n57, c58, e78, rfl, hV59, _⟩ := g0.get rfl
      have e79 : σ' 40 = .slice A56 n57 c58 := (List.cons.inj e78).1
      replace y7 : X 7 = [] := y7
      obtain ⟨_, g0, y8⟩ := hX 8 (by decide) (by kernel_rfl)
      obtain ⟨_, rfl, _⟩ := g0.get rfl
      replace y8 : X 8 = [] := y8
      obtain ⟨_, g0, y9⟩ := hX 9 (by decide) (by kernel_rfl)
      obtain ⟨e80, rfl, _⟩ := g0.get rfl
      have e81 : σ' 42 = .slice A29 n29 c29 := (List.cons.inj e80).1
      replace y9 : X 9 = [] := y9
      have hfl : flatX X 10 = [] := by
       show X 0 ++ (X 1 ++ (X 2 ++ (X 3 ++ (X 4 ++ (X 5 ++ (X 6 ++ (X 7 ++ (X 8 ++ (X 9 ++ []))))))))) = _
       rw [y0, y1, y2, y3, y4, y5, y6, y7, y8, y9]; rfl
      rw [hfl] at hM
      obtain ⟨τ, rfl⟩ := sl_canon (σ := σ') (l := [(8, .slice A17 n18 c19), (19, .slice A2 n2 c2), (20, .int .i64 ((x1.length : Int))), (21, .int .i64 v24), (40, .slice A56 n57 c58), (42, .slice A29 n29 c29)]) ⟨(hf 8 (by kernel_rfl)).trans rfl, (hf 19 (by kernel_rfl)).trans rfl, (hf 20 (by kernel_rfl)).trans rfl, (hf 21 (by kernel_rfl)).trans rfl, e79, e81, trivial⟩
      change RA _ _ _ _ _ _ _ (sl [(8, .slice A17 n18 c19), (19, .slice A2 n2 c2), (20, .int .i64 ((x1.length : Int))), (21, .int .i64 v24), (40, .slice A56 n57 c58), (42, .slice A29 n29 c29)] τ) _ 11 _
      refine RA.step [10] (by kernel_rfl) rfl ⟨⟨_, rfl, ?_⟩, trivial⟩
      refine RW.copyV (α := Sec) (xs := (ix v16 ((ix x1 v24).Volume))) (ys := (ix x1 v24).Data) hM 0 st117 rfl hV59 rfl (hF43.mono hle77) hn48 hg55 rfl hle77 hF29 rfl rfl ?_; intro s82 w hd83 hM
      refine RW.nil ?_
      refine And.intro rfl ?_
      refine RA.done (by kernel_rfl) ?_
      refine CW.region ?_
      obtain ⟨hg84, hm⟩ := hm
      refine RW.st (Ex.add rfl rfl hg84.1 hg84.2) rfl <| RW.st (Ex.move (.int .i64 (v24 + 1)) rfl) rfl <| RW.nil ?_
      obtain ⟨s85, rs86, hd87, hM⟩ := Mem.unfocus (α := List Sec) (Ts := [123]) (x := (paste (ix v16 ((ix x1 v24).Volume)) ((ix x1 v24).Start) ((ix x1 v24).Data))) [.box b31 119 [.int .i64 ((ix x1 v24).Volume), .int .i64 ((ix x1 v24).Start), .slice A29 n29 c29], .row (.slice A17 n18 c19) 117 1 n18 (c44 ++ ([.slice A43 n43 c43] ++ c45))] hM 1 rfl (hh47.mono hle77) ⟨A43, n43, c43, s82, rfl, rfl, hd83, (hn48).trans (paste_len hg55).symm⟩
      exact And.intro rfl ⟨k25, ⟨(put v16 ((ix x1 v24).Volume) (paste (ix v16 ((ix x1 v24).Volume)) ((ix x1 v24).Start) ((ix x1 v24).Data))), A17, n18, c19, s85, rs86, v24 + 1, H76, hle15.trans hle77, sl_canon ⟨rfl, rfl, rfl, rfl, trivial⟩, (Mem.pickT (L1 := [.box b31 119 [.int .i64 ((ix x1 v24).Volume), .int .i64 ((ix x1 v24).Start), .slice A29 n29 c29], .row (.slice A17 n18 c19) 117 1 n18 s85]) (T := rs86) hM [1] rfl rfl), hd87, (hn23).trans (put_len _ _ _).symm, (by rw [hrec26]; exact hm)⟩, Nat.lt_succ_self _⟩
  ·
   replace hm := And.right hm hc27
   refine CW.exit ?_
   refine CW.sr <| RW.st (Ex.move (.slice A17 n18 c19) rfl) rfl <| RW.st (Ex.assign (.slice A17 n18 c19) rfl) rfl <| RW.st (Ex.assign (.int .i64 0) rfl) rfl <| RW.st (Ex.assign (.int .i64 0) rfl) rfl <| RW.nil <| CW.ret ?_
   refine end_tmp3 (.inl rfl) rfl (.slice A17 n18 c19) (.int .i64 0) (.int .i64 0) rfl rfl rfl ?_
   exact ⟨_, _, hM, (v16, 0, 0), hm, A17, n18, c19, s20, rs21, rfl, hd22, hn23, rfl⟩
theorem pk23 (v : Value) (cs : List Value) : PkR Tryz.prog 23 v cs = (cs = [v]) := by kernel_rfl
set_option maxRecDepth 100000 in
theorem ok99 : ct99.Ok Tryz.prog tab gh := by
  intro x Φ hW H vs _ hA
  obtain ⟨v0, k0, q0, rfl, p0, r0, v1, k1, q1, rfl, p1, r1, hq⟩ := hA
  obtain rfl : q1 = [] := hq
  rw [pk71] at p0
  subst p0
  obtain ⟨A0, n0, c0, s0, e0, hF0⟩ := (show Dt.rd (α := List (List Sec)) H _ _ from r0)
  obtain rfl := (List.cons.inj e0).1
  rw [pk23] at p1
  subst p1
  obtain ⟨A1, n1, c1, s1, e1, hF1⟩ := (show Dt.rd (α := List api_Write) H _ _ from r1)
  obtain rfl := (List.cons.inj e1).1
  have hW : image_Apply_W x.1 x.2.1 (fun y => Φ (y.1, y.2.1, y.2.2, ())) := hW
  intro w hw
  refine (image_Apply_lift x.1 x.2.1 hF0 hF1 hW w hw).mono fun e w' ⟨v, H', L', h1, hM, y, hy, A, n, c, s, rs, hv, hd, hn, hL⟩ => ?_
  subst hL
  obtain ⟨H2, g1, g2, g3⟩ := DeepL.flat (es := [_]) hM hd
  refine ⟨v, H2, _, h1, g1, _, hy, fun nx ρ0 hn0 s' b m hre => ?_⟩
  rw [show resE Tryz.prog tab ct99.rs ct99.own (y.1, y.2.1, y.2.2, ()) nx = some (.tup [.own nx, .i .i64 y.2.1, .i .i64 y.2.2], [(nx, .row 117 y.1)], nx + 1) by kernel_rfl] at hre
  cases hre
  obtain ⟨f1, f2⟩ := fresh_put hn0 (.r A n c)
  exact ⟨ρ0.put nx (.r A n c), f1, Nat.le_succ _, f2, fun id hid => RM.put_ne _ _ (Nat.ne_of_lt hid), ⟨_, hv, _, _, rfl, ⟨A, n, c, RM.put_same _ _ _, rfl⟩, _, _, rfl, rfl, _, _, rfl, rfl, rfl⟩, _, _, rfl, ⟨A, n, c, s, RM.put_same _ _ _, rfl, g3, hn⟩, rfl⟩
theorem ok53 : ct53.Ok Tryz.prog tab gh := Ct.lift (E := ⟨Tryz.prog, tab, [ct79, ct84, ct97, ct99], pl53, [it145], gh, []⟩) ⟨tabOk, ⟨ok79, ok84, ok97, ok99, trivial⟩, mo, ⟨itok145, trivial⟩, ghUp, trivial⟩ 9 ct53 fun x Φ => by rw [eq53]; exact id
theorem ok51 : ct51.Ok Tryz.prog tab gh := Ct.lift (E := ⟨Tryz.prog, tab, [ct17, ct32, ct53, ct133, ct135, ct138], pl51, [], gh, []⟩) ⟨tabOk, ⟨ok17, ok32, ok53, ok133, ok135, ok138, trivial⟩, mo, trivial, ghUp, trivial⟩ 9 ct51 fun x Φ => by rw [eq51]; exact id
theorem ok52 : ct52.Ok Tryz.prog tab gh := Ct.lift (E := ⟨Tryz.prog, tab, [ct17, ct19, ct32, ct53, ct133, ct135, ct138], pl52, [], gh, []⟩) ⟨tabOk, ⟨ok17, ok19, ok32, ok53, ok133, ok135, ok138, trivial⟩, mo, trivial, ghUp, trivial⟩ 9 ct52 fun x Φ => by rw [eq52]; exact id
theorem ok90 : ct90.Ok Tryz.prog tab gh := Ct.lift (E := ⟨Tryz.prog, tab, [ct17, ct32, ct53, ct133, ct135, ct138], pl90, [], gh, []⟩) ⟨tabOk, ⟨ok17, ok32, ok53, ok133, ok135, ok138, trivial⟩, mo, trivial, ghUp, trivial⟩ 9 ct90 fun x Φ => by rw [eq90]; exact id
theorem ok92 : ct92.Ok Tryz.prog tab gh := Ct.lift (E := ⟨Tryz.prog, tab, [ct32], pl92, [], gh, []⟩) ⟨tabOk, ⟨ok32, trivial⟩, mo, trivial, ghUp, trivial⟩ 9 ct92 fun x Φ => by rw [eq92]; exact id
theorem ok91 : ct91.Ok Tryz.prog tab gh := Ct.lift (E := ⟨Tryz.prog, tab, [], pl91, [], gh, []⟩) ⟨tabOk, trivial, mo, trivial, ghUp, trivial⟩ 9 ct91 fun x Φ => by rw [eq91]; exact id
theorem ok132 : ct132.Ok Tryz.prog tab gh := Ct.lift (E := ⟨Tryz.prog, tab, [], pl132, [], gh, []⟩) ⟨tabOk, trivial, mo, trivial, ghUp, trivial⟩ 9 ct132 fun x Φ => by rw [eq132]; exact id
theorem ok93 : ct93.Ok Tryz.prog tab gh := Ct.lift (E := ⟨Tryz.prog, tab, [ct132], pl93, [], gh, []⟩) ⟨tabOk, ⟨ok132, trivial⟩, mo, trivial, ghUp, trivial⟩ 9 ct93 fun x Φ => by rw [eq93]; exact id
theorem ok50 : ct50.Ok Tryz.prog tab gh := Ct.lift (E := ⟨Tryz.prog, tab, [ct23, ct33, ct51, ct52, ct88, ct89, ct90, ct91, ct92, ct93], pl50, [], gh, []⟩) ⟨tabOk, ⟨ok23, ok33, ok51, ok52, ok88, ok89, ok90, ok91, ok92, ok93, trivial⟩, mo, trivial, ghUp, trivial⟩ 9 ct50 fun x Φ => by rw [eq50]; exact id
theorem ok101 : ct101.Ok Tryz.prog tab gh := Ct.lift (E := ⟨Tryz.prog, tab, [], pl101, [], gh, []⟩) ⟨tabOk, trivial, mo, trivial, ghUp, trivial⟩ 9 ct101 fun x Φ => by rw [eq101]; exact id
theorem ok54 : ct54.Ok Tryz.prog tab gh := Ct.lift (E := ⟨Tryz.prog, tab, [ct101], pl54, [], gh, []⟩) ⟨tabOk, ⟨ok101, trivial⟩, mo, trivial, ghUp, trivial⟩ 9 ct54 fun x Φ => by rw [eq54]; exact id
theorem ok55 : ct55.Ok Tryz.prog tab gh := Ct.lift (E := ⟨Tryz.prog, tab, [ct80], pl55, [], gh, []⟩) ⟨tabOk, ⟨ok80, trivial⟩, mo, trivial, ghUp, trivial⟩ 9 ct55 fun x Φ => by rw [eq55]; exact id
theorem ok11 : ct11.Ok Tryz.prog tab gh := Ct.lift (E := ⟨Tryz.prog, tab, [ct14, ct23, ct49, ct50, ct51, ct52, ct53, ct54, ct55], pl11, [], gh, []⟩) ⟨tabOk, ⟨ok14, ok23, ok49, ok50, ok51, ok52, ok53, ok54, ok55, trivial⟩, mo, trivial, ghUp, trivial⟩ 9 ct11 fun x Φ => by rw [eq11]; exact id
section
theorem iI {x : Int} (h1 : -9223372036854775808 ≤ x) (h2 : x ≤ 9223372036854775807) : inI x := ⟨h1, h2⟩
theorem iX {i : Int} {n : Nat} (h1 : 0 ≤ i) (h2 : i < (n : Int)) : inX i n := ⟨h1, h2⟩
theorem iS {a b : Int} {n : Nat} (h1 : 0 ≤ a) (h2 : a ≤ b) (h3 : b ≤ (n : Int)) : inS a b n := ⟨h1, h2, h3⟩
theorem iL {n b : Nat} (h : n ≤ 1000000) (hb : b ≤ 1000000) : lenOk n b := by
  have := Nat.mul_le_mul h hb
  refine ⟨by omega, ?_⟩
  simp only [maxLen]
  omega
section
variable {α : Type} [Dt α]
theorem ix_get {xs : List α} {k : Nat} (h : k < xs.length) : ix xs (k : Int) = xs[k] := by
  show xs.getD k default = _
  rw [List.getD_eq_getElem?_getD, List.getElem?_eq_getElem h]; rfl
theorem take_ix {xs : List α} {k : Nat} (h : k < xs.length) : xs.take (k + 1) = xs.take k ++ [ix xs (k : Int)] := by
  rw [ix_get h]; exact (List.take_append_getElem h).symm
theorem ix_mem {xs : List α} {i : Int} (h : inX i xs.length) : ix xs i ∈ xs := by
  have e := h.nat
  have hl := h.lt
  rw [e, ix_get hl]
  exact List.getElem_mem hl
theorem drop_ix {xs : List α} {k : Nat} (h : k < xs.length) : xs.drop k = ix xs (k : Int) :: xs.drop (k + 1) := by
  rw [ix_get h]; exact List.drop_eq_getElem_cons h
theorem ext_ix {xs ys : List α} (hl : xs.length = ys.length) (h : ∀ k : Nat, k < xs.length → ix xs (k : Int) = ix ys (k : Int)) : xs = ys := by
  apply List.ext_getElem hl
  intro k h1 h2
  have := h k h1
  rwa [ix_get h1, ix_get h2] at this
end
section
variable {A : Type}
theorem LoopW.up {step : Int → (Int → Prop) → Prop} (n : Nat) (Inv : Nat → Prop) (h : ∀ (k : Nat) rec, k ≤ n → Inv k → (k < n → Inv (k + 1) → rec ((k : Int) + 1)) → step (k : Int) rec) {k0 : Nat} {i0 : Int} (hi : i0 = (k0 : Int)) (hk : k0 ≤ n) (h0 : Inv k0) : LoopW step i0 := by
  subst hi
  refine LoopW.of_inv (fun i => ∃ k : Nat, i = (k : Int) ∧ k ≤ n ∧ Inv k) (fun i => n - i.toNat) ?_ ⟨k0, rfl, hk, h0⟩
  rintro _ rec ⟨k, rfl, hk, hI⟩ hrec
  refine h k rec hk hI fun hlt hI' => hrec _ ⟨k + 1, rfl, hlt, hI'⟩ ?_
  simp only [Int.toNat_natCast]
  omega
theorem LoopW.upS {S : Type} {step : S → (S → Prop) → Prop} (n : Nat) (idx : S → Int) (Inv : Nat → S → Prop) (h : ∀ (k : Nat) s rec, k ≤ n → idx s = (k : Int) → Inv k s → (∀ s', k < n → idx s' = (k : Int) + 1 → Inv (k + 1) s' → rec s') → step s rec) {s0 : S} (k0 : Nat) (hi : idx s0 = (k0 : Int)) (hk : k0 ≤ n) (h0 : Inv k0 s0) : LoopW step s0 := by
  refine LoopW.of_inv (fun s => ∃ k : Nat, idx s = (k : Int) ∧ k ≤ n ∧ Inv k s) (fun s => n - (idx s).toNat) ?_ ⟨k0, hi, hk, h0⟩
  rintro s rec ⟨k, he, hk, hI⟩ hrec
  refine h k s rec hk he hI fun s' hlt he' hI' => hrec s' ⟨k + 1, by rw [he']; rfl, hlt, hI'⟩ ?_
  show n - (idx s').toNat < n - (idx s).toNat
  rw [he, he']
  omega
def firstN (f : Nat → Int) : Nat → Int
  | 0 => 0
  | n + 1 => if firstN f n ≠ 0 then firstN f n else f n
theorem firstN_hit {f : Nat → Int} : ∀ {n k : Nat}, k < n → (∀ j, j < k → f j = 0) → f k ≠ 0 → firstN f n = f k
  | 0, _, hk, _, _ => by omega
  | n + 1, k, hk, h0, h1 => by
    unfold firstN
    rcases Nat.lt_or_ge k n with h | h
    · rw [firstN_hit h h0 h1, if_pos h1]
    · have e : k = n := by omega
      subst e
      have : firstN f k = 0 := by
        clear h1 hk h
        induction k with
        | zero => rfl
        | succ k ih => unfold firstN; rw [ih fun j hj => h0 j (by omega), if_neg (by simp), h0 k (by omega)]
      rw [this, if_neg (by simp)]
theorem firstN_zero {f : Nat → Int} : ∀ {n : Nat}, firstN f n = 0 ↔ ∀ k, k < n → f k = 0
  | 0 => by simp [firstN]
  | n + 1 => by
    unfold firstN
    constructor
    · intro h k hk
      by_cases h1 : firstN f n ≠ 0
      · rw [if_pos h1] at h; exact absurd h h1
      · rw [if_neg h1] at h
        rcases Nat.lt_or_ge k n with hlt | hge
        · exact (firstN_zero.1 (Classical.not_not.1 h1)) k hlt
        · have : k = n := by omega
          subst this; exact h
    · intro h
      rw [if_neg (by rw [firstN_zero.2 fun k hk => h k (by omega)]; simp), h n (by omega)]
def allN (p : Nat → Bool) (n : Nat) : Bool := (List.range n).all p
theorem allN_true {p : Nat → Bool} {n : Nat} : allN p n = true ↔ ∀ k, k < n → p k = true := by simp [allN]
theorem allN_false {p : Nat → Bool} {n k : Nat} (hk : k < n) (h : p k = false) : allN p n = false := by
  cases hx : allN p n with
  | false => rfl
  | true => rw [allN_true.1 hx k hk] at h; cases h
theorem allN_congr {p q : Nat → Bool} {n : Nat} (h : ∀ k, k < n → p k = q k) : allN p n = allN q n := by
  rw [Bool.eq_iff_iff, allN_true, allN_true]
  exact ⟨fun g k hk => by rw [← h k hk]; exact g k hk, fun g k hk => by rw [h k hk]; exact g k hk⟩
theorem LoopW.allL {step : Int → (Int → Prop) → Prop} (n : Nat) (p : Nat → Bool) {Φ : Bool → Prop} (hΦ : Φ (allN p n)) (h : ∀ (k : Nat) rec, k < n → (∀ j, j < k → p j = true) → (p k = false → Φ false) → (p k = true → rec ((k : Int) + 1)) → step (k : Int) rec)
    (he : ∀ rec, Φ true → (∀ j, j < n → p j = true) → step (n : Int) rec) : LoopW step 0 := by
  refine LoopW.up n (fun k => ∀ j, j < k → p j = true) ?_ rfl (Nat.zero_le _) (fun j hj => absurd hj (Nat.not_lt_zero j))
  intro k rec hk hI hrec
  rcases Nat.lt_or_ge k n with hlt | hge
  · refine h k rec hlt hI (fun h1 => by rw [allN_false hlt h1] at hΦ; exact hΦ) fun h0 => hrec hlt fun j hj => ?_
    rcases Nat.lt_or_ge j k with h2 | h2
    · exact hI j h2
    · have : j = k := by omega
      subst this; exact h0
  · have e : k = n := by omega
    subst e
    exact he rec (by rw [allN_true.2 hI] at hΦ; exact hΦ) hI
end
end
theorem LoopW.upI {S : Type} {step : S → (S → Prop) → Prop} (n : Nat) (st : Nat → S) (I : Nat → Prop) {s : S} (hs : s = st 0) (h0 : I 0)
    (h : ∀ (k : Nat) rec, k < n → I k → (I (k + 1) → ∀ s, s = st (k + 1) → rec s) → step (st k) rec) (he : ∀ rec, I n → step (st n) rec) : LoopW step s := by
  have key : ∀ m k, k + m = n → I k → LoopN step (m + 1) (st k) := by
    intro m
    induction m with
    | zero => intro k hk hI; obtain rfl : k = n := hk; exact he _ hI
    | succ m ih => intro k hk hI; exact h k _ (by omega) hI fun hI' s hs => by rw [hs]; exact ih (k + 1) (by omega) hI'
  exact ⟨n + 1, by rw [hs]; exact key n 0 (by omega) h0⟩
theorem LoopW.upT {S : Type} {step : S → (S → Prop) → Prop} (n : Nat) (st : Nat → S) {s : S} (hs : s = st 0)
    (h : ∀ (k : Nat) rec, k < n → (∀ s, s = st (k + 1) → rec s) → step (st k) rec) (he : ∀ rec, step (st n) rec) : LoopW step s :=
  LoopW.upI n st (fun _ => True) hs trivial (fun k rec hk _ hr => h k rec hk (hr trivial)) fun rec _ => he rec
theorem LoopW.findI {step : Int → (Int → Prop) → Prop} (n : Nat) (p : Nat → Bool) (h : ∀ (k : Nat) rec, k < n → (∀ j, j < k → p j = false) → (p k = false → rec ((k : Int) + 1)) → step (k : Int) rec)
    (he : ∀ rec, (∀ j, j < n → p j = false) → step (n : Int) rec) : LoopW step 0 :=
  LoopW.upI n (fun k => (k : Int)) (fun k => ∀ j, j < k → p j = false) rfl (fun j hj => absurd hj (Nat.not_lt_zero j)) (fun k rec hk hI hr => h k rec hk hI fun hp => hr (fun j hj => by
    rcases Nat.lt_or_ge j k with h2 | h2
    · exact hI j h2
    · obtain rfl : j = k := by omega
      exact hp) _ rfl) he
theorem any_ix {α : Type} [Dt α] {xs : List α} {p : α → Bool} : xs.any p = true ↔ ∃ k, k < xs.length ∧ p (ix xs (k : Int)) = true := by
  rw [List.any_eq_true]
  constructor
  · rintro ⟨x, hx, hp⟩
    obtain ⟨k, hk, rfl⟩ := List.getElem_of_mem hx
    exact ⟨k, hk, by rw [ix_get hk]; exact hp⟩
  · rintro ⟨k, hk, hp⟩
    exact ⟨xs[k], List.getElem_mem hk, by rw [ix_get hk] at hp; exact hp⟩
theorem any_false_ix {α : Type} [Dt α] {xs : List α} {p : α → Bool} (h : ∀ k, k < xs.length → p (ix xs (k : Int)) = false) : xs.any p = false := by
  rw [Bool.eq_false_iff]
  intro q
  obtain ⟨k, hk, hp⟩ := any_ix.1 q
  rw [h k hk] at hp; cases hp
theorem any_true_ix {α : Type} [Dt α] {xs : List α} {p : α → Bool} {k : Nat} (hk : k < xs.length) (h : p (ix xs (k : Int)) = true) : xs.any p = true := any_ix.2 ⟨k, hk, h⟩
theorem LoopW.anyL {α : Type} [Dt α] {step : Int → (Int → Prop) → Prop} (xs : List α) (p : α → Bool) {Φ : Bool → Prop} (hΦ : Φ (xs.any p)) (h : ∀ (k : Nat) rec, k < xs.length → (p (ix xs (k : Int)) = true → Φ true) → (p (ix xs (k : Int)) = false → rec ((k : Int) + 1)) → step (k : Int) rec)
    (he : ∀ rec, Φ false → step (xs.length : Int) rec) : LoopW step 0 :=
  LoopW.findI xs.length (fun k => p (ix xs (k : Int))) (fun k rec hk _ hr => h k rec hk (fun hp => by rw [any_true_ix hk hp] at hΦ; exact hΦ) hr) fun rec hn => he rec (by rw [any_false_ix hn] at hΦ; exact hΦ)
theorem LoopW.allE {α : Type} [Dt α] {step : Int → (Int → Prop) → Prop} (xs : List α) (p : α → Bool) {Φ : Bool → Prop} (hΦ : Φ (xs.all p)) (h : ∀ (k : Nat) rec, k < xs.length → (p (ix xs (k : Int)) = false → Φ false) → (p (ix xs (k : Int)) = true → rec ((k : Int) + 1)) → step (k : Int) rec)
    (he : ∀ rec, Φ true → step (xs.length : Int) rec) : LoopW step 0 := by
  have e : xs.all p = !(xs.any fun x => !p x) := by simp [List.all_eq_not_any_not]
  rw [e] at hΦ
  refine LoopW.anyL xs (fun x => !p x) (Φ := fun b => Φ (!b)) hΦ (fun k rec hk h1 h2 => h k rec hk (fun hp => h1 (by simp [hp])) fun hp => h2 (by simp [hp])) he
theorem len_snoc {α : Type} (xs : List α) (x : α) : (xs ++ [x]).length = xs.length + 1 := by simp
theorem lenT {α : Type} {xs : List α} {k : Nat} (h : k ≤ xs.length) : (xs.take k).length = k := by rw [List.length_take]; omega
theorem take_all {α : Type} (xs : List α) : xs.take xs.length = xs := List.take_length
theorem map_take_snoc {α β : Type} [Dt α] {xs : List α} {k : Nat} (f : α → β) (h : k < xs.length) : (xs.take (k + 1)).map f = (xs.take k).map f ++ [f (ix xs (k : Int))] := by rw [take_ix h, List.map_append]; rfl
theorem filter_range_snoc (k : Nat) (p : Nat → Bool) : (List.range (k + 1)).filter p = (List.range k).filter p ++ (if p k then [k] else []) := by
  rw [List.range_succ, List.filter_append]; congr 1; by_cases hp : p k = true <;> simp [hp]
theorem LoopW.errI {S : Type} {step : S → (S → Prop) → Prop} (n : Nat) (st : Nat → S) (f : Nat → Int) {Ψ : Int → Prop} {s : S} (hs : s = st 0) (hΨ : Ψ (firstN f n))
    (h : ∀ (k : Nat) rec, k < n → (∀ j, j < k → f j = 0) → (f k ≠ 0 → Ψ (f k)) → (f k = 0 → ∀ s, s = st (k + 1) → rec s) → step (st k) rec) (he : ∀ rec, (∀ j, j < n → f j = 0) → Ψ 0 → step (st n) rec) : LoopW step s :=
  LoopW.upI n st (fun k => ∀ j, j < k → f j = 0) hs (fun j hj => absurd hj (Nat.not_lt_zero j)) (fun k rec hk hI hr => h k rec hk hI (fun h1 => by rw [firstN_hit hk hI h1] at hΨ; exact hΨ) fun h0 => hr fun j hj => by
    rcases Nat.lt_or_ge j k with h2 | h2
    · exact hI j h2
    · obtain rfl : j = k := by omega
      exact h0) fun rec hI => he rec hI (by rw [firstN_zero.2 hI] at hΨ; exact hΨ)
def sizesE (l : List Int) : Int := if (l.length : Int) < 1 ∨ 8 < (l.length : Int) then 6 else firstN (fun k => if ix l (k : Int) < 1 ∨ 4096 < ix l (k : Int) then 2 else 0) l.length
def szs (im : List (List Sec)) : List Int := im.map fun v => (v.length : Int)
def imgE (im : List (List Sec)) : Int := sizesE (szs im)
theorem szs_len (im : List (List Sec)) : (szs im).length = im.length := by unfold szs; rw [List.length_map]
theorem ix_szs {im : List (List Sec)} {k : Nat} (h : k < im.length) : ix (szs im) (k : Int) = ((ix im (k : Int)).length : Int) := by
  rw [ix_get (by rw [szs_len]; exact h), ix_get h]; unfold szs; rw [List.getElem_map]
theorem sizesE_len {l : List Int} (h : sizesE l = 0) : 1 ≤ l.length ∧ l.length ≤ 8 := by
  unfold sizesE at h
  by_cases hl : (l.length : Int) < 1 ∨ 8 < (l.length : Int)
  · rw [if_pos hl] at h; cases h
  · omega
theorem sizesE_ix {l : List Int} (h : sizesE l = 0) {k : Nat} (hk : k < l.length) : 1 ≤ ix l (k : Int) ∧ ix l (k : Int) ≤ 4096 := by
  unfold sizesE at h
  by_cases hl : (l.length : Int) < 1 ∨ 8 < (l.length : Int)
  · rw [if_pos hl] at h; cases h
  · rw [if_neg hl] at h
    have := firstN_zero.1 h k hk
    by_cases q : ix l (k : Int) < 1 ∨ 4096 < ix l (k : Int)
    · rw [if_pos q] at this; cases this
    · omega
theorem image_checkSizes_ok {l : List Int} {Φ : Int → Prop} (hΦ : Φ (sizesE l)) : Z2 l Φ := by
  unfold sizesE at hΦ
  by_cases h : (l.length : Int) < 1 ∨ 8 < (l.length : Int)
  · rw [if_pos h] at hΦ
    exact ⟨fun _ => hΦ, fun _ => ⟨fun _ => hΦ, fun _ => by omega⟩⟩
  · rw [if_neg h] at hΦ
    refine ⟨fun _ => by omega, fun _ => ⟨fun _ => by omega, fun _ => ?_⟩⟩
    refine LoopW.errI l.length (fun k => (k : Int)) _ rfl hΦ (fun k rec hk _ h1 h2 => ?_) fun rec _ h0 => ⟨fun _ => by omega, fun _ => ⟨fun _ => by omega, fun _ => h0⟩⟩
    have go : ∀ q : ix l (k : Int) < 1 ∨ 4096 < ix l (k : Int), Φ 2 := fun q => by
      have := h1 (by rw [if_pos q]; omega)
      rw [if_pos q] at this; exact this
    refine ⟨fun _ => ⟨iX (by omega) (by omega), fun q => ⟨fun _ => ⟨fun _ => go (.inl q), fun _ => by omega⟩, fun r => absurd rfl r⟩, fun q => ⟨fun r => ⟨fun _ => go (.inr (of_decide_eq_true r)), fun _ => by omega⟩, fun r => ⟨iI (by omega) (by omega), h2 (if_neg (by have := of_decide_eq_false (Bool.eq_false_iff.2 r); omega)) _ rfl⟩⟩⟩, fun _ => by omega⟩
theorem image_sizes_ok {im : List (List Sec)} {Φ : List Int → Prop} (hl : im.length ≤ 100000) (hΦ : Φ (szs im)) : image_sizes_W im Φ := by
  refine ⟨by omega, iL (by omega) (by omega), ?_⟩
  refine LoopW.upT im.length (fun k => ((k : Int), (im.take k).map fun v => (v.length : Int))) rfl (fun k rec hk hr => ?_) fun rec => ⟨fun _ => by omega, fun _ => by rw [take_all]; exact hΦ⟩
  refine ⟨fun _ => ⟨iX (by omega) (by omega), iL (by rw [len_snoc, List.length_map, lenT (by omega)]; omega) (by omega), iI (by omega) (by omega), hr _ (by rw [map_take_snoc _ hk]; rfl)⟩, fun _ => by omega⟩
theorem image_Check_ok {im : List (List Sec)} {Φ : Int → Prop} (hl : im.length ≤ 100000) (hΦ : Φ (imgE im)) : image_Check_W im Φ := image_sizes_ok hl (image_checkSizes_ok hΦ)
def zeroI (l : List Int) : List (List Sec) := l.map fun n => List.replicate n.toNat sec0
theorem zeroI_len (l : List Int) : (zeroI l).length = l.length := by unfold zeroI; rw [List.length_map]
theorem ix_zeroI {l : List Int} {k : Nat} (h : k < l.length) : ix (zeroI l) (k : Int) = List.replicate (ix l (k : Int)).toNat sec0 := by
  rw [ix_get (by rw [zeroI_len]; exact h), ix_get h]; unfold zeroI; rw [List.getElem_map]
theorem szs_zeroI {l : List Int} (h : sizesE l = 0) : szs (zeroI l) = l := by
  refine ext_ix (by rw [szs_len, zeroI_len]) fun k hk => ?_
  rw [szs_len, zeroI_len] at hk
  have := sizesE_ix h hk
  rw [ix_szs (by rw [zeroI_len]; exact hk), ix_zeroI hk, List.length_replicate]; omega
theorem image_New_ok {l : List Int} {Φ : List (List Sec) × Int → Prop} (h0 : sizesE l = 0 → Φ (zeroI l, 0)) (h1 : sizesE l ≠ 0 → Φ ([], sizesE l)) : image_New_W l Φ := by
  refine image_checkSizes_ok ⟨fun q => h1 q, fun q => ?_⟩
  have q : sizesE l = 0 := Classical.not_not.1 q
  have hl := sizesE_len q
  refine ⟨by omega, iL (by omega) (by omega), ?_⟩
  refine LoopW.upT l.length (fun k => ((k : Int), (l.take k).map fun n => List.replicate n.toNat sec0)) rfl (fun k rec hk hr => ?_) fun rec => ⟨fun _ => by omega, fun _ => by rw [take_all]; exact h0 q⟩
  have := sizesE_ix q hk
  refine ⟨fun _ => ⟨iX (by omega) (by omega), by omega, iL (by omega) (by omega), iL (by rw [len_snoc, List.length_map, lenT (by omega)]; omega) (by omega), iI (by omega) (by omega), hr _ (by rw [map_take_snoc _ hk]; rfl)⟩, fun _ => by omega⟩
def fitW (l : List Int) (w : api_Write) : Int := if w.Volume < 0 ∨ (l.length : Int) ≤ w.Volume then 7 else if (w.Data.length : Int) = 0 then 1 else if w.Start < 0 ∨ ix l w.Volume - w.Start < (w.Data.length : Int) then 2 else 0
theorem image_fits_ok {im : List (List Sec)} {w : api_Write} {Φ : Int → Prop} (hd : w.Data.length ≤ 1000000) (hv : ∀ k : Nat, k < im.length → (ix im (k : Int)).length ≤ 1000000) (hΦ : Φ (fitW (szs im) w)) : image_fits_W im w Φ := by
  unfold fitW at hΦ
  rw [szs_len] at hΦ
  show (_ → image_fits_J1 _ _ _ _) ∧ _
  have tail : ¬ (w.Volume < 0 ∨ (im.length : Int) ≤ w.Volume) → image_fits_J1 im w Φ false := fun q => by
    rw [if_neg q] at hΦ
    refine ⟨fun r => (Bool.noConfusion r), fun _ => ⟨fun r => by rw [if_pos (by omega)] at hΦ; exact hΦ, fun r => ?_⟩⟩
    rw [if_neg (by omega)] at hΦ
    obtain ⟨v, hw⟩ := Int.eq_ofNat_of_zero_le (show 0 ≤ w.Volume by omega)
    have hvl : v < im.length := by omega
    rw [hw, ix_szs hvl] at hΦ
    have := hv v hvl
    refine ⟨fun s => by rw [if_pos (.inl s)] at hΦ; exact hΦ, fun s => ⟨iX (by omega) (by omega), ?_⟩⟩
    rw [hw]
    exact ⟨iI (by omega) (by omega), fun t => by rw [if_pos (by omega)] at hΦ; exact hΦ, fun t => by rw [if_neg (by omega)] at hΦ; exact hΦ⟩
  refine ⟨fun q => ⟨fun _ => by rw [if_pos (.inl q)] at hΦ; exact hΦ, fun r => absurd rfl r⟩, fun q => ?_⟩
  by_cases r : (im.length : Int) ≤ w.Volume
  · rw [decide_eq_true r]
    exact ⟨fun _ => by rw [if_pos (.inr r)] at hΦ; exact hΦ, fun r => absurd rfl r⟩
  · rw [decide_eq_false r]; exact tail (by omega)
theorem szs_small {im : List (List Sec)} (h : imgE im = 0) (k : Nat) (hk : k < im.length) : (ix im (k : Int)).length ≤ 4096 := by
  have := sizesE_ix h (k := k) (by rw [szs_len]; exact hk)
  rw [ix_szs hk] at this; omega
theorem image_Fits_ok {im : List (List Sec)} {w : api_Write} {Φ : Int → Prop} (hd : w.Data.length ≤ 1000000) (h : imgE im = 0) (hΦ : Φ (fitW (szs im) w)) : image_Fits_W im w Φ := by
  have hl := sizesE_len h
  rw [szs_len] at hl
  exact image_Check_ok (by omega) ⟨fun q => absurd h q, fun _ => image_fits_ok hd (fun k hk => Nat.le_trans (szs_small h k hk) (by omega)) hΦ⟩
theorem sizes_ok {l : List Int} (h : ¬ sizesE l ≠ 0) : l.length ≤ 8 ∧ 1 ≤ l.length ∧ ∀ k : Nat, k < l.length → 1 ≤ ix l (k : Int) ∧ ix l (k : Int) ≤ 4096 := by
  have h0 := Classical.not_not.1 h
  unfold sizesE at h0
  split at h0
  · omega
  · refine ⟨by omega, by omega, fun k hk => ?_⟩
    have := firstN_zero.1 h0 k hk
    split at this <;> omega
theorem fitW_zero {sizes : List Int} {w : api_Write} (hs : ¬ sizesE sizes ≠ 0) (h : fitW sizes w = 0) : 0 ≤ w.Volume ∧ w.Volume < (sizes.length : Int) ∧ 1 ≤ w.Data.length ∧ 0 ≤ w.Start ∧ w.Start + (w.Data.length : Int) ≤ ix sizes w.Volume ∧ ix sizes w.Volume ≤ 4096 := by
  unfold fitW at h
  split at h
  · omega
  split at h
  · omega
  split at h
  · omega
  obtain ⟨v, hv⟩ := Int.eq_ofNat_of_zero_le (show 0 ≤ w.Volume by omega)
  have hz := (sizes_ok hs).2.2 v (by omega)
  rw [← hv] at hz
  omega
theorem ix_put {α : Type} [Dt α] (xs : List α) {i j : Nat} (x : α) (hi : i < xs.length) : ix (put xs (i : Int) x) (j : Int) = if j = i then x else ix xs (j : Int) := by
  show (xs.set i x).getD j default = if j = i then x else xs.getD j default
  rw [List.getD_eq_getElem?_getD, List.getD_eq_getElem?_getD]
  by_cases h : j = i
  · subst h; rw [List.getElem?_set_self hi, if_pos rfl]; rfl
  · rw [List.getElem?_set_ne (by omega), if_neg h]
theorem put_put {α : Type} (xs : List α) (i : Int) (x y : α) : put (put xs i x) i y = put xs i y := by unfold put; rw [List.set_set]
theorem ix_put_self {α : Type} [Dt α] {xs : List α} {i : Int} (x : α) (hi : inX i xs.length) : ix (put xs i x) i = x := by
  obtain ⟨k, rfl⟩ := Int.eq_ofNat_of_zero_le hi.1
  rw [ix_put xs x (by have := hi.2; omega), if_pos rfl]
theorem ix_paste {α : Type} [Dt α] {xs ys : List α} {s i : Nat} (h : s + ys.length ≤ xs.length) : ix (paste xs (s : Int) ys) (i : Int) = if s ≤ i ∧ i < s + ys.length then ix ys ((i : Int) - (s : Int)) else ix xs (i : Int) := by
  show (paste xs (s : Int) ys).getD i default = if _ then ys.getD ((i : Int) - (s : Int)).toNat default else xs.getD i default
  unfold paste
  rw [Int.toNat_natCast, List.getD_eq_getElem?_getD, List.getD_eq_getElem?_getD, List.getD_eq_getElem?_getD]
  have e1 : (xs.take s).length = s := by rw [List.length_take]; omega
  have e2 : ys.take (xs.length - s) = ys := List.take_of_length_le (by omega)
  have e3 : min ys.length (xs.length - s) = ys.length := by omega
  rw [e2, e3]
  by_cases h1 : i < s
  · rw [if_neg (by omega), List.getElem?_append_left (by omega), List.getElem?_take_of_lt h1]
  · by_cases h2 : i < s + ys.length
    · rw [if_pos (by omega), List.getElem?_append_right (by omega), e1, List.getElem?_append_left (by omega), show ((i : Int) - (s : Int)).toNat = i - s by omega]
    · rw [if_neg (by omega), List.getElem?_append_right (by omega), e1, List.getElem?_append_right (by omega), List.getElem?_drop]
      congr 2
      omega
theorem paste_len' {α : Type} {xs ys : List α} {s : Nat} (h : s ≤ xs.length) : (paste xs (s : Int) ys).length = xs.length := paste_len ⟨by omega, by omega, by omega⟩
def apply1 (im : List (List Sec)) (w : api_Write) : List (List Sec) := put im w.Volume (paste (ix im w.Volume) w.Start w.Data)
def appL (im : List (List Sec)) (l : List api_Write) : List (List Sec) := l.foldl apply1 im
theorem appL_snoc (im : List (List Sec)) (l : List api_Write) (w : api_Write) : appL im (l ++ [w]) = apply1 (appL im l) w := by unfold appL; rw [List.foldl_append]; rfl
structure FitW (sizes : List Int) (w : api_Write) (v s : Nat) : Prop where
  vol : w.Volume = (v : Int)
  start : w.Start = (s : Int)
  hv : v < sizes.length
  len : 1 ≤ w.Data.length
  le : ((s + w.Data.length : Nat) : Int) ≤ ix sizes (v : Int)
  top : ix sizes (v : Int) ≤ 4096
theorem fitW_of {sizes : List Int} {w : api_Write} (hs : ¬ sizesE sizes ≠ 0) (h : fitW sizes w = 0) : ∃ v s : Nat, FitW sizes w v s := by
  have := fitW_zero hs h
  obtain ⟨v, hv⟩ := Int.eq_ofNat_of_zero_le this.1
  obtain ⟨s, hst⟩ := Int.eq_ofNat_of_zero_le this.2.2.2.1
  rw [hv, hst] at this
  exact ⟨v, s, hv, hst, by omega, by omega, by omega, by omega⟩
theorem szs_apply1 {im : List (List Sec)} {w : api_Write} {v s : Nat} (h : FitW (szs im) w v s) : szs (apply1 im w) = szs im := by
  have hv := h.hv
  rw [szs_len] at hv
  have hle := h.le
  rw [ix_szs hv] at hle
  unfold apply1
  rw [h.vol, h.start]
  refine ext_ix (by rw [szs_len, szs_len, put_len]) fun k hk => ?_
  rw [szs_len, put_len] at hk
  rw [ix_szs (by rw [put_len]; exact hk), ix_szs hk, ix_put _ _ hv]
  by_cases hkv : k = v
  · rw [if_pos hkv, paste_len' (by omega), hkv]
  · rw [if_neg hkv]
theorem szs_appL {im : List (List Sec)} (hs : ¬ sizesE (szs im) ≠ 0) : ∀ {l : List api_Write}, (∀ w ∈ l, fitW (szs im) w = 0) → szs (appL im l) = szs im := by
  intro l
  induction l generalizing im with
  | nil => intro _; rfl
  | cons w l ih =>
    intro h
    obtain ⟨v, s, hw⟩ := fitW_of hs (h w (List.mem_cons_self ..))
    have e := szs_apply1 hw
    show szs (appL (apply1 im w) l) = _
    rw [ih (by rw [e]; exact hs) fun x hx => by rw [e]; exact h x (List.mem_cons_of_mem _ hx), e]
def sec (im : List (List Sec)) (v i : Nat) : Sec := ix (ix im (v : Int)) (i : Int)
def covW (w : api_Write) (v i : Nat) : Prop := w.Volume = (v : Int) ∧ w.Start ≤ (i : Int) ∧ (i : Int) < w.Start + (w.Data.length : Int)
instance (w : api_Write) (v i : Nat) : Decidable (covW w v i) := by unfold covW; infer_instance
theorem sec_apply1 {im : List (List Sec)} {w : api_Write} {v0 s0 : Nat} (h : FitW (szs im) w v0 s0) (v i : Nat) : sec (apply1 im w) v i = if covW w v i then ix w.Data ((i : Int) - w.Start) else sec im v i := by
  have hv := h.hv
  rw [szs_len] at hv
  have hle := h.le
  rw [ix_szs hv] at hle
  have h1 := h.vol
  have h2 := h.start
  have hc : covW w v i ↔ v = v0 ∧ s0 ≤ i ∧ i < s0 + w.Data.length := by unfold covW; omega
  have e : sec (apply1 im w) v i = ix (if v = v0 then paste (ix im (v0 : Int)) (s0 : Int) w.Data else ix im (v : Int)) (i : Int) := by
    unfold sec apply1
    rw [h1, h2, ix_put _ _ hv]
  rw [e]
  by_cases hkv : v = v0
  · rw [if_pos hkv, ix_paste (by omega)]
    subst hkv
    by_cases hq : s0 ≤ i ∧ i < s0 + w.Data.length
    · rw [if_pos hq, if_pos (hc.2 ⟨rfl, hq⟩), h2]
    · rw [if_neg hq, if_neg (fun q => hq (hc.1 q).2)]; rfl
  · rw [if_neg hkv, if_neg (fun q => hkv (hc.1 q).1)]; rfl
theorem sec_none {v i : Nat} : ∀ {l : List api_Write} {im : List (List Sec)}, ¬ sizesE (szs im) ≠ 0 → (∀ w ∈ l, fitW (szs im) w = 0) → (∀ w ∈ l, ¬ covW w v i) → sec (appL im l) v i = sec im v i := by
  intro l
  induction l with
  | nil => intro im _ _ _; rfl
  | cons w l ih =>
    intro im hs h hn
    obtain ⟨v0, s0, hw⟩ := fitW_of hs (h w (List.mem_cons_self ..))
    have e := szs_apply1 hw
    show sec (appL (apply1 im w) l) v i = _
    rw [ih (by rw [e]; exact hs) (fun x hx => by rw [e]; exact h x (List.mem_cons_of_mem _ hx)) fun x hx => hn x (List.mem_cons_of_mem _ hx), sec_apply1 hw, if_neg (hn w (List.mem_cons_self ..))]
theorem im_ext {a b : List (List Sec)} (hs : szs a = szs b) (h : ∀ v i : Nat, v < a.length → i < (ix a (v : Int)).length → sec a v i = sec b v i) : a = b := by
  have hl : a.length = b.length := by rw [← szs_len a, ← szs_len b, hs]
  refine ext_ix hl fun v hv => ext_ix ?_ fun i hi => h v i hv hi
  have : ix (szs a) (v : Int) = ix (szs b) (v : Int) := by rw [hs]
  rw [ix_szs hv, ix_szs (by omega)] at this
  omega
theorem fit_small {im : List (List Sec)} (hs : ¬ sizesE (szs im) ≠ 0) : im.length ≤ 8 ∧ 1 ≤ im.length ∧ ∀ v : Nat, v < im.length → 1 ≤ (ix im (v : Int)).length ∧ (ix im (v : Int)).length ≤ 4096 := by
  obtain ⟨h1, h2, h3⟩ := sizes_ok hs
  rw [szs_len] at h1 h2 h3
  refine ⟨h1, h2, fun v hv => ?_⟩
  have := h3 v hv
  rw [ix_szs hv] at this
  omega
theorem fit_data {l : List Int} {w : api_Write} (hs : sizesE l = 0) (h : fitW l w = 0) : w.Data.length ≤ 4096 := by
  have := fitW_zero (by omega) h; omega
theorem slices_Clone_Sec_ok {l : List Sec} {Φ : List Sec → Prop} (hl : l.length ≤ 1000000) (hΦ : Φ l) : Z54 l Φ :=
  ⟨fun h => (by subst h; exact hΦ), iL hl (by omega), hΦ⟩
theorem image_copiedE_ok {im : List (List Sec)} {Φ : List (List Sec) → Prop} (h : imgE im = 0) (hΦ : Φ im) : Z57 im Φ := by
  have hl := sizesE_len h
  rw [szs_len] at hl
  refine ⟨by omega, iL (by omega) (by omega), ?_⟩
  refine LoopW.upT im.length (fun k => (im.take k, (k : Int))) rfl (fun k rec hk hr => ?_) fun rec => ⟨fun _ => by omega, fun _ => by rw [take_all]; exact hΦ⟩
  have := szs_small h k hk
  refine ⟨fun _ => ⟨iX (by omega) (by omega), slices_Clone_Sec_ok (by omega) ⟨iL (by rw [len_snoc, lenT (by omega)]; omega) (by omega), iI (by omega) (by omega), hr _ (by rw [take_ix hk]; rfl)⟩⟩, fun _ => by omega⟩
theorem appL_take {im : List (List Sec)} {l : List api_Write} {k : Nat} (h : k < l.length) : appL im (l.take (k + 1)) = apply1 (appL im (l.take k)) (ix l (k : Int)) := by rw [take_ix h, appL_snoc]
theorem szs_takeL {im : List (List Sec)} {l : List api_Write} (hs : imgE im = 0) (hf : ∀ w ∈ l, fitW (szs im) w = 0) (k : Nat) : szs (appL im (l.take k)) = szs im := szs_appL (by rw [show sizesE (szs im) = 0 from hs]; simp) fun w hw => hf w (List.mem_of_mem_take hw)
theorem image_Apply_ok {im : List (List Sec)} {l : List api_Write} {Φ : List (List Sec) × Int × Int → Prop} (hl : l.length ≤ 1000000) (hs : imgE im = 0) (hf : ∀ w ∈ l, fitW (szs im) w = 0) (hΦ : Φ (appL im l, 0, 0)) : image_Apply_W im l Φ := by
  have h8 := sizesE_len hs
  rw [szs_len] at h8
  refine image_Check_ok (by omega) ⟨fun q => absurd hs q, fun _ => image_copiedE_ok hs ?_⟩
  refine LoopW.upT l.length (fun k => (appL im (l.take k), (k : Int))) rfl (fun k rec hk hr => ?_) fun rec => ⟨fun _ => by omega, fun _ => by rw [take_all]; exact hΦ⟩
  have hw := hf _ (ix_mem (iX (i := (k : Int)) (n := l.length) (by omega) (by omega)))
  have e := szs_takeL hs hf k
  have hs' : imgE (appL im (l.take k)) = 0 := by unfold imgE; rw [e]; exact hs
  obtain ⟨v, s, hfw⟩ := fitW_of (by rw [show sizesE (szs im) = 0 from hs]; simp) hw
  have hv := hfw.hv
  have hle := hfw.le
  rw [← e, szs_len] at hv
  rw [← e, ix_szs hv] at hle
  refine ⟨fun _ => ⟨iX (by omega) (by omega), image_fits_ok (by have := fit_data (show sizesE (szs im) = 0 from hs) hw; omega) (fun j hj => Nat.le_trans (szs_small hs' j hj) (by omega)) ?_⟩, fun _ => by omega⟩
  rw [e, hw]
  refine ⟨fun q => absurd rfl q, fun _ => ?_⟩
  refine ⟨by rw [hfw.vol]; exact iX (by omega) (by omega), by rw [hfw.vol, hfw.start]; exact iS (by omega) (by omega) (by omega), iI (by omega) (by omega), hr _ (by rw [appL_take hk]; rfl)⟩
def idxN (p : Nat → Bool) (n : Nat) : Int := match (List.range n).find? p with
  | some k => (k : Int)
  | none => -1
theorem idxN_hit {p : Nat → Bool} {n k : Nat} (hk : k < n) (h0 : ∀ j, j < k → p j = false) (h1 : p k = true) : idxN p n = (k : Int) := by
  unfold idxN
  have : (List.range n).find? p = some k := by
    rw [List.find?_range_eq_some]
    exact ⟨h1, List.mem_range.2 hk, fun j hj => by rw [h0 j hj]; rfl⟩
  rw [this]
theorem idxN_none {p : Nat → Bool} {n : Nat} (h0 : ∀ j, j < n → p j = false) : idxN p n = -1 := by
  unfold idxN
  have : (List.range n).find? p = none := by
    rw [List.find?_eq_none]
    intro j hj
    rw [h0 j (List.mem_range.1 hj)]; simp
  rw [this]
theorem idxN_nonneg {p : Nat → Bool} {n : Nat} : 0 ≤ idxN p n ↔ ∃ k, k < n ∧ p k = true := by
  unfold idxN
  cases h : (List.range n).find? p with
  | some k => exact ⟨fun _ => ⟨k, List.mem_range.1 (List.mem_of_find?_eq_some h), List.find?_some h⟩, fun _ => by simp⟩
  | none =>
    rw [List.find?_eq_none] at h
    exact ⟨fun q => absurd q (by simp), fun ⟨k, hk, hp⟩ => absurd hp (h k (List.mem_range.2 hk))⟩
theorem idxN_cases (p : Nat → Bool) (n : Nat) : (idxN p n = -1 ∧ ∀ k, k < n → p k = false) ∨ ∃ k, k < n ∧ idxN p n = (k : Int) ∧ p k = true ∧ ∀ j, j < k → p j = false := by
  unfold idxN
  cases h : (List.range n).find? p with
  | none => exact .inl ⟨rfl, fun k hk => by rw [List.find?_eq_none] at h; have := h k (List.mem_range.2 hk); simpa using this⟩
  | some k =>
    rw [List.find?_range_eq_some] at h
    exact .inr ⟨k, List.mem_range.1 h.2.1, rfl, h.1, fun j hj => by have := h.2.2 j hj; simpa using this⟩
theorem idxN_succ (p : Nat → Bool) (n : Nat) : idxN p (n + 1) = if 0 ≤ idxN p n then idxN p n else if p n = true then (n : Int) else -1 := by
  rcases idxN_cases p n with ⟨h, h0⟩ | ⟨k, hk, h, h1, h0⟩
  · rw [h, if_neg (by omega)]
    by_cases hp : p n = true
    · rw [if_pos hp]; exact idxN_hit (Nat.lt_succ_self n) h0 hp
    · rw [if_neg hp]
      refine idxN_none fun j hj => ?_
      rcases Nat.lt_or_ge j n with h2 | h2
      · exact h0 j h2
      · obtain rfl : j = n := by omega
        simpa using hp
  · rw [h, if_pos (by omega)]; exact idxN_hit (by omega) h0 h1
theorem idxN_lt (p : Nat → Bool) (n : Nat) : -1 ≤ idxN p n ∧ idxN p n < (n : Int) ∨ n = 0 ∧ idxN p n = -1 := by
  rcases idxN_cases p n with ⟨h, _⟩ | ⟨k, hk, h, _⟩
  · rw [h]
    rcases Nat.eq_zero_or_pos n with h0 | h0
    · exact .inr ⟨h0, rfl⟩
    · exact .inl ⟨by omega, by omega⟩
  · rw [h]; exact .inl ⟨by omega, by omega⟩
def atN (l : List api_HistoryEvent) (n : Nat) (e : api_HistoryEvent) : Int := idxN (fun k => decide (ix l (k : Int) = e)) n
theorem atN_succ (l : List api_HistoryEvent) (n : Nat) (e : api_HistoryEvent) : atN l (n + 1) e = if 0 ≤ atN l n e then atN l n e else if ix l (n : Int) = e then (n : Int) else -1 := by
  unfold atN; rw [idxN_succ]; simp
theorem atN_keep {l : List api_HistoryEvent} {n : Nat} {e : api_HistoryEvent} (h : ix l (n : Int) ≠ e) : atN l (n + 1) e = atN l n e := by
  rw [atN_succ, if_neg h]
  rcases idxN_cases (fun k => decide (ix l (k : Int) = e)) n with ⟨q, _⟩ | ⟨k, _, q, _⟩
  · have q : atN l n e = -1 := q
    rw [q, if_neg (by omega)]
  · have q : atN l n e = (k : Int) := q
    rw [q, if_pos (by omega)]
theorem atN_here {l : List api_HistoryEvent} {n : Nat} (h : atN l n (ix l (n : Int)) < 0) : atN l (n + 1) (ix l (n : Int)) = (n : Int) := by rw [atN_succ, if_neg (by omega), if_pos rfl]
theorem atN_old {l : List api_HistoryEvent} {n : Nat} {e : api_HistoryEvent} (h : 0 ≤ atN l n e) : atN l (n + 1) e = atN l n e := by rw [atN_succ, if_pos h]
theorem atN_nn {l : List api_HistoryEvent} {n : Nat} {e : api_HistoryEvent} : 0 ≤ atN l (n + 1) e ↔ 0 ≤ atN l n e ∨ ix l (n : Int) = e := by
  rw [atN_succ]
  by_cases h : 0 ≤ atN l n e
  · rw [if_pos h]; exact ⟨fun q => .inl q, fun _ => h⟩
  · rw [if_neg h]
    by_cases q : ix l (n : Int) = e
    · rw [if_pos q]; exact ⟨fun _ => .inr q, fun _ => by omega⟩
    · rw [if_neg q]; exact ⟨fun r => by omega, fun r => (r.elim (fun r => absurd r h) fun r => absurd r q)⟩
theorem atN_lt (l : List api_HistoryEvent) (n : Nat) (e : api_HistoryEvent) : -1 ≤ atN l n e ∧ atN l n e < (n : Int) ∨ atN l n e = -1 := by
  rcases idxN_lt (fun k => decide (ix l (k : Int) = e)) n with h | h
  · exact .inl h
  · exact .inr h.2
theorem atN_neg {l : List api_HistoryEvent} {n : Nat} {e : api_HistoryEvent} (h : ¬ 0 ≤ atN l n e) : atN l n e = -1 := by
  rcases atN_lt l n e with q | q <;> omega
def cntI (l : List api_HistoryEvent) : Nat → Nat
  | 0 => 0
  | k + 1 => cntI l k + if (ix l (k : Int)).Kind = 0 then 1 else 0
theorem cntI_le (l : List api_HistoryEvent) : ∀ k, cntI l k ≤ k
  | 0 => Nat.le_refl _
  | k + 1 => by have := cntI_le l k; unfold cntI; split <;> omega
def evErr (l : List api_HistoryEvent) (n : Nat) (k : Nat) : Int :=
  if (ix l (k : Int)).Kind = 0 then (if (ix l (k : Int)).Write ≠ (cntI l k : Int) ∨ n ≤ cntI l k then 3 else 0)
  else if (ix l (k : Int)).Kind ≠ 1 then 3 else if (ix l (k : Int)).Write < 0 ∨ (cntI l k : Int) ≤ (ix l (k : Int)).Write then 7 else if 0 ≤ atN l k (ix l (k : Int)) then 8 else 0
theorem evErr_issue {l : List api_HistoryEvent} {n k : Nat} (h : evErr l n k = 0) (hk : (ix l (k : Int)).Kind = 0) : ix l (k : Int) = ⟨0, (cntI l k : Int)⟩ ∧ cntI l k < n := by
  unfold evErr at h
  rw [if_pos hk] at h
  by_cases q : (ix l (k : Int)).Write ≠ (cntI l k : Int) ∨ n ≤ cntI l k
  · rw [if_pos q] at h; cases h
  · refine ⟨?_, by omega⟩
    cases hx : ix l (k : Int) with
    | mk a b => rw [hx] at hk q; simp only at hk q; rw [hk, show b = (cntI l k : Int) by omega]
theorem evErr_ack {l : List api_HistoryEvent} {n k : Nat} (h : evErr l n k = 0) (hk : ¬ (ix l (k : Int)).Kind = 0) : ix l (k : Int) = ⟨1, (ix l (k : Int)).Write⟩ ∧ 0 ≤ (ix l (k : Int)).Write ∧ (ix l (k : Int)).Write < (cntI l k : Int) ∧ atN l k (ix l (k : Int)) = -1 := by
  unfold evErr at h
  rw [if_neg hk] at h
  by_cases q : (ix l (k : Int)).Kind ≠ 1
  · rw [if_pos q] at h; cases h
  rw [if_neg q] at h
  by_cases r : (ix l (k : Int)).Write < 0 ∨ (cntI l k : Int) ≤ (ix l (k : Int)).Write
  · rw [if_pos r] at h; cases h
  rw [if_neg r] at h
  by_cases s : 0 ≤ atN l k (ix l (k : Int))
  · rw [if_pos s] at h; cases h
  refine ⟨?_, by omega, by omega, atN_neg s⟩
  cases hx : ix l (k : Int) with
  | mk a b => rw [hx] at q; simp only at q; rw [Classical.not_not.1 q]
theorem cnt_issue {l : List api_HistoryEvent} {k : Nat} (h : (ix l (k : Int)).Kind = 0) : cntI l (k + 1) = cntI l k + 1 := by rw [cntI, if_pos h]
theorem cnt_ack {l : List api_HistoryEvent} {k : Nat} (h : ¬ (ix l (k : Int)).Kind = 0) : cntI l (k + 1) = cntI l k := by rw [cntI, if_neg h]; rfl
theorem at_issue {l : List api_HistoryEvent} {n : Nat} : ∀ {k : Nat}, (∀ j, j < k → evErr l n j = 0) → ∀ w : Int, 0 ≤ atN l k ⟨0, w⟩ ↔ 0 ≤ w ∧ w < (cntI l k : Int)
  | 0, _, w => ⟨fun h => absurd (show (0 : Int) ≤ -1 from h) (by decide), fun h => by unfold cntI at h; omega⟩
  | k + 1, hz, w => by
    rw [atN_nn, at_issue (fun j hj => hz j (by omega)) w]
    by_cases hk : (ix l (k : Int)).Kind = 0
    · have := (evErr_issue (hz k (Nat.lt_succ_self k)) hk).1
      rw [this, cnt_issue hk, api_HistoryEvent.mk.injEq]; omega
    · rw [cnt_ack hk]
      refine ⟨fun h => h.elim id fun q => absurd (by rw [q]) hk, .inl⟩
theorem at_ack {l : List api_HistoryEvent} {n : Nat} : ∀ {k : Nat}, (∀ j, j < k → evErr l n j = 0) → ∀ w : Int, 0 ≤ atN l k ⟨1, w⟩ → 0 ≤ w ∧ w < (cntI l k : Int)
  | 0, _, w => fun h => absurd (show (0 : Int) ≤ -1 from h) (by decide)
  | k + 1, hz, w => by
    rw [atN_nn]
    have ih := at_ack (k := k) (fun j hj => hz j (by omega)) w
    by_cases hk : (ix l (k : Int)).Kind = 0
    · rw [cnt_issue hk]
      rintro (h | h)
      · have := ih h; omega
      · rw [h] at hk; cases hk
    · rw [cnt_ack hk]
      rintro (h | h)
      · exact ih h
      · have := evErr_ack (hz k (Nat.lt_succ_self k)) hk
        rw [h] at this; exact ⟨this.2.1, this.2.2.1⟩
theorem cnt_le {l : List api_HistoryEvent} {n : Nat} : ∀ {k : Nat}, (∀ j, j < k → evErr l n j = 0) → cntI l k ≤ n
  | 0, _ => Nat.zero_le _
  | k + 1, hz => by
    by_cases hk : (ix l (k : Int)).Kind = 0
    · have := (evErr_issue (hz k (Nat.lt_succ_self k)) hk).2
      rw [cnt_issue hk]; omega
    · rw [cnt_ack hk]; exact cnt_le fun j hj => hz j (by omega)
def issL (l : List api_HistoryEvent) (k : Nat) : List Int := (List.range (cntI l k)).map fun w : Nat => atN l k ⟨0, (w : Int)⟩
def ackL (l : List api_HistoryEvent) (k : Nat) : List Int := (List.range (cntI l k)).map fun w : Nat => atN l k ⟨1, (w : Int)⟩
theorem issL_len (l : List api_HistoryEvent) (k : Nat) : (issL l k).length = cntI l k := by unfold issL; rw [List.length_map, List.length_range]
theorem ackL_len (l : List api_HistoryEvent) (k : Nat) : (ackL l k).length = cntI l k := by unfold ackL; rw [List.length_map, List.length_range]
theorem ix_ackL {l : List api_HistoryEvent} {k w : Nat} (h : w < cntI l k) : ix (ackL l k) (w : Int) = atN l k ⟨1, (w : Int)⟩ := by
  rw [ix_get (by rw [ackL_len]; exact h)]; unfold ackL; rw [List.getElem_map, List.getElem_range]
theorem issL_issue {l : List api_HistoryEvent} {n k : Nat} (hz : ∀ j, j < k + 1 → evErr l n j = 0) (hk : (ix l (k : Int)).Kind = 0) : issL l (k + 1) = issL l k ++ [(k : Int)] := by
  have h0 : ∀ j, j < k → evErr l n j = 0 := fun j hj => hz j (by omega)
  have hx := (evErr_issue (hz k (Nat.lt_succ_self k)) hk).1
  unfold issL
  rw [cnt_issue hk, List.range_succ, List.map_append]
  congr 1
  · refine List.map_congr_left fun w hw => atN_old ((at_issue h0 _).2 ⟨by omega, by have := List.mem_range.1 hw; omega⟩)
  · simp only [List.map_cons, List.map_nil]
    rw [← hx, atN_here (by rw [hx]; have := mt (at_issue h0 (cntI l k : Int)).1 (by omega); omega)]
theorem ackL_issue {l : List api_HistoryEvent} {n k : Nat} (hz : ∀ j, j < k + 1 → evErr l n j = 0) (hk : (ix l (k : Int)).Kind = 0) : ackL l (k + 1) = ackL l k ++ [-1] := by
  have h0 : ∀ j, j < k → evErr l n j = 0 := fun j hj => hz j (by omega)
  have hx := (evErr_issue (hz k (Nat.lt_succ_self k)) hk).1
  have hne : ∀ w : Int, ix l (k : Int) ≠ ⟨1, w⟩ := fun w q => by rw [q] at hk; cases hk
  unfold ackL
  rw [cnt_issue hk, List.range_succ, List.map_append]
  congr 1
  · exact List.map_congr_left fun w _ => atN_keep (hne _)
  · simp only [List.map_cons, List.map_nil]
    rw [atN_keep (hne _), atN_neg (fun q => by have := at_ack h0 _ q; omega)]
theorem issL_ack {l : List api_HistoryEvent} {k : Nat} (hk : ¬ (ix l (k : Int)).Kind = 0) : issL l (k + 1) = issL l k := by
  unfold issL
  rw [cnt_ack hk]
  exact List.map_congr_left fun w _ => atN_keep fun q => hk (by rw [q])
theorem ackL_ack {l : List api_HistoryEvent} {n k : Nat} (hz : ∀ j, j < k + 1 → evErr l n j = 0) (hk : ¬ (ix l (k : Int)).Kind = 0) : ackL l (k + 1) = put (ackL l k) (ix l (k : Int)).Write (k : Int) := by
  obtain ⟨hx, h1, h2, h3⟩ := evErr_ack (hz k (Nat.lt_succ_self k)) hk
  obtain ⟨w, hw⟩ := Int.eq_ofNat_of_zero_le h1
  rw [hw] at hx h2 ⊢
  refine ext_ix (by rw [put_len, ackL_len, ackL_len, cnt_ack hk]) fun j hj => ?_
  rw [ackL_len, cnt_ack hk] at hj
  rw [ix_put _ _ (by rw [ackL_len]; omega), ix_ackL (by rw [cnt_ack hk]; exact hj), ix_ackL hj]
  by_cases hjw : j = w
  · rw [if_pos hjw, hjw, ← hx, atN_here (by rw [h3]; omega)]
  · rw [if_neg hjw, atN_keep (by rw [hx]; intro q; rw [api_HistoryEvent.mk.injEq] at q; omega)]
def evE (h : api_History) : Int := if firstN (evErr h.Events h.Writes.length) h.Events.length ≠ 0 then firstN (evErr h.Events h.Writes.length) h.Events.length else if cntI h.Events h.Events.length < h.Writes.length then 3 else 0
def histE (h : api_History) : Int := if sizesE h.Sizes ≠ 0 then sizesE h.Sizes else if 4096 < (h.Writes.length : Int) then 6 else if firstN (fun k => fitW h.Sizes (ix h.Writes (k : Int))) h.Writes.length ≠ 0 then firstN (fun k => fitW h.Sizes (ix h.Writes (k : Int))) h.Writes.length else evE h
def tlH (h : api_History) : history_timeline := ⟨issL h.Events h.Events.length, ackL h.Events h.Events.length⟩
def noH : history_checked := ⟨⟨[], [], []⟩, ⟨[], []⟩⟩
structure SmallH (h : api_History) : Prop where
  ev : h.Events.length ≤ 100000
  wr : h.Writes.length ≤ 100000
  data : ∀ k : Nat, k < h.Writes.length → (ix h.Writes (k : Int)).Data.length ≤ 100000
theorem history_check_ok {h : api_History} {Φ : history_checked × Int → Prop} (hh : SmallH h) (k0 : histE h = 0 → Φ (⟨h, tlH h⟩, 0)) (k1 : histE h ≠ 0 → Φ (noH, histE h)) : Z8 h Φ := by
  unfold histE at k0 k1
  refine image_New_ok (fun hs => ⟨fun q => absurd rfl q, fun _ => ?_⟩) fun hs => ⟨fun _ => ?_, fun q => absurd hs q⟩
  · rw [if_neg (by omega)] at k0 k1
    refine ⟨fun q => ?_, fun q => ?_⟩
    · rw [if_pos q] at k1; exact k1 (by omega)
    rw [if_neg q] at k0 k1
    have hi : imgE (zeroI h.Sizes) = 0 := by unfold imgE; rw [szs_zeroI hs, hs]
    refine LoopW.errI (Ψ := fun e => (e = 0 → LoopW (Z6 h Φ) (0, [], [])) ∧ (e ≠ 0 → Φ (noH, e))) h.Writes.length (fun k => (k : Int)) (fun k => fitW h.Sizes (ix h.Writes (k : Int))) rfl ⟨fun hf => ?_, fun hf => ?_⟩
      (fun k rec hk _ h1 h2 => ⟨fun _ => ⟨iX (by omega) (by omega), image_Fits_ok (by have := hh.data k hk; omega) hi ?_⟩, fun _ => by omega⟩) fun rec _ h0 => ⟨fun _ => by omega, fun _ => h0.1 rfl⟩
    · rw [if_neg (by omega)] at k0 k1
      unfold evE at k0 k1
      refine LoopW.errI (Ψ := fun e => (e = 0 → (cntI h.Events h.Events.length < h.Writes.length → Φ (noH, 3)) ∧ (¬ cntI h.Events h.Events.length < h.Writes.length → Φ (⟨h, tlH h⟩, 0))) ∧ (e ≠ 0 → Φ (noH, e))) h.Events.length (fun k => ((k : Int), issL h.Events k, ackL h.Events k))
        (evErr h.Events h.Writes.length) rfl ⟨fun hf => ⟨fun hc => ?_, fun hc => ?_⟩, fun hf => ?_⟩ (fun k rec hk h0 h1 h2 => ⟨fun _ => ⟨iX (by omega) (by omega), ?_⟩, fun _ => by omega⟩) fun rec _ h0 => ⟨fun _ => by omega, fun _ => ⟨fun q => ?_, fun q => ?_⟩⟩
      · rw [if_neg (by omega), if_pos hc] at k1; exact k1 (by omega)
      · rw [if_neg (by omega), if_neg hc] at k0; exact k0 rfl
      · rw [if_pos hf] at k1; exact k1 hf
      · have hev := hh.ev
        have hcl := cntI_le h.Events k
        have fail : ∀ e : Int, e ≠ 0 → evErr h.Events h.Writes.length k = e → Z5 (k : Int) rec Φ (e, issL h.Events k, ackL h.Events k) := fun e he hq => ⟨fun _ => (by have := (h1 (by rw [hq]; exact he)).2 (by rw [hq]; exact he); rw [hq] at this; exact this), fun q => absurd he q⟩
        have good : evErr h.Events h.Writes.length k = 0 → Z5 (k : Int) rec Φ (0, issL h.Events (k + 1), ackL h.Events (k + 1)) := fun hq => ⟨fun q => absurd rfl q, fun _ => ⟨iI (by omega) (by omega), h2 hq _ rfl⟩⟩
        have hz : evErr h.Events h.Writes.length k = 0 → ∀ j, j < k + 1 → evErr h.Events h.Writes.length j = 0 := fun hq j hj => by
          rcases Nat.lt_or_ge j k with h3 | h3
          · exact h0 j h3
          · obtain rfl : j = k := by omega
            exact hq
        show (_ → _) ∧ _
        refine ⟨fun hk0 => ⟨fun q => ?_, fun q => ⟨fun r => ?_, fun r => ?_⟩⟩, fun hk0 => ⟨fun hk1 => ⟨fun q => ?_, fun q => ⟨fun r => ?_, fun r => ?_⟩⟩, fun hk1 => ?_⟩⟩
        · rw [issL_len] at q
          exact fail 3 (by omega) (by unfold evErr; rw [if_pos hk0, if_pos (.inl q)])
        · rw [issL_len] at q
          exact fail 3 (by omega) (by unfold evErr; rw [if_pos hk0, if_pos (by omega)])
        · rw [issL_len] at q
          have e0 : evErr h.Events h.Writes.length k = 0 := by unfold evErr; rw [if_pos hk0, if_neg (by omega)]
          refine ⟨iL (by rw [len_snoc, issL_len]; omega) (by omega), iL (by rw [len_snoc, ackL_len]; omega) (by omega), ?_⟩
          have := good e0
          rw [issL_issue (hz e0) hk0, ackL_issue (hz e0) hk0] at this; exact this
        · exact fail 7 (by omega) (by unfold evErr; rw [if_neg hk0, if_neg (by omega), if_pos (.inl q)])
        · rw [issL_len] at r
          exact fail 7 (by omega) (by unfold evErr; rw [if_neg hk0, if_neg (by omega), if_pos (.inr r)])
        · rw [issL_len] at r
          obtain ⟨w, hw⟩ := Int.eq_ofNat_of_zero_le (show 0 ≤ (ix h.Events (k : Int)).Write by omega)
          have hwl : w < cntI h.Events k := by omega
          have ha : ix (ackL h.Events k) (ix h.Events (k : Int)).Write = atN h.Events k (ix h.Events (k : Int)) := by
            rw [hw, ix_ackL hwl]
            congr 1
            cases hx : ix h.Events (k : Int) with
            | mk a b => rw [hx] at hw hk1; simp only at hw hk1; rw [hw, hk1]
          have hX : inX (ix h.Events (k : Int)).Write (ackL h.Events k).length := iX (by omega) (by rw [ackL_len]; omega)
          refine ⟨hX, fun s => ?_, fun s => ⟨hX, ?_⟩⟩
          · rw [ha] at s
            exact fail 8 (by omega) (by unfold evErr; rw [if_neg hk0, if_neg (by omega), if_neg (by omega), if_pos s])
          · rw [ha] at s
            have e0 : evErr h.Events h.Writes.length k = 0 := by unfold evErr; rw [if_neg hk0, if_neg (by omega), if_neg (by omega), if_neg s]
            have := good e0
            rw [issL_ack hk0, ackL_ack (hz e0) hk0] at this; exact this
        · exact fail 3 (by omega) (by unfold evErr; rw [if_neg hk0, if_pos hk1])
      · rw [issL_len] at q; exact (h0.1 rfl).1 (by omega)
      · rw [issL_len] at q; exact (h0.1 rfl).2 (by omega)
    · rw [if_pos hf] at k1; exact k1 hf
    · rw [szs_zeroI hs]
      exact ⟨fun q => (h1 q).2 q, fun q => ⟨iI (by have := hh.wr; omega) (by have := hh.wr; omega), h2 (Classical.not_not.1 q) _ rfl⟩⟩
  · rw [if_pos hs] at k1; exact k1 hs
end Go.Proofs.YtpmjodnmnffmhaaGreatDoor
