/- Part 5 of the proof of the statement CycleJoinsSaid: lemmas. No condition of its own. -/
import Derived.Lib.TrailingZeros
import Derived.ProofKit
import Derived.Test.YtbnfefbhalpceaaRows
import Derived.Test.YtbnfefbhalpceaaProg
import Derived.Test.YtbnfefbhalpceaaM4
namespace Go.Proofs.Ytbnfefbhalpceaa
open Go.RowKit
theorem rd3 : ReadsD Try.prog 3 (Int) := ReadsD.int Try.underlying3 (by kernel_rfl)
theorem rd22 : ReadsD Try.prog 22 (List Int) := ReadsD.slice Try.underlying22 (by kernel_rfl) rd3 (by decide)
theorem rd94 : ReadsD Try.prog 94 (Sec) := ReadsD.sec Try.underlying94 Try.underlying5 (by kernel_rfl) (by kernel_rfl)
theorem rd34 : ReadsD Try.prog 34 (List Sec) := ReadsD.slice Try.underlying34 (by kernel_rfl) rd94 (by decide)
instance rg_api_Write : Rg api_Write := ⟨fun x => Rg.rg x.Volume ∧ Rg.rg x.Start ∧ Rg.rg x.Data⟩
theorem rd36 : ReadsD Try.prog 36 (api_Write) := (@Reads.struct Try.prog 36 _ (Int × Int × List Sec × Unit) (@datProd _ _ (datD (Int)) (@datProd _ _ (datD (Int)) (@datProd _ _ (datD (List Sec)) datUnit))) Try.underlying36 (by kernel_rfl) (@Fields.cons _ _ _ _ _ _ (datD (Int)) _ rfl rd3 (@Fields.cons _ _ _ _ _ _ (datD (Int)) _ rfl rd3 (@Fields.cons _ _ _ _ _ _ (datD (List Sec)) _ rfl rd34 (.nil _))))).map rfl fun {H cs a} h => by
  obtain ⟨a0, a1, a2, _⟩ := a
  obtain ⟨_, _, rfl, ⟨rfl, r0⟩, _, _, rfl, ⟨rfl, r1⟩, _, _, rfl, ⟨⟨A3, n3, c3, s3, rfl, hF3⟩, r2⟩, hz⟩ := h
  cases hz
  exact ⟨⟨a0, a1, a2⟩, ⟨A3, n3, c3, s3, rfl, hF3⟩, r0, r1, r2⟩
theorem rd23 : ReadsD Try.prog 23 (List api_Write) := ReadsD.slice Try.underlying23 (by kernel_rfl) rd36 (by decide)
instance rg_api_Cycle : Rg api_Cycle := ⟨fun x => Rg.rg x.Base ∧ Rg.rg x.Number ∧ Rg.rg x.Time ∧ Rg.rg x.Positions ∧ Rg.rg x.Writes⟩
theorem rd25 : ReadsD Try.prog 25 (api_Cycle) := (@Reads.struct Try.prog 25 _ (Int × Int × Int × List Int × List api_Write × Unit) (@datProd _ _ (datD (Int)) (@datProd _ _ (datD (Int)) (@datProd _ _ (datD (Int)) (@datProd _ _ (datD (List Int)) (@datProd _ _ (datD (List api_Write)) datUnit))))) Try.underlying25 (by kernel_rfl) (@Fields.cons _ _ _ _ _ _ (datD (Int)) _ rfl rd3 (@Fields.cons _ _ _ _ _ _ (datD (Int)) _ rfl rd3 (@Fields.cons _ _ _ _ _ _ (datD (Int)) _ rfl rd3 (@Fields.cons _ _ _ _ _ _ (datD (List Int)) _ rfl rd22 (@Fields.cons _ _ _ _ _ _ (datD (List api_Write)) _ rfl rd23 (.nil _))))))).map rfl fun {H cs a} h => by
  obtain ⟨a0, a1, a2, a3, a4, _⟩ := a
  obtain ⟨_, _, rfl, ⟨rfl, r0⟩, _, _, rfl, ⟨rfl, r1⟩, _, _, rfl, ⟨rfl, r2⟩, _, _, rfl, ⟨⟨A8, n8, c8, s8, rfl, hF8⟩, r3⟩, _, _, rfl, ⟨⟨A10, n10, c10, s10, rfl, hF10⟩, r4⟩, hz⟩ := h
  cases hz
  exact ⟨⟨a0, a1, a2, a3, a4⟩, ⟨A8, n8, c8, s8, A10, n10, c10, s10, rfl, hF8, hF10⟩, r0, r1, r2, r3, r4⟩
instance rg_api_Capture : Rg api_Capture := ⟨fun x => Rg.rg x.Number ∧ Rg.rg x.Sizes ∧ Rg.rg x.Positions ∧ Rg.rg x.Nodes ∧ Rg.rg x.Writes⟩
theorem rd49 : ReadsD Try.prog 49 (List (List Sec)) := ReadsD.slice Try.underlying49 (by kernel_rfl) rd34 (by decide)
end Go.Proofs.Ytbnfefbhalpceaa
namespace Go.Proofs.Ytbnfefbhalpceaa
open Go.RowKit Go.ChangeShapes Go.WideShapes Go.ChangeAt
theorem Try.own : ownKnob Try.prog.godebug = none := by kernel_rfl
theorem Try.laidOut : laidOutB Try.prog = true := by kernel_rfl
theorem lawRes (y : TupD DD [4]) (hy : y.1 = true) {H : Hp} {v : Value} {L : List Ent} (hr : ResR Try.prog tab [4] [[false]] y H v L) : ∃ z, z = true ∧ v = .bool z ∧ L = [] := by
  obtain ⟨ρ, _, _, _, _, h1, h2⟩ := hr 0 (fun _ => none) (fun _ _ => rfl) _ _ _ (show resE Try.prog tab _ _ y 0 = some (.b y.1, [], 0) by kernel_rfl)
  exact ⟨y.1, hy, h1, h2⟩
theorem pkw25 (v : Value) (cs : List Value) : PkR Try.prog 25 v cs = (v = .agg cs.toArray) := by kernel_rfl
theorem pkw49 (v : Value) (cs : List Value) : PkR Try.prog 49 v cs = (cs = [v]) := by kernel_rfl
end Go.Proofs.Ytbnfefbhalpceaa
namespace Go.Proofs.Ytbnfefbhalpceaa
open Go.RowKit
def Z0 (x0 : Int) (Φ : Bool → Prop) : Prop :=
 (x0 < 1 →
 Φ true) ∧
 (¬ (x0 < 1) →
 Φ (decide (4096 < x0)))
def Z1 (x0 : List Int) (Φ : Int → Prop) : (Int) → ((Int) → Prop) → Prop
 | v1, rec1 =>
 (v1 < (x0.length : Int) →
 inX v1 x0.length ∧
 Z0 (ix x0 v1) fun v2 =>
 (v2 = true →
 (0 ≤ v1 →
 Φ 2) ∧
 (¬ (0 ≤ v1) →
 Φ 0)) ∧
 (¬ (v2 = true) →
 inI (v1 + 1) ∧
 rec1 (v1 + 1))) ∧
 (¬ (v1 < (x0.length : Int)) →
 (0 ≤ ((-1) : Int) →
 Φ 2) ∧
 (¬ (0 ≤ ((-1) : Int)) →
 Φ 0))
def Z2 (x0 : List Int) (Φ : Int → Prop) : Prop :=
 ((x0.length : Int) < 1 →
 Φ 6) ∧
 (¬ ((x0.length : Int) < 1) →
 (8 < (x0.length : Int) →
 Φ 6) ∧
 (¬ (8 < (x0.length : Int)) →
 LoopW (Z1 x0 Φ) 0))
def image_New_1_W (x0 : Int) (Φ : List Sec → Prop) : Prop :=
 0 ≤ x0 ∧
 lenOk x0.toNat 8 ∧
 Φ (List.replicate x0.toNat (sec0 : Sec))
def image_New_L1 (x0 : List Int) (Φ : List (List Sec) × Int → Prop) : (Int × List (List Sec)) → ((Int × List (List Sec)) → Prop) → Prop
 | (v2, v3), rec1 =>
 (v2 < (x0.length : Int) →
 inX v2 x0.length ∧
 image_New_1_W (ix x0 v2) fun v4 =>
 lenOk (v3 ++ ([v4] : List (List Sec))).length 24 ∧
 inI (v2 + 1) ∧
 rec1 ((v2 + 1), (v3 ++ ([v4] : List (List Sec))))) ∧
 (¬ (v2 < (x0.length : Int)) →
 Φ (v3, 0))
def image_New_W (x0 : List Int) (Φ : List (List Sec) × Int → Prop) : Prop :=
 Z2 x0 fun v1 =>
 (v1 ≠ 0 →
 Φ (([] : List (List Sec)), v1)) ∧
 (¬ (v1 ≠ 0) →
 0 ≤ (x0.length : Int) ∧
 lenOk (x0.length : Int).toNat 24 ∧
 LoopW (image_New_L1 x0 Φ) (0, ([] : List (List Sec))))
def cycle_in_W (x0 : Int) (x1 : Int) (x2 : Int) (Φ : Bool → Prop) : Prop :=
 (x1 ≤ x0 →
 Φ (decide (x0 ≤ x2))) ∧
 (¬ (x1 ≤ x0) →
 Φ false)
def Z3 (x0 : List Int) (Φ : List Int → Prop) : Prop :=
 (x0 = [] →
 Φ ([] : List Int)) ∧
 (
 lenOk (([] : List Int) ++ x0).length 8 ∧
 Φ (([] : List Int) ++ x0))
def cycle_Open_W (x0 : List Int) (x1 : Int) (x2 : Int) (Φ : api_Capture × Int → Prop) : Prop :=
 image_New_W x0 fun v1 =>
 (v1.2 ≠ 0 →
 Φ ((api_Capture.mk 0 ([] : List Int) ([] : List Int) ([] : List Int) ([] : List api_Write)), v1.2)) ∧
 (¬ (v1.2 ≠ 0) →
 cycle_in_W x1 1 8 fun v2 =>
 (¬ (v2 = true) →
 Φ ((api_Capture.mk 0 ([] : List Int) ([] : List Int) ([] : List Int) ([] : List api_Write)), 6)) ∧
 (¬ (¬ (v2 = true)) →
 cycle_in_W x2 0 1073741823 fun v3 =>
 (¬ (v3 = true) →
 Φ ((api_Capture.mk 0 ([] : List Int) ([] : List Int) ([] : List Int) ([] : List api_Write)), 2)) ∧
 (¬ (¬ (v3 = true)) →
 ∃ v4 : List Int × Unit, Z3 x0 (fun z => (z, ()) = v4) ∧
 0 ≤ x1 ∧
 lenOk x1.toNat 8 ∧
 Φ ((api_Capture.mk x2 v4.1 (List.replicate x1.toNat (0 : Int)) ([] : List Int) ([] : List api_Write)), 0))))
def Z4 (x0 : Int) (x1 : Int) (x2 : List (BitVec 8)) (Φ : api_Write → Prop) : (Int × List Sec) → ((Int × List Sec) → Prop) → Prop
 | (v1, v2), rec1 =>
 (v1 < (x2.length : Int) →
 inX v1 x2.length ∧
 lenOk (v2 ++ ([(Sec.mk (ix x2 v1) (0#8) (0#8) (0#8) (0#8) (0#8) (0#8) (0#8))] : List Sec)).length 8 ∧
 inI (v1 + 1) ∧
 rec1 ((v1 + 1), (v2 ++ ([(Sec.mk (ix x2 v1) (0#8) (0#8) (0#8) (0#8) (0#8) (0#8) (0#8))] : List Sec)))) ∧
 (¬ (v1 < (x2.length : Int)) →
 Φ (api_Write.mk x0 x1 v2))
def law23_write_W (x0 : Int) (x1 : Int) (x2 : List (BitVec 8)) (Φ : api_Write → Prop) : Prop :=
 LoopW (Z4 x0 x1 x2 Φ) (0, ([] : List Sec))
def Z5 (x0 : Int) (Φ : Bool → Prop) : Prop :=
 cycle_in_W x0 0 1073741824 fun v1 =>
 Φ (decide (¬ (v1 = true)))
def Z6 (x0 : List Int) (Φ : Int → Prop) : (Int) → ((Int) → Prop) → Prop
 | v2, rec1 =>
 (v2 < (x0.length : Int) →
 inX v2 x0.length ∧
 Z5 (ix x0 v2) fun v3 =>
 (v3 = true →
 (0 ≤ v2 →
 Φ 2) ∧
 (¬ (0 ≤ v2) →
 Φ 0)) ∧
 (¬ (v3 = true) →
 inI (v2 + 1) ∧
 rec1 (v2 + 1))) ∧
 (¬ (v2 < (x0.length : Int)) →
 (0 ≤ ((-1) : Int) →
 Φ 2) ∧
 (¬ (0 ≤ ((-1) : Int)) →
 Φ 0))
def Z7 (x0 : List Int) (x1 : Int) (Φ : Int → Prop) : Prop :=
 cycle_in_W (x0.length : Int) x1 8 fun v1 =>
 (¬ (v1 = true) →
 Φ 6) ∧
 (¬ (¬ (v1 = true)) →
 LoopW (Z6 x0 Φ) 0)
def Z8 (x0 : List Sec) (Φ : Int → Prop) : Prop :=
 Φ (x0.length : Int)
def Z9 (x0 : List (List Sec)) (Φ : List Int → Prop) : (Int × List Int) → ((Int × List Int) → Prop) → Prop
 | (v1, v2), rec1 =>
 (v1 < (x0.length : Int) →
 inX v1 x0.length ∧
 Z8 (ix x0 v1) fun v3 =>
 lenOk (v2 ++ ([v3] : List Int)).length 8 ∧
 inI (v1 + 1) ∧
 rec1 ((v1 + 1), (v2 ++ ([v3] : List Int)))) ∧
 (¬ (v1 < (x0.length : Int)) →
 Φ v2)
def image_sizes_W (x0 : List (List Sec)) (Φ : List Int → Prop) : Prop :=
 0 ≤ (x0.length : Int) ∧
 lenOk (x0.length : Int).toNat 8 ∧
 LoopW (Z9 x0 Φ) (0, ([] : List Int))
def image_Check_W (x0 : List (List Sec)) (Φ : Int → Prop) : Prop :=
 image_sizes_W x0 fun v1 =>
 Z2 v1 fun v2 =>
 Φ v2
def image_fits_J1 (x0 : List (List Sec)) (x1 : api_Write) (Φ : Int → Prop) : Bool → Prop
 | v1 =>
 (v1 = true →
 Φ 7) ∧
 (¬ (v1 = true) →
 ((x1.Data.length : Int) = 0 →
 Φ 1) ∧
 (¬ ((x1.Data.length : Int) = 0) →
 (x1.Start < 0 →
 Φ 2) ∧
 (¬ (x1.Start < 0) →
 inX x1.Volume x0.length ∧
 inI (((ix x0 x1.Volume).length : Int) - (x1.Data.length : Int)) ∧
 ((((ix x0 x1.Volume).length : Int) - (x1.Data.length : Int)) < x1.Start →
 Φ 2) ∧
 (¬ ((((ix x0 x1.Volume).length : Int) - (x1.Data.length : Int)) < x1.Start) →
 Φ 0))))
def image_fits_W (x0 : List (List Sec)) (x1 : api_Write) (Φ : Int → Prop) : Prop :=
 Join (image_fits_J1 x0 x1 Φ) fun J1 =>
 (x1.Volume < 0 →
 J1 true) ∧
 (¬ (x1.Volume < 0) →
 J1 (decide ((x0.length : Int) ≤ x1.Volume)))
def image_Fits_W (x0 : List (List Sec)) (x1 : api_Write) (Φ : Int → Prop) : Prop :=
 image_Check_W x0 fun v1 =>
 (v1 ≠ 0 →
 Φ v1) ∧
 (¬ (v1 ≠ 0) →
 image_fits_W x0 x1 fun v2 =>
 Φ v2)
def Z10 (x0 : List Sec) (Φ : List Sec → Prop) : Prop :=
 (x0 = [] →
 Φ ([] : List Sec)) ∧
 (
 lenOk (([] : List Sec) ++ x0).length 8 ∧
 Φ (([] : List Sec) ++ x0))
def Z11 (x0 : api_Write) (Φ : api_Write → Prop) : Prop :=
 Z10 x0.Data fun v1 =>
 Φ (api_Write.mk x0.Volume x0.Start v1)
def Z12 (x0 : api_Capture) (v1 : List Int × Unit) (v2 : List Int × Unit) (v3 : List Int × Unit) (Φ : api_Capture → Prop) : (Int × List api_Write) → ((Int × List api_Write) → Prop) → Prop
 | (v4, v5), rec1 =>
 (v4 < (x0.Writes.length : Int) →
 inX v4 x0.Writes.length ∧
 Z11 (ix x0.Writes v4) fun v6 =>
 lenOk (v5 ++ ([v6] : List api_Write)).length 40 ∧
 inI (v4 + 1) ∧
 rec1 ((v4 + 1), (v5 ++ ([v6] : List api_Write)))) ∧
 (¬ (v4 < (x0.Writes.length : Int)) →
 Φ (api_Capture.mk x0.Number v1.1 v2.1 v3.1 v5))
def Z13 (x0 : api_Capture) (Φ : api_Capture → Prop) : Prop :=
 ∃ v1 : List Int × Unit, Z3 x0.Sizes (fun z => (z, ()) = v1) ∧
 ∃ v2 : List Int × Unit, Z3 x0.Positions (fun z => (z, ()) = v2) ∧
 ∃ v3 : List Int × Unit, Z3 x0.Nodes (fun z => (z, ()) = v3) ∧
 LoopW (Z12 x0 v1 v2 v3 Φ) (0, ([] : List api_Write))
def cycle_Add_L1 (x0 : api_Capture) (x1 : Int) (x2 : api_Write) (v1 : List (List Sec) × Int) (Φ : api_Capture × Int → Prop) : (Int) → ((Int) → Prop) → Prop
 | v4, rec1 =>
 (v4 < (x0.Writes.length : Int) →
 inX v4 x0.Writes.length ∧
 inX v4 x0.Nodes.length ∧
 inI ((x0.Positions.length : Int) - 1) ∧
 cycle_in_W (ix x0.Nodes v4) 0 ((x0.Positions.length : Int) - 1) fun v5 =>
 (¬ (v5 = true) →
 Φ ((api_Capture.mk 0 ([] : List Int) ([] : List Int) ([] : List Int) ([] : List api_Write)), 7)) ∧
 (¬ (¬ (v5 = true)) →
 image_Fits_W v1.1 (ix x0.Writes v4) fun v6 =>
 (¬ (v6 = 0) →
 Φ ((api_Capture.mk 0 ([] : List Int) ([] : List Int) ([] : List Int) ([] : List api_Write)), v6)) ∧
 (¬ (¬ (v6 = 0)) →
 inI (v4 + 1) ∧
 rec1 (v4 + 1)))) ∧
 (¬ (v4 < (x0.Writes.length : Int)) →
 inI ((x0.Positions.length : Int) - 1) ∧
 cycle_in_W x1 0 ((x0.Positions.length : Int) - 1) fun v7 =>
 (¬ (v7 = true) →
 Φ ((api_Capture.mk 0 ([] : List Int) ([] : List Int) ([] : List Int) ([] : List api_Write)), 7)) ∧
 (¬ (¬ (v7 = true)) →
 image_Fits_W v1.1 x2 fun v8 =>
 (¬ (v8 = 0) →
 Φ ((api_Capture.mk 0 ([] : List Int) ([] : List Int) ([] : List Int) ([] : List api_Write)), v8)) ∧
 (¬ (¬ (v8 = 0)) →
 (¬ ((x0.Writes.length : Int) < 4096) →
 Φ ((api_Capture.mk 0 ([] : List Int) ([] : List Int) ([] : List Int) ([] : List api_Write)), 11)) ∧
 (¬ (¬ ((x0.Writes.length : Int) < 4096)) →
 Z13 x0 fun v9 =>
 lenOk (v9.Nodes ++ ([x1] : List Int)).length 8 ∧
 ∃ v10 : api_Write × Unit, Z11 x2 (fun z => (z, ()) = v10) ∧
 lenOk (v9.Writes ++ ([v10.1] : List api_Write)).length 40 ∧
 Φ ((api_Capture.mk v9.Number v9.Sizes v9.Positions (v9.Nodes ++ ([x1] : List Int)) (v9.Writes ++ ([v10.1] : List api_Write))), 0)))))
def cycle_Add_W (x0 : api_Capture) (x1 : Int) (x2 : api_Write) (Φ : api_Capture × Int → Prop) : Prop :=
 image_New_W x0.Sizes fun v1 =>
 (¬ (v1.2 = 0) →
 Φ ((api_Capture.mk 0 ([] : List Int) ([] : List Int) ([] : List Int) ([] : List api_Write)), v1.2)) ∧
 (¬ (¬ (v1.2 = 0)) →
 cycle_in_W x0.Number 0 1073741823 fun v2 =>
 (¬ (v2 = true) →
 Φ ((api_Capture.mk 0 ([] : List Int) ([] : List Int) ([] : List Int) ([] : List api_Write)), 2)) ∧
 (¬ (¬ (v2 = true)) →
 Z7 x0.Positions 1 fun v3 =>
 (¬ (v3 = 0) →
 Φ ((api_Capture.mk 0 ([] : List Int) ([] : List Int) ([] : List Int) ([] : List api_Write)), v3)) ∧
 (¬ (¬ (v3 = 0)) →
 ((x0.Nodes.length : Int) = (x0.Writes.length : Int) →
 (¬ ((x0.Writes.length : Int) ≤ 4096) →
 Φ ((api_Capture.mk 0 ([] : List Int) ([] : List Int) ([] : List Int) ([] : List api_Write)), 6)) ∧
 (¬ (¬ ((x0.Writes.length : Int) ≤ 4096)) →
 LoopW (cycle_Add_L1 x0 x1 x2 v1 Φ) 0)) ∧
 (¬ ((x0.Nodes.length : Int) = (x0.Writes.length : Int)) →
 Φ ((api_Capture.mk 0 ([] : List Int) ([] : List Int) ([] : List Int) ([] : List api_Write)), 6)))))
def Z14 (x0 : Int) (Φ : Bool → Prop) : Prop :=
 Φ (decide (0 < x0))
def Z15 (x0 : cycle_division) (x1 : Bool) : (List (Int × api_Write × Unit) × Int) → ((List (Int × api_Write × Unit) × Int) → Prop) → Prop
 | (l1, v1), rec1 =>
 (v1 < (x0.c.Writes.length : Int) →
 inX v1 x0.c.Writes.length ∧
 inX v1 x0.part.length ∧
 ((ix x0.part v1) = x1 →
 Yl l1 fun v2 r3 => (v1, (ix x0.c.Writes v1), ()) = v2 ∧ (
 inI (v1 + 1) ∧
 rec1 (r3, (v1 + 1))) ∧ (
 True)) ∧
 (¬ ((ix x0.part v1) = x1) →
 inI (v1 + 1) ∧
 rec1 (l1, (v1 + 1)))) ∧
 (¬ (v1 < (x0.c.Writes.length : Int)) →
 l1 = [])
def cycle_division_writes_1_I (x0 : cycle_division) (x1 : Bool) (l : List (Int × api_Write × Unit)) : Prop :=
 LoopW (Z15 x0 x1) (l, 0)
def Z16 (x0 : api_Write) (Φ : Int → Prop) : Bool → Prop
 | v1 =>
 (v1 = true →
 Φ 7) ∧
 (¬ (v1 = true) →
 ((x0.Data.length : Int) = 0 →
 Φ 1) ∧
 (¬ ((x0.Data.length : Int) = 0) →
 (x0.Start < 0 →
 Φ 2) ∧
 (¬ (x0.Start < 0) →
 inI (4096 - (x0.Data.length : Int)) ∧
 ((4096 - (x0.Data.length : Int)) < x0.Start →
 Φ 2) ∧
 (¬ ((4096 - (x0.Data.length : Int)) < x0.Start) →
 Φ 0))))
def Z17 (x0 : api_Write) (Φ : Int → Prop) : Prop :=
 Join (Z16 x0 Φ) fun J1 =>
 (x0.Volume < 0 →
 J1 true) ∧
 (¬ (x0.Volume < 0) →
 J1 (decide (8 ≤ x0.Volume)))
def Z18 (x0 : coalesce_place) (Φ : coalesce_place → Prop) : Prop :=
 inI (x0.sector + 1) ∧
 Φ (coalesce_place.mk x0.volume (x0.sector + 1))
def Z19 (x0 : Int) (Φ : Bool → Prop) : Prop :=
 Φ (decide (x0 ≠ x0))
def Z20 (x0 : Int) (x1 : Int) (Φ : Int → Prop) : Prop :=
 Z19 x0 fun v1 =>
 Z19 x1 fun v2 =>
 (v1 = true →
 (v2 = true →
 Φ 0) ∧
 (¬ (v2 = true) →
 Φ (-1))) ∧
 (¬ (v1 = true) →
 (v2 = true →
 Φ 1) ∧
 (¬ (v2 = true) →
 (x0 < x1 →
 Φ (-1)) ∧
 (¬ (x0 < x1) →
 (x1 < x0 →
 Φ 1) ∧
 (¬ (x1 < x0) →
 Φ 0))))
def cmp_Or_int_L1 (x0 : List Int) (Φ : Int → Prop) : (Int) → ((Int) → Prop) → Prop
 | v1, rec1 =>
 (v1 < (x0.length : Int) →
 inX v1 x0.length ∧
 ((ix x0 v1) ≠ 0 →
 Φ (ix x0 v1)) ∧
 (¬ ((ix x0 v1) ≠ 0) →
 inI (v1 + 1) ∧
 rec1 (v1 + 1))) ∧
 (¬ (v1 < (x0.length : Int)) →
 Φ 0)
def cmp_Or_int_W (x0 : List Int) (Φ : Int → Prop) : Prop :=
 LoopW (cmp_Or_int_L1 x0 Φ) 0
def Z21 (x0 : coalesce_place) (x1 : coalesce_place) (Φ : Int → Prop) : Prop :=
 ∃ v1 : Int × Unit, Z20 x0.volume x1.volume (fun z => (z, ()) = v1) ∧
 ∃ v2 : Int × Unit, Z20 x0.sector x1.sector (fun z => (z, ()) = v2) ∧
 ∃ v3 : Int × Unit, cmp_Or_int_W ([v1.1, v2.1] : List Int) (fun z => (z, ()) = v3) ∧
 Φ v3.1
def pleB (a b : coalesce_place) : Bool := decide (a.volume < b.volume ∨ a.volume = b.volume ∧ a.sector ≤ b.sector)
def Z22 (xs : List coalesce_place) (Φ : List coalesce_place → Prop) : Prop := xs.length ≤ 1099511627776 ∧ Φ (sortG pleB xs)
def Z23 (x0 : List api_Write) (v3 : Int) (rec2 : (Int × (List (coalesce_place × Sec))) → Prop) (_ : List api_Write × Int → Prop) : (Int × Int × Int × (List (coalesce_place × Sec))) → ((Int × Int × Int × (List (coalesce_place × Sec))) → Prop) → Prop
 | (v5, v6, v7, v8), rec3 =>
 (v5 < (((ix x0 v3).Data).length : Int) →
 inX v5 ((ix x0 v3).Data).length ∧
 Z18 (coalesce_place.mk v6 v7) fun v9 =>
 inI (v5 + 1) ∧
 rec3 ((v5 + 1), v9.volume, v9.sector, (mput v8 (coalesce_place.mk v6 v7) (ix ((ix x0 v3).Data) v5)))) ∧
 (¬ (v5 < (((ix x0 v3).Data).length : Int)) →
 inI (v3 + 1) ∧
 rec2 ((v3 + 1), v8))
def Z24 (v4 : List (coalesce_place × Sec)) (v13 : List coalesce_place) (v14 : Int) (rec5 : (Int × Int × Int × List api_Write × List Sec) → Prop) (_ : List api_Write × Int → Prop) : List api_Write × List Sec → Prop
 | (v19, v20) =>
 inI ((v19.length : Int) - 1) ∧
 inX ((v19.length : Int) - 1) v19.length ∧
 ((v19.length : Int) - 1) + 1 = (v19.length : Int) ∧
 lenOk (v20 ++ ([(mget v4 (ix v13 v14) sec0)] : List Sec)).length 8 ∧
 Z18 (ix v13 v14) fun v21 =>
 inI (v14 + 1) ∧
 rec5 ((v14 + 1), v21.volume, v21.sector, v19, (v20 ++ ([(mget v4 (ix v13 v14) sec0)] : List Sec)))
def Z25 (v4 : List (coalesce_place × Sec)) (v13 : List coalesce_place) (Φ : List api_Write × Int → Prop) : (Int × Int × Int × List api_Write × List Sec) → ((Int × Int × Int × List api_Write × List Sec) → Prop) → Prop
 | (v14, v15, v16, v17, v18), rec5 =>
 (v14 < (v13.length : Int) →
 inX v14 v13.length ∧
 Join (Z24 v4 v13 v14 rec5 Φ) fun J6 =>
 ((ix v13 v14) ≠ (coalesce_place.mk v15 v16) →
 lenOk ((put v17 ((v17.length : Int) - 1) (api_Write.mk ((ix v17 ((v17.length : Int) - 1)).Volume) ((ix v17 ((v17.length : Int) - 1)).Start) v18)) ++ ([(api_Write.mk ((ix v13 v14).volume) ((ix v13 v14).sector) ([] : List Sec))] : List api_Write)).length 40 ∧
 J6 (((put v17 ((v17.length : Int) - 1) (api_Write.mk ((ix v17 ((v17.length : Int) - 1)).Volume) ((ix v17 ((v17.length : Int) - 1)).Start) v18)) ++ ([(api_Write.mk ((ix v13 v14).volume) ((ix v13 v14).sector) ([] : List Sec))] : List api_Write)), ([] : List Sec))) ∧
 (¬ ((ix v13 v14) ≠ (coalesce_place.mk v15 v16)) →
 J6 (v17, v18))) ∧
 (¬ (v14 < (v13.length : Int)) →
 Φ ((put v17 ((v17.length : Int) - 1) (api_Write.mk ((ix v17 ((v17.length : Int) - 1)).Volume) ((ix v17 ((v17.length : Int) - 1)).Start) v18)), 0))
def Z26 (v4 : List (coalesce_place × Sec)) (Φ : List api_Write × Int → Prop) : (((Nat × List Nat)) × List coalesce_place) → ((((Nat × List Nat)) × List coalesce_place) → Prop) → Prop
 | (v10, v11), rec4 =>
 v4.length = v10.1 ∧ ((∀ i, i < v4.length → i ∈ v10.2) →
 Z22 v11 fun v13 =>
 LoopW (Z25 v4 v13 Φ) (0, (-1), 0, ([] : List api_Write), ([] : List Sec))) ∧
 ∀ i12, i12 < v4.length → i12 ∉ v10.2 →
 v4.length = v10.1 ∧
 i12 < v4.length ∧
 lenOk (v11 ++ ([((ent v4 i12).1)] : List coalesce_place)).length 16 ∧
 rec4 ((v10.1, (i12 :: v10.2)), (v11 ++ ([((ent v4 i12).1)] : List coalesce_place)))
def Z27 (x0 : List api_Write) (Φ : List api_Write × Int → Prop) : (Int × (List (coalesce_place × Sec))) → ((Int × (List (coalesce_place × Sec))) → Prop) → Prop
 | (v3, v4), rec2 =>
 (v3 < (x0.length : Int) →
 inX v3 x0.length ∧
 LoopW (Z23 x0 v3 rec2 Φ) (0, (ix x0 v3).Volume, (ix x0 v3).Start, v4)) ∧
 (¬ (v3 < (x0.length : Int)) →
 0 ≤ (v4.length : Int) ∧
 lenOk (v4.length : Int).toNat 16 ∧
 LoopW (Z26 v4 Φ) ((v4.length, []), ([] : List coalesce_place)))
def Z28 (x0 : List api_Write) (Φ : List api_Write × Int → Prop) : (Int) → ((Int) → Prop) → Prop
 | v1, rec1 =>
 (v1 < (x0.length : Int) →
 inX v1 x0.length ∧
 Z17 (ix x0 v1) fun v2 =>
 (v2 ≠ 0 →
 Φ (([] : List api_Write), v2)) ∧
 (¬ (v2 ≠ 0) →
 inI (v1 + 1) ∧
 rec1 (v1 + 1))) ∧
 (¬ (v1 < (x0.length : Int)) →
 LoopW (Z27 x0 Φ) (0, ([] : List (coalesce_place × Sec))))
def Z29 (x0 : List api_Write) (Φ : List api_Write × Int → Prop) : Prop :=
 LoopW (Z28 x0 Φ) 0
def Z30 (v1 : api_Write) (v2 : List Sec) (rec1 : (List (Int × api_Write × Unit) × List Sec) → Prop) (v3 : Int × api_Write × Unit) (r4 : List (Int × api_Write × Unit)) (_ : api_Write → Prop) : (Int × List Sec) → ((Int × List Sec) → Prop) → Prop
 | (v6, v7), rec3 =>
 (v6 < (v2.length : Int) →
 inI (v1.Start + v6) ∧
 inI ((v1.Start + v6) - v3.2.1.Start) ∧
 inI ((v3.2.1.Data.length : Int) - 1) ∧
 cycle_in_W ((v1.Start + v6) - v3.2.1.Start) 0 ((v3.2.1.Data.length : Int) - 1) fun v8 =>
 (v8 = true →
 inX ((v1.Start + v6) - v3.2.1.Start) v3.2.1.Data.length ∧
 inX v6 v7.length ∧
 inI (v6 + 1) ∧
 rec3 ((v6 + 1), (put v7 v6 (ix v3.2.1.Data ((v1.Start + v6) - v3.2.1.Start))))) ∧
 (¬ (v8 = true) →
 inI (v6 + 1) ∧
 rec3 ((v6 + 1), v7))) ∧
 (¬ (v6 < (v2.length : Int)) →
 rec1 (r4, v7))
def Z31 (v1 : api_Write) (v2 : List Sec) (rec1 : (List (Int × api_Write × Unit) × List Sec) → Prop) (v3 : Int × api_Write × Unit) (r4 : List (Int × api_Write × Unit)) (Φ : api_Write → Prop) : Bool → Prop
 | v5 =>
 (v5 = true →
 rec1 (r4, v2)) ∧
 (¬ (v5 = true) →
 LoopW (Z30 v1 v2 rec1 v3 r4 Φ) (0, v2))
def Z32 (x1 : Int) (v1 : api_Write) (Φ : api_Write → Prop) : (List (Int × api_Write × Unit) × List Sec) → ((List (Int × api_Write × Unit) × List Sec) → Prop) → Prop
 | (lst, v2), rec1 =>
 match lst with
 | [] =>
 Φ (api_Write.mk v1.Volume v1.Start v2)
 | v3 :: r4 =>
 Join (Z31 v1 v2 rec1 v3 r4 Φ) fun J2 =>
 (v3.1 < x1 →
 J2 true) ∧
 (¬ (v3.1 < x1) →
 J2 (decide (v3.2.1.Volume ≠ v1.Volume)))
def Z33 (x0 : cycle_division) (x1 : Int) (x2 : api_Write) (Φ : api_Write → Prop) : Prop :=
 Z11 x2 fun v1 =>
 ∃ l9 : List (Int × api_Write × Unit), cycle_division_writes_1_I x0 true l9 ∧
 LoopW (Z32 x1 v1 Φ) (l9, v1.Data)
def Z34 (x0 : api_Capture) (x1 : Int) (v12 : List Bool) (v18 : List api_Write × Int) (v19 : List Int × Unit) (v20 : List Int × Unit) (v21 : List Int × Unit) (Φ : api_Capture × api_Cycle × Int → Prop) : (List (Int × api_Write × Unit) × (List Int × List api_Write)) → ((List (Int × api_Write × Unit) × (List Int × List api_Write)) → Prop) → Prop
 | (lst, v22, v23), rec6 =>
 match lst with
 | [] =>
 Φ ((api_Capture.mk (x0.Number + 1) v20.1 v21.1 v22 v23), (api_Cycle.mk x0.Number (x0.Number + 1) x1 v19.1 v18.1), 0)
 | v24 :: r25 =>
 inX v24.1 x0.Nodes.length ∧
 lenOk (v22 ++ ([(ix x0.Nodes v24.1)] : List Int)).length 8 ∧
 ∃ v26 : api_Write × Unit, Z33 (cycle_division.mk x0 v12) v24.1 v24.2.1 (fun z => (z, ()) = v26) ∧
 lenOk (v23 ++ ([v26.1] : List api_Write)).length 40 ∧
 rec6 (r25, ((v22 ++ ([(ix x0.Nodes v24.1)] : List Int)), (v23 ++ ([v26.1] : List api_Write))))
def Z35 (x0 : api_Capture) (x1 : Int) (x2 : List Int) (v12 : List Bool) (Φ : api_Capture × api_Cycle × Int → Prop) : (List (Int × api_Write × Unit) × List api_Write) → ((List (Int × api_Write × Unit) × List api_Write) → Prop) → Prop
 | (lst, v15), rec5 =>
 match lst with
 | [] =>
 Z29 v15 fun v18 =>
 (¬ (v18.2 = 0) →
 Φ ((api_Capture.mk 0 ([] : List Int) ([] : List Int) ([] : List Int) ([] : List api_Write)), (api_Cycle.mk 0 0 0 ([] : List Int) ([] : List api_Write)), v18.2)) ∧
 (¬ (¬ (v18.2 = 0)) →
 inI (x0.Number + 1) ∧
 ∃ v19 : List Int × Unit, Z3 x2 (fun z => (z, ()) = v19) ∧
 inI (x0.Number + 1) ∧
 ∃ v20 : List Int × Unit, Z3 x0.Sizes (fun z => (z, ()) = v20) ∧
 ∃ v21 : List Int × Unit, Z3 x2 (fun z => (z, ()) = v21) ∧
 ∃ l27 : List (Int × api_Write × Unit), cycle_division_writes_1_I (cycle_division.mk x0 v12) false l27 ∧
 LoopW (Z34 x0 x1 v12 v18 v19 v20 v21 Φ) (l27, (([] : List Int), ([] : List api_Write))))
 | v16 :: r17 =>
 lenOk (v15 ++ ([v16.2.1] : List api_Write)).length 40 ∧
 rec5 (r17, (v15 ++ ([v16.2.1] : List api_Write)))
def Z36 (x0 : api_Capture) (x1 : Int) (v12 : List Bool) (v32 : List api_Write × Int) (v33 : List Int × Unit) (v34 : List Int × Unit) (v35 : List Int × Unit) (Φ : api_Capture × api_Cycle × Int → Prop) : (List (Int × api_Write × Unit) × (List Int × List api_Write)) → ((List (Int × api_Write × Unit) × (List Int × List api_Write)) → Prop) → Prop
 | (lst, v36, v37), rec8 =>
 match lst with
 | [] =>
 Φ ((api_Capture.mk (x0.Number + 1) v34.1 v35.1 v36 v37), (api_Cycle.mk x0.Number (x0.Number + 1) x1 v33.1 v32.1), 0)
 | v38 :: r39 =>
 inX v38.1 x0.Nodes.length ∧
 lenOk (v36 ++ ([(ix x0.Nodes v38.1)] : List Int)).length 8 ∧
 ∃ v40 : api_Write × Unit, Z33 (cycle_division.mk x0 v12) v38.1 v38.2.1 (fun z => (z, ()) = v40) ∧
 lenOk (v37 ++ ([v40.1] : List api_Write)).length 40 ∧
 rec8 (r39, ((v36 ++ ([(ix x0.Nodes v38.1)] : List Int)), (v37 ++ ([v40.1] : List api_Write))))
def Z37 (x0 : api_Capture) (x1 : Int) (x2 : List Int) (v12 : List Bool) (Φ : api_Capture × api_Cycle × Int → Prop) : (List (Int × api_Write × Unit) × List api_Write) → ((List (Int × api_Write × Unit) × List api_Write) → Prop) → Prop
 | (lst, v29), rec7 =>
 match lst with
 | [] =>
 Z29 v29 fun v32 =>
 (¬ (v32.2 = 0) →
 Φ ((api_Capture.mk 0 ([] : List Int) ([] : List Int) ([] : List Int) ([] : List api_Write)), (api_Cycle.mk 0 0 0 ([] : List Int) ([] : List api_Write)), v32.2)) ∧
 (¬ (¬ (v32.2 = 0)) →
 inI (x0.Number + 1) ∧
 ∃ v33 : List Int × Unit, Z3 x2 (fun z => (z, ()) = v33) ∧
 inI (x0.Number + 1) ∧
 ∃ v34 : List Int × Unit, Z3 x0.Sizes (fun z => (z, ()) = v34) ∧
 ∃ v35 : List Int × Unit, Z3 x2 (fun z => (z, ()) = v35) ∧
 ∃ l41 : List (Int × api_Write × Unit), cycle_division_writes_1_I (cycle_division.mk x0 v12) false l41 ∧
 LoopW (Z36 x0 x1 v12 v32 v33 v34 v35 Φ) (l41, (([] : List Int), ([] : List api_Write))))
 | v30 :: r31 =>
 lenOk (v29 ++ ([v30.2.1] : List api_Write)).length 40 ∧
 rec7 (r31, (v29 ++ ([v30.2.1] : List api_Write)))
def Z38 (x0 : api_Capture) (x1 : Int) (x2 : List Int) (v11 : List Int) (v12 : List Bool) (Φ : api_Capture × api_Cycle × Int → Prop) : (Int) → ((Int) → Prop) → Prop
 | v13, rec4 =>
 (v13 < (v11.length : Int) →
 inX v13 v11.length ∧
 Z14 (ix v11 v13) fun v14 =>
 (v14 = true →
 (¬ (¬ (0 ≤ v13)) →
 Φ ((api_Capture.mk 0 ([] : List Int) ([] : List Int) ([] : List Int) ([] : List api_Write)), (api_Cycle.mk 0 0 0 ([] : List Int) ([] : List api_Write)), 2)) ∧
 (¬ (¬ (¬ (0 ≤ v13))) →
 ∃ l28 : List (Int × api_Write × Unit), cycle_division_writes_1_I (cycle_division.mk x0 v12) true l28 ∧
 LoopW (Z35 x0 x1 x2 v12 Φ) (l28, ([] : List api_Write)))) ∧
 (¬ (v14 = true) →
 inI (v13 + 1) ∧
 rec4 (v13 + 1))) ∧
 (¬ (v13 < (v11.length : Int)) →
 (¬ (¬ (0 ≤ ((-1) : Int))) →
 Φ ((api_Capture.mk 0 ([] : List Int) ([] : List Int) ([] : List Int) ([] : List api_Write)), (api_Cycle.mk 0 0 0 ([] : List Int) ([] : List api_Write)), 2)) ∧
 (¬ (¬ (¬ (0 ≤ ((-1) : Int)))) →
 ∃ l42 : List (Int × api_Write × Unit), cycle_division_writes_1_I (cycle_division.mk x0 v12) true l42 ∧
 LoopW (Z37 x0 x1 x2 v12 Φ) (l42, ([] : List api_Write))))
def Z39 (x0 : api_Capture) (x1 : Int) (x2 : List Int) (Φ : api_Capture × api_Cycle × Int → Prop) : (Int × List Int × List Bool) → ((Int × List Int × List Bool) → Prop) → Prop
 | (v10, v11, v12), rec3 =>
 (v10 < (x0.Nodes.length : Int) →
 inX v10 x0.Nodes.length ∧
 inX (ix x0.Nodes v10) v11.length ∧
 lenOk (v12 ++ ([decide (0 < (ix v11 (ix x0.Nodes v10)))] : List Bool)).length 1 ∧
 inX (ix x0.Nodes v10) v11.length ∧
 inI ((ix v11 (ix x0.Nodes v10)) - 1) ∧
 inX (ix x0.Nodes v10) v11.length ∧
 inI (v10 + 1) ∧
 rec3 ((v10 + 1), (put v11 (ix x0.Nodes v10) (if ((ix v11 (ix x0.Nodes v10)) - 1) < 0 then 0 else ((ix v11 (ix x0.Nodes v10)) - 1))), (v12 ++ ([decide (0 < (ix v11 (ix x0.Nodes v10)))] : List Bool)))) ∧
 (¬ (v10 < (x0.Nodes.length : Int)) →
 LoopW (Z38 x0 x1 x2 v11 v12 Φ) 0)
def Z40 (x0 : api_Capture) (x1 : Int) (x2 : List Int) (Φ : api_Capture × api_Cycle × Int → Prop) : (Int × List Int) → ((Int × List Int) → Prop) → Prop
 | (v8, v9), rec2 =>
 (v8 < (x2.length : Int) →
 inX v8 x2.length ∧
 inX v8 x0.Positions.length ∧
 inI ((ix x2 v8) - (ix x0.Positions v8)) ∧
 inX v8 v9.length ∧
 inX v8 (put v9 v8 ((ix x2 v8) - (ix x0.Positions v8))).length ∧
 (¬ (0 ≤ (ix (put v9 v8 ((ix x2 v8) - (ix x0.Positions v8))) v8)) →
 Φ ((api_Capture.mk 0 ([] : List Int) ([] : List Int) ([] : List Int) ([] : List api_Write)), (api_Cycle.mk 0 0 0 ([] : List Int) ([] : List api_Write)), 2)) ∧
 (¬ (¬ (0 ≤ (ix (put v9 v8 ((ix x2 v8) - (ix x0.Positions v8))) v8))) →
 inI (v8 + 1) ∧
 rec2 ((v8 + 1), (put v9 v8 ((ix x2 v8) - (ix x0.Positions v8)))))) ∧
 (¬ (v8 < (x2.length : Int)) →
 LoopW (Z39 x0 x1 x2 Φ) (0, v9, ([] : List Bool)))
def Z41 (x0 : api_Capture) (x1 : Int) (x2 : List Int) (v1 : List (List Sec) × Int) (Φ : api_Capture × api_Cycle × Int → Prop) : (Int) → ((Int) → Prop) → Prop
 | v4, rec1 =>
 (v4 < (x0.Writes.length : Int) →
 inX v4 x0.Writes.length ∧
 inX v4 x0.Nodes.length ∧
 inI ((x0.Positions.length : Int) - 1) ∧
 cycle_in_W (ix x0.Nodes v4) 0 ((x0.Positions.length : Int) - 1) fun v5 =>
 (¬ (v5 = true) →
 Φ ((api_Capture.mk 0 ([] : List Int) ([] : List Int) ([] : List Int) ([] : List api_Write)), (api_Cycle.mk 0 0 0 ([] : List Int) ([] : List api_Write)), 7)) ∧
 (¬ (¬ (v5 = true)) →
 image_Fits_W v1.1 (ix x0.Writes v4) fun v6 =>
 (¬ (v6 = 0) →
 Φ ((api_Capture.mk 0 ([] : List Int) ([] : List Int) ([] : List Int) ([] : List api_Write)), (api_Cycle.mk 0 0 0 ([] : List Int) ([] : List api_Write)), v6)) ∧
 (¬ (¬ (v6 = 0)) →
 inI (v4 + 1) ∧
 rec1 (v4 + 1)))) ∧
 (¬ (v4 < (x0.Writes.length : Int)) →
 cycle_in_W x1 0 1073741824 fun v7 =>
 (¬ (v7 = true) →
 Φ ((api_Capture.mk 0 ([] : List Int) ([] : List Int) ([] : List Int) ([] : List api_Write)), (api_Cycle.mk 0 0 0 ([] : List Int) ([] : List api_Write)), 24)) ∧
 (¬ (¬ (v7 = true)) →
 (¬ ((x2.length : Int) = (x0.Positions.length : Int)) →
 Φ ((api_Capture.mk 0 ([] : List Int) ([] : List Int) ([] : List Int) ([] : List api_Write)), (api_Cycle.mk 0 0 0 ([] : List Int) ([] : List api_Write)), 6)) ∧
 (¬ (¬ ((x2.length : Int) = (x0.Positions.length : Int))) →
 0 ≤ (x2.length : Int) ∧
 lenOk (x2.length : Int).toNat 8 ∧
 LoopW (Z40 x0 x1 x2 Φ) (0, (List.replicate (x2.length : Int).toNat (0 : Int))))))
def cycle_Close_W (x0 : api_Capture) (x1 : Int) (x2 : List Int) (Φ : api_Capture × api_Cycle × Int → Prop) : Prop :=
 image_New_W x0.Sizes fun v1 =>
 (¬ (v1.2 = 0) →
 Φ ((api_Capture.mk 0 ([] : List Int) ([] : List Int) ([] : List Int) ([] : List api_Write)), (api_Cycle.mk 0 0 0 ([] : List Int) ([] : List api_Write)), v1.2)) ∧
 (¬ (¬ (v1.2 = 0)) →
 cycle_in_W x0.Number 0 1073741823 fun v2 =>
 (¬ (v2 = true) →
 Φ ((api_Capture.mk 0 ([] : List Int) ([] : List Int) ([] : List Int) ([] : List api_Write)), (api_Cycle.mk 0 0 0 ([] : List Int) ([] : List api_Write)), 2)) ∧
 (¬ (¬ (v2 = true)) →
 Z7 x0.Positions 1 fun v3 =>
 (¬ (v3 = 0) →
 Φ ((api_Capture.mk 0 ([] : List Int) ([] : List Int) ([] : List Int) ([] : List api_Write)), (api_Cycle.mk 0 0 0 ([] : List Int) ([] : List api_Write)), v3)) ∧
 (¬ (¬ (v3 = 0)) →
 ((x0.Nodes.length : Int) = (x0.Writes.length : Int) →
 (¬ ((x0.Writes.length : Int) ≤ 4096) →
 Φ ((api_Capture.mk 0 ([] : List Int) ([] : List Int) ([] : List Int) ([] : List api_Write)), (api_Cycle.mk 0 0 0 ([] : List Int) ([] : List api_Write)), 6)) ∧
 (¬ (¬ ((x0.Writes.length : Int) ≤ 4096)) →
 LoopW (Z41 x0 x1 x2 v1 Φ) 0)) ∧
 (¬ ((x0.Nodes.length : Int) = (x0.Writes.length : Int)) →
 Φ ((api_Capture.mk 0 ([] : List Int) ([] : List Int) ([] : List Int) ([] : List api_Write)), (api_Cycle.mk 0 0 0 ([] : List Int) ([] : List api_Write)), 6)))))
def Z42 (x0 : List Sec) (x1 : List Sec) (Φ : Bool → Prop) : (Int) → ((Int) → Prop) → Prop
 | v1, rec1 =>
 (v1 < (x0.length : Int) →
 inX v1 x0.length ∧
 inX v1 x1.length ∧
 ((ix x0 v1) ≠ (ix x1 v1) →
 Φ false) ∧
 (¬ ((ix x0 v1) ≠ (ix x1 v1)) →
 inI (v1 + 1) ∧
 rec1 (v1 + 1))) ∧
 (¬ (v1 < (x0.length : Int)) →
 Φ true)
def Z43 (x0 : List Sec) (x1 : List Sec) (Φ : Bool → Prop) : Prop :=
 ((x0.length : Int) ≠ (x1.length : Int) →
 Φ false) ∧
 (¬ ((x0.length : Int) ≠ (x1.length : Int)) →
 LoopW (Z42 x0 x1 Φ) 0)
def Z44 (x0 : List api_Write) (x1 : List api_Write) (Φ : Bool → Prop) : (Int) → ((Int) → Prop) → Prop
 | v1, rec1 =>
 (v1 < (x0.length : Int) →
 inX v1 x0.length ∧
 inX v1 x1.length ∧
 (((ix x0 v1).Volume) ≠ ((ix x1 v1).Volume) →
 Φ false) ∧
 (¬ (((ix x0 v1).Volume) ≠ ((ix x1 v1).Volume)) →
 inX v1 x0.length ∧
 inX v1 x1.length ∧
 (((ix x0 v1).Start) ≠ ((ix x1 v1).Start) →
 Φ false) ∧
 (¬ (((ix x0 v1).Start) ≠ ((ix x1 v1).Start)) →
 inX v1 x0.length ∧
 inX v1 x1.length ∧
 ∃ v2 : Bool × Unit, Z43 ((ix x0 v1).Data) ((ix x1 v1).Data) (fun z => (z, ()) = v2) ∧
 (¬ (v2.1 = true) →
 Φ false) ∧
 (¬ (¬ (v2.1 = true)) →
 inI (v1 + 1) ∧
 rec1 (v1 + 1))))) ∧
 (¬ (v1 < (x0.length : Int)) →
 Φ true)
def Z45 (x0 : List api_Write) (x1 : List api_Write) (Φ : Bool → Prop) : Prop :=
 ((x0.length : Int) ≠ (x1.length : Int) →
 Φ false) ∧
 (¬ ((x0.length : Int) ≠ (x1.length : Int)) →
 LoopW (Z44 x0 x1 Φ) 0)
def ref22_Same_W (x0 : List api_Write) (x1 : List api_Write) (Φ : Bool → Prop) : Prop :=
 Z45 x0 x1 fun v1 =>
 Φ v1
def Z46 (x0 : BitVec 64) (x1 : BitVec 64) (Φ : BitVec 64 × BitVec 64 → Prop) : Prop :=
 Φ (((((x0 >>> ((32#64).toNat : Int).toNat) * (x1 >>> ((32#64).toNat : Int).toNat)) + ((((x0 >>> ((32#64).toNat : Int).toNat) * (x1 &&& (4294967295#64))) + (((x0 &&& (4294967295#64)) * (x1 &&& (4294967295#64))) >>> ((32#64).toNat : Int).toNat)) >>> ((32#64).toNat : Int).toNat)) + ((((((x0 >>> ((32#64).toNat : Int).toNat) * (x1 &&& (4294967295#64))) + (((x0 &&& (4294967295#64)) * (x1 &&& (4294967295#64))) >>> ((32#64).toNat : Int).toNat)) &&& (4294967295#64)) + ((x0 &&& (4294967295#64)) * (x1 >>> ((32#64).toNat : Int).toNat))) >>> ((32#64).toNat : Int).toNat)), (x0 * x1))
def Z47 (x0 : BitVec 64) (x1 : BitVec 64) (Φ : BitVec 64 × BitVec 64 → Prop) : Prop :=
 Z46 x0 x1 fun v1 =>
 Φ (v1.1, v1.2)
def Z48 (Φ : List Int → Prop) : (Int × List Int) → ((Int × List Int) → Prop) → Prop
 | (v3, v4), rec2 =>
 (v3 < (v4.length : Int) →
 inS v3 (v4.length : Int) v4.length ∧
 inS 0 v3 v4.length ∧
 inI (v3 + ((min (sub v4 0 v3).length (v4.length - (v3 : Int).toNat) : Nat) : Int)) ∧
 rec2 ((v3 + ((min (sub v4 0 v3).length (v4.length - (v3 : Int).toNat) : Nat) : Int)), (paste v4 v3 (sub v4 0 v3)))) ∧
 (¬ (v3 < (v4.length : Int)) →
 Φ v4)
def Z49 (x0 : List Int) (v1 : BitVec 64 × BitVec 64) (Φ : List Int → Prop) : Bool → Prop
 | v2 =>
 (v2 = true →
 False) ∧
 (¬ (v2 = true) →
 0 ≤ v1.2.toInt ∧
 lenOk v1.2.toInt.toNat 8 ∧
 LoopW (Z48 Φ) (((min x0.length ((List.replicate v1.2.toInt.toNat (0 : Int)).length - (0 : Int).toNat) : Nat) : Int), (paste (List.replicate v1.2.toInt.toNat (0 : Int)) 0 x0)))
def Z50 (x0 : List Int) (x1 : Int) (Φ : List Int → Prop) : Prop :=
 (x1 < 0 →
 False) ∧
 (¬ (x1 < 0) →
 Z47 (BitVec.ofInt 64 (x0.length : Int)) (BitVec.ofInt 64 x1) fun v1 =>
 Join (Z49 x0 v1 Φ) fun J1 =>
 ((0#64) < v1.1 →
 J1 true) ∧
 (¬ ((0#64) < v1.1) →
 J1 (decide ((9223372036854775807#64) < v1.2))))
def Z51 (Φ : List Int → Prop) : Prop :=
 Z50 ([4096] : List Int) 8 fun v1 =>
 Φ v1
def Z52 (x0 : List api_Write) (v1 : List (List Sec) × Int) (Φ : Int → Prop) : (Int) → ((Int) → Prop) → Prop
 | v2, rec1 =>
 (v2 < (x0.length : Int) →
 inX v2 x0.length ∧
 image_Fits_W v1.1 (ix x0 v2) fun v3 =>
 (v3 ≠ 0 →
 Φ v3) ∧
 (¬ (v3 ≠ 0) →
 (v2 = 0 →
 inI (v2 + 1) ∧
 rec1 (v2 + 1)) ∧
 (¬ (v2 = 0) →
 inI (v2 - 1) ∧
 inX (v2 - 1) x0.length ∧
 (((ix x0 v2).Volume) < ((ix x0 (v2 - 1)).Volume) →
 Φ 3) ∧
 (¬ (((ix x0 v2).Volume) < ((ix x0 (v2 - 1)).Volume)) →
 (((ix x0 v2).Volume) = ((ix x0 (v2 - 1)).Volume) →
 inI (((ix x0 (v2 - 1)).Start) + (((ix x0 (v2 - 1)).Data).length : Int)) ∧
 (((ix x0 v2).Start) ≤ (((ix x0 (v2 - 1)).Start) + (((ix x0 (v2 - 1)).Data).length : Int)) →
 Φ 3) ∧
 (¬ (((ix x0 v2).Start) ≤ (((ix x0 (v2 - 1)).Start) + (((ix x0 (v2 - 1)).Data).length : Int))) →
 inI (v2 + 1) ∧
 rec1 (v2 + 1))) ∧
 (¬ (((ix x0 v2).Volume) = ((ix x0 (v2 - 1)).Volume)) →
 inI (v2 + 1) ∧
 rec1 (v2 + 1)))))) ∧
 (¬ (v2 < (x0.length : Int)) →
 Φ 0)
def Z53 (x0 : List api_Write) (x1 : List Int) (Φ : Int → Prop) : Prop :=
 image_New_W x1 fun v1 =>
 (v1.2 ≠ 0 →
 Φ v1.2) ∧
 (¬ (v1.2 ≠ 0) →
 LoopW (Z52 x0 v1 Φ) 0)
def Z54 (x0 : api_Cycle) (x1 : List Int) (Φ : Int → Prop) : Bool → Prop
 | v2 =>
 (v2 = true →
 Φ 2) ∧
 (¬ (v2 = true) →
 cycle_in_W x0.Time 0 1073741824 fun v3 =>
 (¬ (v3 = true) →
 Φ 24) ∧
 (¬ (¬ (v3 = true)) →
 Z7 x0.Positions 0 fun v4 =>
 (v4 ≠ 0 →
 Φ v4) ∧
 (¬ (v4 ≠ 0) →
 Z53 x0.Writes x1 fun v5 =>
 Φ v5)))
def cycle_Check_W (x0 : api_Cycle) (x1 : List Int) (Φ : Int → Prop) : Prop :=
 image_New_W x1 fun v1 =>
 (v1.2 ≠ 0 →
 Φ v1.2) ∧
 (¬ (v1.2 ≠ 0) →
 Join (Z54 x0 x1 Φ) fun J1 =>
 (x0.Base < 0 →
 J1 true) ∧
 (¬ (x0.Base < 0) →
 (x0.Number ≤ x0.Base →
 J1 true) ∧
 (¬ (x0.Number ≤ x0.Base) →
 J1 (decide (1073741824 < x0.Number)))))
def Z55 (x0 : List (List api_Write)) (Φ : List api_Write → Prop) : (Int × List api_Write) → ((Int × List api_Write) → Prop) → Prop
 | (v4, v5), rec3 =>
 (v4 < (x0.length : Int) →
 inX v4 x0.length ∧
 lenOk (v5 ++ (ix x0 v4)).length 40 ∧
 inI (v4 + 1) ∧
 rec3 ((v4 + 1), (v5 ++ (ix x0 v4)))) ∧
 (¬ (v4 < (x0.length : Int)) →
 Φ v5)
def Z56 (x0 : List (List api_Write)) (Φ : List api_Write → Prop) : List api_Write → Prop
 | v3 =>
 LoopW (Z55 x0 Φ) (0, v3)
def Z57 (x0 : List (List api_Write)) (Φ : List api_Write → Prop) : (Int × Int) → ((Int × Int) → Prop) → Prop
 | (v1, v2), rec1 =>
 (v2 < (x0.length : Int) →
 inX v2 x0.length ∧
 inI (v1 + ((ix x0 v2).length : Int)) ∧
 ((v1 + ((ix x0 v2).length : Int)) < 0 →
 False) ∧
 (¬ ((v1 + ((ix x0 v2).length : Int)) < 0) →
 inI (v2 + 1) ∧
 rec1 ((v1 + ((ix x0 v2).length : Int)), (v2 + 1)))) ∧
 (¬ (v2 < (x0.length : Int)) →
 Join (Z56 x0 Φ) fun J2 =>
 (v1 < 0 →
 False) ∧
 (¬ (v1 < 0) →
 inI ((0 : Int) - 0) ∧
 inI (v1 - ((0 : Int) - 0)) ∧
 (0 < (v1 - ((0 : Int) - 0)) →
 (0 : Int) = 0 ∧
 (0 : Int) < (v1 - ((0 : Int) - 0)) ∧
 lenOk (v1 - ((0 : Int) - 0)).toNat 40 ∧
 inS 0 0 (List.replicate (v1 - ((0 : Int) - 0)).toNat ((api_Write.mk 0 0 ([] : List Sec)) : api_Write)).length ∧
 J2 (sub (List.replicate (v1 - ((0 : Int) - 0)).toNat ((api_Write.mk 0 0 ([] : List Sec)) : api_Write)) 0 0)) ∧
 (¬ (0 < (v1 - ((0 : Int) - 0))) →
 J2 ([] : List api_Write))))
def Z58 (x0 : List (List api_Write)) (Φ : List api_Write → Prop) : Prop :=
 LoopW (Z57 x0 Φ) (0, 0)
def Z59 (v1 : Int) (rec1 : (Int) → Prop) (Φ : List api_Write × Int → Prop) : Int → Prop
 | v2 =>
 (v2 ≠ 0 →
 Φ (([] : List api_Write), v2)) ∧
 (¬ (v2 ≠ 0) →
 inI (v1 + 1) ∧
 rec1 (v1 + 1))
def Z60 (x0 : List api_Write) (x1 : List api_Write) (v1 : Int) (rec1 : (Int) → Prop) (Φ : List api_Write × Int → Prop) : (Int) → ((Int) → Prop) → Prop
 | v3, rec3 =>
 (v3 < ((ix ([x0, x1] : List (List api_Write)) v1).length : Int) →
 inX v3 (ix ([x0, x1] : List (List api_Write)) v1).length ∧
 Z17 (ix (ix ([x0, x1] : List (List api_Write)) v1) v3) fun v4 =>
 (v4 ≠ 0 →
 Z59 v1 rec1 Φ v4) ∧
 (¬ (v4 ≠ 0) →
 (v3 = 0 →
 inI (v3 + 1) ∧
 rec3 (v3 + 1)) ∧
 (¬ (v3 = 0) →
 inI (v3 - 1) ∧
 inX (v3 - 1) (ix ([x0, x1] : List (List api_Write)) v1).length ∧
 (((ix (ix ([x0, x1] : List (List api_Write)) v1) v3).Volume) < ((ix (ix ([x0, x1] : List (List api_Write)) v1) (v3 - 1)).Volume) →
 Z59 v1 rec1 Φ 3) ∧
 (¬ (((ix (ix ([x0, x1] : List (List api_Write)) v1) v3).Volume) < ((ix (ix ([x0, x1] : List (List api_Write)) v1) (v3 - 1)).Volume)) →
 (((ix (ix ([x0, x1] : List (List api_Write)) v1) v3).Volume) = ((ix (ix ([x0, x1] : List (List api_Write)) v1) (v3 - 1)).Volume) →
 inI (((ix (ix ([x0, x1] : List (List api_Write)) v1) (v3 - 1)).Start) + (((ix (ix ([x0, x1] : List (List api_Write)) v1) (v3 - 1)).Data).length : Int)) ∧
 (((ix (ix ([x0, x1] : List (List api_Write)) v1) v3).Start) ≤ (((ix (ix ([x0, x1] : List (List api_Write)) v1) (v3 - 1)).Start) + (((ix (ix ([x0, x1] : List (List api_Write)) v1) (v3 - 1)).Data).length : Int)) →
 Z59 v1 rec1 Φ 3) ∧
 (¬ (((ix (ix ([x0, x1] : List (List api_Write)) v1) v3).Start) ≤ (((ix (ix ([x0, x1] : List (List api_Write)) v1) (v3 - 1)).Start) + (((ix (ix ([x0, x1] : List (List api_Write)) v1) (v3 - 1)).Data).length : Int))) →
 inI (v3 + 1) ∧
 rec3 (v3 + 1))) ∧
 (¬ (((ix (ix ([x0, x1] : List (List api_Write)) v1) v3).Volume) = ((ix (ix ([x0, x1] : List (List api_Write)) v1) (v3 - 1)).Volume)) →
 inI (v3 + 1) ∧
 rec3 (v3 + 1)))))) ∧
 (¬ (v3 < ((ix ([x0, x1] : List (List api_Write)) v1).length : Int)) →
 Z59 v1 rec1 Φ 0)
def Z61 (v5 : List api_Write) (v6 : Int) (rec4 : (Int × (List (coalesce_place × Sec))) → Prop) (_ : List api_Write × Int → Prop) : (Int × Int × Int × (List (coalesce_place × Sec))) → ((Int × Int × Int × (List (coalesce_place × Sec))) → Prop) → Prop
 | (v8, v9, v10, v11), rec5 =>
 (v8 < (((ix v5 v6).Data).length : Int) →
 inX v8 ((ix v5 v6).Data).length ∧
 Z18 (coalesce_place.mk v9 v10) fun v12 =>
 inI (v8 + 1) ∧
 rec5 ((v8 + 1), v12.volume, v12.sector, (mput v11 (coalesce_place.mk v9 v10) (ix ((ix v5 v6).Data) v8)))) ∧
 (¬ (v8 < (((ix v5 v6).Data).length : Int)) →
 inI (v6 + 1) ∧
 rec4 ((v6 + 1), v11))
def Z62 (v7 : List (coalesce_place × Sec)) (v16 : List coalesce_place) (v17 : Int) (rec7 : (Int × Int × Int × List api_Write × List Sec) → Prop) (_ : List api_Write × Int → Prop) : List api_Write × List Sec → Prop
 | (v22, v23) =>
 inI ((v22.length : Int) - 1) ∧
 inX ((v22.length : Int) - 1) v22.length ∧
 ((v22.length : Int) - 1) + 1 = (v22.length : Int) ∧
 lenOk (v23 ++ ([(mget v7 (ix v16 v17) sec0)] : List Sec)).length 8 ∧
 Z18 (ix v16 v17) fun v24 =>
 inI (v17 + 1) ∧
 rec7 ((v17 + 1), v24.volume, v24.sector, v22, (v23 ++ ([(mget v7 (ix v16 v17) sec0)] : List Sec)))
def Z63 (v7 : List (coalesce_place × Sec)) (v16 : List coalesce_place) (Φ : List api_Write × Int → Prop) : (Int × Int × Int × List api_Write × List Sec) → ((Int × Int × Int × List api_Write × List Sec) → Prop) → Prop
 | (v17, v18, v19, v20, v21), rec7 =>
 (v17 < (v16.length : Int) →
 inX v17 v16.length ∧
 Join (Z62 v7 v16 v17 rec7 Φ) fun J8 =>
 ((ix v16 v17) ≠ (coalesce_place.mk v18 v19) →
 lenOk ((put v20 ((v20.length : Int) - 1) (api_Write.mk ((ix v20 ((v20.length : Int) - 1)).Volume) ((ix v20 ((v20.length : Int) - 1)).Start) v21)) ++ ([(api_Write.mk ((ix v16 v17).volume) ((ix v16 v17).sector) ([] : List Sec))] : List api_Write)).length 40 ∧
 J8 (((put v20 ((v20.length : Int) - 1) (api_Write.mk ((ix v20 ((v20.length : Int) - 1)).Volume) ((ix v20 ((v20.length : Int) - 1)).Start) v21)) ++ ([(api_Write.mk ((ix v16 v17).volume) ((ix v16 v17).sector) ([] : List Sec))] : List api_Write)), ([] : List Sec))) ∧
 (¬ ((ix v16 v17) ≠ (coalesce_place.mk v18 v19)) →
 J8 (v20, v21))) ∧
 (¬ (v17 < (v16.length : Int)) →
 Φ ((put v20 ((v20.length : Int) - 1) (api_Write.mk ((ix v20 ((v20.length : Int) - 1)).Volume) ((ix v20 ((v20.length : Int) - 1)).Start) v21)), 0))
def Z64 (v7 : List (coalesce_place × Sec)) (Φ : List api_Write × Int → Prop) : (((Nat × List Nat)) × List coalesce_place) → ((((Nat × List Nat)) × List coalesce_place) → Prop) → Prop
 | (v13, v14), rec6 =>
 v7.length = v13.1 ∧ ((∀ i, i < v7.length → i ∈ v13.2) →
 Z22 v14 fun v16 =>
 LoopW (Z63 v7 v16 Φ) (0, (-1), 0, ([] : List api_Write), ([] : List Sec))) ∧
 ∀ i15, i15 < v7.length → i15 ∉ v13.2 →
 v7.length = v13.1 ∧
 i15 < v7.length ∧
 lenOk (v14 ++ ([((ent v7 i15).1)] : List coalesce_place)).length 16 ∧
 rec6 ((v13.1, (i15 :: v13.2)), (v14 ++ ([((ent v7 i15).1)] : List coalesce_place)))
def Z65 (v5 : List api_Write) (Φ : List api_Write × Int → Prop) : (Int × (List (coalesce_place × Sec))) → ((Int × (List (coalesce_place × Sec))) → Prop) → Prop
 | (v6, v7), rec4 =>
 (v6 < (v5.length : Int) →
 inX v6 v5.length ∧
 LoopW (Z61 v5 v6 rec4 Φ) (0, (ix v5 v6).Volume, (ix v5 v6).Start, v7)) ∧
 (¬ (v6 < (v5.length : Int)) →
 0 ≤ (v7.length : Int) ∧
 lenOk (v7.length : Int).toNat 16 ∧
 LoopW (Z64 v7 Φ) ((v7.length, []), ([] : List coalesce_place)))
def Z66 (x0 : List api_Write) (x1 : List api_Write) (Φ : List api_Write × Int → Prop) : (Int) → ((Int) → Prop) → Prop
 | v1, rec1 =>
 (v1 < (([x0, x1] : List (List api_Write)).length : Int) →
 inX v1 ([x0, x1] : List (List api_Write)).length ∧
 LoopW (Z60 x0 x1 v1 rec1 Φ) 0) ∧
 (¬ (v1 < (([x0, x1] : List (List api_Write)).length : Int)) →
 Z58 ([x0, x1] : List (List api_Write)) fun v5 =>
 LoopW (Z65 v5 Φ) (0, ([] : List (coalesce_place × Sec))))
def Z67 (x0 : List api_Write) (x1 : List api_Write) (Φ : List api_Write × Int → Prop) : Prop :=
 LoopW (Z66 x0 x1 Φ) 0
def Z68 (x0 : api_Cycle) (x1 : api_Cycle) (Φ : api_Cycle × Int → Prop) : (Int) → ((Int) → Prop) → Prop
 | v4, rec2 =>
 (v4 < (x0.Positions.length : Int) →
 inX v4 x0.Positions.length ∧
 inX v4 x1.Positions.length ∧
 ((ix x1.Positions v4) < (ix x0.Positions v4) →
 Φ ((api_Cycle.mk 0 0 0 ([] : List Int) ([] : List api_Write)), 2)) ∧
 (¬ ((ix x1.Positions v4) < (ix x0.Positions v4)) →
 inI (v4 + 1) ∧
 rec2 (v4 + 1))) ∧
 (¬ (v4 < (x0.Positions.length : Int)) →
 Z67 x0.Writes x1.Writes fun v5 =>
 (v5.2 ≠ 0 →
 Φ ((api_Cycle.mk 0 0 0 ([] : List Int) ([] : List api_Write)), v5.2)) ∧
 (¬ (v5.2 ≠ 0) →
 ∃ v6 : List Int × Unit, Z3 x1.Positions (fun z => (z, ()) = v6) ∧
 Φ ((api_Cycle.mk x0.Base x1.Number x1.Time v6.1 v5.1), 0)))
def Z69 (x0 : api_Cycle) (x1 : api_Cycle) (Φ : api_Cycle × Int → Prop) : (Int) → ((Int) → Prop) → Prop
 | v1, rec1 =>
 (v1 < (([x0, x1] : List api_Cycle).length : Int) →
 inX v1 ([x0, x1] : List api_Cycle).length ∧
 ∃ v2 : List Int × Unit, Z51 (fun z => (z, ()) = v2) ∧
 ∃ v3 : Int × Unit, cycle_Check_W (ix ([x0, x1] : List api_Cycle) v1) v2.1 (fun z => (z, ()) = v3) ∧
 (v3.1 ≠ 0 →
 Φ ((api_Cycle.mk 0 0 0 ([] : List Int) ([] : List api_Write)), v3.1)) ∧
 (¬ (v3.1 ≠ 0) →
 inI (v1 + 1) ∧
 rec1 (v1 + 1))) ∧
 (¬ (v1 < (([x0, x1] : List api_Cycle).length : Int)) →
 (x1.Base ≠ x0.Number →
 Φ ((api_Cycle.mk 0 0 0 ([] : List Int) ([] : List api_Write)), 15)) ∧
 (¬ (x1.Base ≠ x0.Number) →
 ((x0.Positions.length : Int) ≠ (x1.Positions.length : Int) →
 Φ ((api_Cycle.mk 0 0 0 ([] : List Int) ([] : List api_Write)), 6)) ∧
 (¬ ((x0.Positions.length : Int) ≠ (x1.Positions.length : Int)) →
 (x1.Time < x0.Time →
 Φ ((api_Cycle.mk 0 0 0 ([] : List Int) ([] : List api_Write)), 24)) ∧
 (¬ (x1.Time < x0.Time) →
 LoopW (Z68 x0 x1 Φ) 0))))
def Z70 (x0 : api_Cycle) (x1 : api_Cycle) (Φ : api_Cycle × Int → Prop) : Prop :=
 LoopW (Z69 x0 x1 Φ) 0
def Z71 (v8 : api_Capture × api_Cycle × Int) (Φ : Bool → Prop) : Unit → Prop
 | _ =>
 cycle_Close_W v8.1 6 ([2, 1] : List Int) fun v9 =>
 Z70 v8.2.1 v9.2.1 fun v10 =>
 law23_write_W 0 1 ([98#8, 99#8] : List (BitVec 8)) fun v11 =>
 (v9.2.2 = 0 →
 (v10.2 = 0 →
 ref22_Same_W v9.2.1.Writes ([v11] : List api_Write) fun v12 =>
 (v12 = true →
 (v10.1.Base = 0 →
 (v10.1.Number = 2 →
 ref22_Same_W v10.1.Writes ([v11] : List api_Write) fun v13 =>
 Φ v13) ∧
 (¬ (v10.1.Number = 2) →
 Φ false)) ∧
 (¬ (v10.1.Base = 0) →
 Φ false)) ∧
 (¬ (v12 = true) →
 Φ false)) ∧
 (¬ (v10.2 = 0) →
 Φ false)) ∧
 (¬ (v9.2.2 = 0) →
 Φ false)
def law23_awake_W (Φ : Bool → Prop) : Prop :=
 cycle_Open_W ([4] : List Int) 2 0 fun v1 =>
 ∃ v2 : api_Write × Unit, law23_write_W 0 1 ([97#8] : List (BitVec 8)) (fun z => (z, ()) = v2) ∧
 ∃ v3 : api_Capture × Int × Unit, cycle_Add_W v1.1 0 v2.1 (fun z => (z.1, z.2, ()) = v3) ∧
 ∃ v4 : api_Write × Unit, law23_write_W 0 1 ([98#8] : List (BitVec 8)) (fun z => (z, ()) = v4) ∧
 ∃ v5 : api_Capture × Int × Unit, cycle_Add_W v3.1 1 v4.1 (fun z => (z.1, z.2, ()) = v5) ∧
 ∃ v6 : api_Write × Unit, law23_write_W 0 2 ([99#8] : List (BitVec 8)) (fun z => (z, ()) = v6) ∧
 ∃ v7 : api_Capture × Int × Unit, cycle_Add_W v5.1 0 v6.1 (fun z => (z.1, z.2, ()) = v7) ∧
 cycle_Close_W v7.1 5 ([0, 1] : List Int) fun v8 =>
 Join (Z71 v8 Φ) fun J1 =>
 inI (v1.2 + v3.2.1) ∧
 inI ((v1.2 + v3.2.1) + v5.2.1) ∧
 inI (((v1.2 + v3.2.1) + v5.2.1) + v7.2.1) ∧
 inI ((((v1.2 + v3.2.1) + v5.2.1) + v7.2.1) + v8.2.2) ∧
 (((((v1.2 + v3.2.1) + v5.2.1) + v7.2.1) + v8.2.2) ≠ 0 →
 Φ false) ∧
 (¬ (((((v1.2 + v3.2.1) + v5.2.1) + v7.2.1) + v8.2.2) ≠ 0) →
 (v8.2.1.Base ≠ 0 →
 Φ false) ∧
 (¬ (v8.2.1.Base ≠ 0) →
 (v8.2.1.Number ≠ 1 →
 Φ false) ∧
 (¬ (v8.2.1.Number ≠ 1) →
 ∃ v14 : api_Write × Unit, law23_write_W 0 1 ([98#8] : List (BitVec 8)) (fun z => (z, ()) = v14) ∧
 ∃ v15 : Bool × Unit, ref22_Same_W v8.2.1.Writes ([v14.1] : List api_Write) (fun z => (z, ()) = v15) ∧
 (¬ (v15.1 = true) →
 Φ false) ∧
 (¬ (¬ (v15.1 = true)) →
 ∃ v16 : api_Write × Unit, law23_write_W 0 1 ([98#8] : List (BitVec 8)) (fun z => (z, ()) = v16) ∧
 ∃ v17 : api_Write × Unit, law23_write_W 0 2 ([99#8] : List (BitVec 8)) (fun z => (z, ()) = v17) ∧
 ∃ v18 : Bool × Unit, ref22_Same_W v8.1.Writes ([v16.1, v17.1] : List api_Write) (fun z => (z, ()) = v18) ∧
 (¬ (v18.1 = true) →
 Φ false) ∧
 (¬ (¬ (v18.1 = true)) →
 J1 ())))))
def ref22_Few_J2 (x0 : List api_Write) (v1 : Int) (rec1 : (Int) → Prop) (Φ : Bool → Prop) : Bool → Prop
 | v2 =>
 (v2 = true →
 inX v1 x0.length ∧
 (24 < (((ix x0 v1).Data).length : Int) →
 Φ false) ∧
 (¬ (24 < (((ix x0 v1).Data).length : Int)) →
 inI (v1 + 1) ∧
 rec1 (v1 + 1))) ∧
 (¬ (v2 = true) →
 Φ (decide ((x0.length : Int) ≤ 40)))
def ref22_Few_L1 (x0 : List api_Write) (Φ : Bool → Prop) : (Int) → ((Int) → Prop) → Prop
 | v1, rec1 =>
 Join (ref22_Few_J2 x0 v1 rec1 Φ) fun J2 =>
 (v1 < (x0.length : Int) →
 J2 (decide (v1 < 60))) ∧
 (¬ (v1 < (x0.length : Int)) →
 J2 false)
def ref22_Few_W (x0 : List api_Write) (Φ : Bool → Prop) : Prop :=
 LoopW (ref22_Few_L1 x0 Φ) 0
def ref23_Few_W (x0 : api_Cycle) (Φ : Bool → Prop) : Prop :=
 ((x0.Positions.length : Int) ≤ 40 →
 ref22_Few_W x0.Writes fun v1 =>
 Φ v1) ∧
 (¬ ((x0.Positions.length : Int) ≤ 40) →
 Φ false)
def ref07_Few_L1 (x0 : List (List Sec)) (Φ : Bool → Prop) : (Int) → ((Int) → Prop) → Prop
 | v1, rec1 =>
 (v1 < (x0.length : Int) →
 inX v1 x0.length ∧
 (24 < ((ix x0 v1).length : Int) →
 Φ false) ∧
 (¬ (24 < ((ix x0 v1).length : Int)) →
 inI (v1 + 1) ∧
 rec1 (v1 + 1))) ∧
 (¬ (v1 < (x0.length : Int)) →
 Φ true)
def ref07_Few_W (x0 : List (List Sec)) (Φ : Bool → Prop) : Prop :=
 (9 < (x0.length : Int) →
 Φ false) ∧
 (¬ (9 < (x0.length : Int)) →
 LoopW (ref07_Few_L1 x0 Φ) 0)
def Z72 (x0 : List (List Sec)) (Φ : List (List Sec) → Prop) : (List (List Sec) × Int) → ((List (List Sec) × Int) → Prop) → Prop
 | (v12, v20), rec1 =>
 (v20 < (x0.length : Int) →
 inX v20 x0.length ∧
 Z10 (ix x0 v20) fun v27 =>
 lenOk (v12 ++ [v27]).length 24 ∧
 inI (v20 + 1) ∧
 rec1 ((v12 ++ [v27]), v20 + 1)) ∧
 (¬ (v20 < (x0.length : Int)) →
 Φ v12)
def Z73 (x0 : List (List Sec)) (Φ : List (List Sec) → Prop) : Prop :=
 0 ≤ (x0.length : Int) ∧
 lenOk (x0.length : Int).toNat 24 ∧
 LoopW (Z72 x0 Φ) (([] : List (List Sec)), 0)
def Z74 (x0 : List (List Sec)) (Φ : List (List Sec) → Prop) : Prop :=
 Z73 x0 fun v2 =>
 Φ v2
def Z75 (x1 : List api_Write) (Φ : List (List Sec) × Int × Int → Prop) : (List (List Sec) × Int) → ((List (List Sec) × Int) → Prop) → Prop
 | (v16, v24), rec1 =>
 (v24 < (x1.length : Int) →
 inX v24 x1.length ∧
 image_fits_W v16 (ix x1 v24) fun v38 =>
 (v38 ≠ 0 →
 Φ (([] : List (List Sec)), v24, v38)) ∧
 (¬ (v38 ≠ 0) →
 inX ((ix x1 v24).Volume) v16.length ∧
 inS ((ix x1 v24).Start) ((ix v16 ((ix x1 v24).Volume)).length : Int) (ix v16 ((ix x1 v24).Volume)).length ∧
 inI (v24 + 1) ∧
 rec1 ((put v16 ((ix x1 v24).Volume) (paste (ix v16 ((ix x1 v24).Volume)) ((ix x1 v24).Start) ((ix x1 v24).Data))), v24 + 1))) ∧
 (¬ (v24 < (x1.length : Int)) →
 Φ (v16, 0, 0))
def image_Apply_W (x0 : List (List Sec)) (x1 : List api_Write) (Φ : List (List Sec) × Int × Int → Prop) : Prop :=
 image_Check_W x0 fun v3 =>
 (v3 ≠ 0 →
 Φ (([] : List (List Sec)), 0, v3)) ∧
 (¬ (v3 ≠ 0) →
 Z74 x0 fun v7 =>
 LoopW (Z75 x1 Φ) (v7, 0))
def Z76 (x0 : List (List Sec)) (x1 : api_Cycle) (Φ : List (List Sec) × Int → Prop) : (Int × List Int) → ((Int × List Int) → Prop) → Prop
 | (v2, v3), rec1 =>
 (v2 < (x0.length : Int) →
 inX v2 x0.length ∧
 lenOk (v3 ++ ([((ix x0 v2).length : Int)] : List Int)).length 8 ∧
 inI (v2 + 1) ∧
 rec1 ((v2 + 1), (v3 ++ ([((ix x0 v2).length : Int)] : List Int)))) ∧
 (¬ (v2 < (x0.length : Int)) →
 cycle_Check_W x1 v3 fun v4 =>
 (v4 ≠ 0 →
 Φ (([] : List (List Sec)), v4)) ∧
 (¬ (v4 ≠ 0) →
 image_Apply_W x0 x1.Writes fun v5 =>
 Φ (v5.1, v5.2.2)))
def cycle_Apply_W (x0 : List (List Sec)) (x1 : api_Cycle) (Φ : List (List Sec) × Int → Prop) : Prop :=
 image_Check_W x0 fun v1 =>
 (v1 ≠ 0 →
 Φ (([] : List (List Sec)), v1)) ∧
 (¬ (v1 ≠ 0) →
 LoopW (Z76 x0 x1 Φ) (0, ([] : List Int)))
def Z77 (x0 : List Sec) (x1 : List Sec) (Φ : Bool → Prop) : (Int) → ((Int) → Prop) → Prop
 | v1, rec1 =>
 (v1 < (x0.length : Int) →
 inX v1 x0.length ∧
 inX v1 x1.length ∧
 ((ix x0 v1) ≠ (ix x1 v1) →
 Φ false) ∧
 (¬ ((ix x0 v1) ≠ (ix x1 v1)) →
 inI (v1 + 1) ∧
 rec1 (v1 + 1))) ∧
 (¬ (v1 < (x0.length : Int)) →
 Φ true)
def Z78 (x0 : List Sec) (x1 : List Sec) (Φ : Bool → Prop) : Prop :=
 ((x0.length : Int) ≠ (x1.length : Int) →
 Φ false) ∧
 (¬ ((x0.length : Int) ≠ (x1.length : Int)) →
 LoopW (Z77 x0 x1 Φ) 0)
def ref07_Same_L1 (x0 : List (List Sec)) (x1 : List (List Sec)) (Φ : Bool → Prop) : (Int) → ((Int) → Prop) → Prop
 | v1, rec1 =>
 (v1 < (x0.length : Int) →
 inX v1 x0.length ∧
 inX v1 x1.length ∧
 ∃ v2 : Bool × Unit, Z78 (ix x0 v1) (ix x1 v1) (fun z => (z, ()) = v2) ∧
 (¬ (v2.1 = true) →
 Φ false) ∧
 (¬ (¬ (v2.1 = true)) →
 inI (v1 + 1) ∧
 rec1 (v1 + 1))) ∧
 (¬ (v1 < (x0.length : Int)) →
 Φ true)
def ref07_Same_W (x0 : List (List Sec)) (x1 : List (List Sec)) (Φ : Bool → Prop) : Prop :=
 ((x0.length : Int) ≠ (x1.length : Int) →
 Φ false) ∧
 (¬ ((x0.length : Int) ≠ (x1.length : Int)) →
 LoopW (ref07_Same_L1 x0 x1 Φ) 0)
def Z79 (x0 : List api_Write) (Φ : Int → Prop) : (Int × Int) → ((Int × Int) → Prop) → Prop
 | (v1, v2), rec1 =>
 (v2 < (x0.length : Int) →
 inX v2 x0.length ∧
 inI (v1 + (((ix x0 v2).Data).length : Int)) ∧
 inI (v2 + 1) ∧
 rec1 ((v1 + (((ix x0 v2).Data).length : Int)), (v2 + 1))) ∧
 (¬ (v2 < (x0.length : Int)) →
 Φ v1)
def Z80 (x0 : List api_Write) (Φ : Int → Prop) : Prop :=
 LoopW (Z79 x0 Φ) (0, 0)
def Z81 (x0 : api_Cycle) (x1 : api_Cycle) (x2 : List (List Sec)) (v3 : api_Cycle × Int) (v4 : List (List Sec) × Int) (Φ : Bool → Prop) : Bool → Prop
 | v5 =>
 (v5 = true →
 law23_awake_W fun v6 =>
 Φ v6) ∧
 (¬ (v5 = true) →
 cycle_Apply_W v4.1 x1 fun v7 =>
 (v7.2 ≠ 0 →
 law23_awake_W fun v8 =>
 Φ v8) ∧
 (¬ (v7.2 ≠ 0) →
 cycle_Apply_W x2 v3.1 fun v9 =>
 cycle_Apply_W v4.1 v3.1 fun v10 =>
 ∃ v11 : Bool × Unit, law23_awake_W (fun z => (z, ()) = v11) ∧
 (v11.1 = true →
 (v9.2 = 0 →
 (v10.2 = 0 →
 ∃ v12 : Bool × Unit, ref07_Same_W v7.1 v9.1 (fun z => (z, ()) = v12) ∧
 (v12.1 = true →
 ∃ v13 : Bool × Unit, ref07_Same_W v7.1 v10.1 (fun z => (z, ()) = v13) ∧
 (v13.1 = true →
 (v3.1.Base = x0.Base →
 (v3.1.Number = x1.Number →
 ∃ v14 : Int × Unit, Z80 v3.1.Writes (fun z => (z, ()) = v14) ∧
 ∃ v15 : Int × Unit, Z80 x0.Writes (fun z => (z, ()) = v15) ∧
 ∃ v16 : Int × Unit, Z80 x1.Writes (fun z => (z, ()) = v16) ∧
 inI (v15.1 + v16.1) ∧
 Φ (decide (v14.1 ≤ (v15.1 + v16.1)))) ∧
 (¬ (v3.1.Number = x1.Number) →
 Φ false)) ∧
 (¬ (v3.1.Base = x0.Base) →
 Φ false)) ∧
 (¬ (v13.1 = true) →
 Φ false)) ∧
 (¬ (v12.1 = true) →
 Φ false)) ∧
 (¬ (v10.2 = 0) →
 Φ false)) ∧
 (¬ (v9.2 = 0) →
 Φ false)) ∧
 (¬ (v11.1 = true) →
 Φ false)))
def Z82 (x0 : api_Cycle) (x1 : api_Cycle) (x2 : List (List Sec)) (Φ : Bool → Prop) : Bool → Prop
 | v1 =>
 (v1 = true →
 law23_awake_W fun v2 =>
 Φ v2) ∧
 (¬ (v1 = true) →
 Z70 x0 x1 fun v3 =>
 cycle_Apply_W x2 x0 fun v4 =>
 Join (Z81 x0 x1 x2 v3 v4 Φ) fun J2 =>
 (v3.2 ≠ 0 →
 J2 true) ∧
 (¬ (v3.2 ≠ 0) →
 J2 (decide (v4.2 ≠ 0))))
def Z83 (x0 : api_Cycle) (x1 : api_Cycle) (x2 : List (List Sec)) (Φ : Bool → Prop) : Prop :=
 Join (Z82 x0 x1 x2 Φ) fun J1 =>
 ref23_Few_W x0 fun v17 =>
 (¬ (v17 = true) →
 J1 true) ∧
 (¬ (¬ (v17 = true)) →
 ref23_Few_W x1 fun v18 =>
 (¬ (v18 = true) →
 J1 true) ∧
 (¬ (¬ (v18 = true)) →
 ref07_Few_W x2 fun v19 =>
 J1 (decide (¬ (v19 = true)))))
def ghT : Hp → Prop := fun _ => True
def gh : Hp → Prop := fun _ => True
theorem ghUp : GUp gh := fun _ _ _ _ => trivial
def ct75 : Ct DD := ⟨75, [3], [4], [[false]], true, fun x Φ => Z0 x.1 fun y => Φ (y, ())⟩
def pl75 : List PE := []
def ct51 : Ct DD := ⟨51, [22], [28], [[false]], true, fun x Φ => Z2 x.1 fun y => Φ (y, ())⟩
def pl51 : List PE := [⟨[4, 1, 0, 1, 12, 0, 1, 11, 0, 0, 1, 1], [], [], ⟨[.int], [(0, .kp 0), (1, .kp 1), (7, .kp 4), (8, .v .int)], [], [], []⟩, false⟩]
def ct53 : Ct DD := ⟨53, [3], [34], [[true]], false, fun x Φ => image_New_1_W x.1 fun y => Φ (y, ())⟩
def pl53 : List PE := []
def ct18 : Ct DD := ⟨18, [22], [49, 28], [[true], [false]], false, fun x Φ => image_New_W x.1 fun y => Φ (y.1, y.2, ())⟩
def pl18 : List PE := [⟨[4, 1, 0, 1, 1, 11, 0, 1, 1], [], [], ⟨[.int, .lst 34], [(1, .kp 2), (5, .own 0), (11, .kp 8), (12, .kp 9), (13, .v .int)], [], [34], []⟩, false⟩]
def ct31 : Ct DD := ⟨31, [3, 3, 3], [4], [[false]], true, fun x Φ => cycle_in_W x.1 x.2.1 x.2.2.1 fun y => Φ (y, ())⟩
def pl31 : List PE := []
def ct37 : Ct DD := ⟨37, [22], [22], [[true]], false, fun x Φ => Z3 x.1 fun y => Φ (y, ())⟩
def pl37 : List PE := []
def ct12 : Ct DD := ⟨12, [22, 3, 3], [33, 28], [[false, true, true, false, false], [false]], false, fun x Φ => cycle_Open_W x.1 x.2.1 x.2.2.1 fun y => Φ (y.1, y.2, ())⟩
def pl12 : List PE := []
def ct28 : Ct DD := ⟨28, [3, 3, 115], [36], [[false, false, true]], false, fun x Φ => law23_write_W x.1 x.2.1 x.2.2.1 fun y => Φ (y, ())⟩
def pl28 : List PE := [⟨[4, 1, 0, 1, 1], [], [0], ⟨[.int, .lst 94], [(2, .kp 4), (6, .kp 5), (7, .kp 9), (8, .v .int)], [(1, 36, [.kp 11,.kp 12,.own 0])], [94], []⟩, false⟩]
def ct69 : Ct DD := ⟨69, [3], [4], [[false]], true, fun x Φ => Z5 x.1 fun y => Φ (y, ())⟩
def pl69 : List PE := []
def ct32 : Ct DD := ⟨32, [22, 3], [28], [[false]], true, fun x Φ => Z7 x.1 x.2.1 fun y => Φ (y, ())⟩
def pl32 : List PE := [⟨[4, 1, 0, 1, 12, 0, 1, 11, 0, 0, 1, 1], [], [], ⟨[.int], [(0, .kp 0), (1, .kp 1), (7, .kp 4), (8, .v .int)], [], [], []⟩, false⟩]
def ct92 : Ct DD := ⟨92, [34], [3], [[false]], true, fun x Φ => Z8 x.1 fun y => Φ (y, ())⟩
def pl92 : List PE := []
def ct81 : Ct DD := ⟨81, [49], [22], [[true]], false, fun x Φ => image_sizes_W x.1 fun y => Φ (y, ())⟩
def pl81 : List PE := [⟨[4, 1, 0, 1, 1, 11, 0, 1], [], [], ⟨[.int, .lst 3], [(1, .kp 2), (5, .own 0), (11, .kp 8), (12, .kp 9), (13, .v .int)], [], [3], []⟩, false⟩]
def ct60 : Ct DD := ⟨60, [49], [28], [[false]], true, fun x Φ => image_Check_W x.1 fun y => Φ (y, ())⟩
def pl60 : List PE := []
def ct83 : Ct DD := ⟨83, [49, 36], [28], [[false]], true, fun x Φ => image_fits_W x.1 x.2.1 fun y => Φ (y, ())⟩
def pl83 : List PE := [⟨[4, 0, 1], [], [0], ⟨[.bool], [(0, .kp 1), (3, .kp 3), (5, .v .bool)], [], [], []⟩, true⟩]
def ct72 : Ct DD := ⟨72, [49, 36], [28], [[false]], true, fun x Φ => image_Fits_W x.1 x.2.1 fun y => Φ (y, ())⟩
def pl72 : List PE := []
def ct74 : Ct DD := ⟨74, [34], [34], [[true]], false, fun x Φ => Z10 x.1 fun y => Φ (y, ())⟩
def pl74 : List PE := []
def ct47 : Ct DD := ⟨47, [36], [36], [[false, false, true]], false, fun x Φ => Z11 x.1 fun y => Φ (y, ())⟩
def pl47 : List PE := []
def ct46 : Ct DD := ⟨46, [33], [33], [[false, true, true, true, true]], false, fun x Φ => Z13 x.1 fun y => Φ (y, ())⟩
def pl46 : List PE := [⟨[4, 1, 0, 1, 1, 1], [], [4, 3, 2, 0, 1], ⟨[.int, .lst 36], [(1, .kp 6), (2, .kp 7), (3, .own 0), (19, .kp 22), (20, .kp 23), (21, .v .int)], [], [36], []⟩, false⟩]
def ct15 : Ct DD := ⟨15, [33, 3, 36], [33, 28], [[false, true, true, true, true], [false]], false, fun x Φ => cycle_Add_W x.1 x.2.1 x.2.2.1 fun y => Φ (y.1, y.2, ())⟩
def pl15 : List PE := [⟨[0, 1, 1], [0, 1], [0, 1], ⟨[], [(0, .kp 0), (1, .kp 0), (3, .kp 0), (4, .kp 0)], [], [0, 0, 0, 1, 3, 4, 2, 5], []⟩, false⟩, ⟨[4, 1, 0, 1, 1, 1, 1, 1, 1, 12, 0, 1, 1], [19], [19, 18, 3, 2], ⟨[.int], [(1, .kp 21), (3, .kp 29), (38, .kp 56), (39, .kp 57), (40, .v .int)], [], [], []⟩, false⟩, ⟨[1, 4, 0, 1, 1, 5, 4, 1, 0, 1, 1, 1, 1, 1, 1, 12, 0, 1, 1], [], [], ⟨[], [], [], [8], []⟩, false⟩]
def ct76 : Ct DD := ⟨76, [3], [4], [[false]], true, fun x Φ => Z14 x.1 fun y => Φ (y, ())⟩
def pl76 : List PE := []
def it77 : It DD := ⟨77, [97, 4], [3, 36], fun x l => cycle_division_writes_1_I x.1 x.2.1 l⟩
def pl77 : List PE := [⟨[4, 1], [], [], ⟨[.int], [(0, .kp 0), (1, .kp 3), (2, .kp 4), (8, .kp 7), (9, .kp 8), (10, .v .int)], [], [], []⟩, false⟩, ⟨[0, 1, 4, 0, 1, 1, 5, 4, 1], [], [], ⟨[], [(2, .kp 0), (5, .kp 0), (7, .kp 0), (8, .kp 0), (9, .kp 0)], [], [0, 0, 2, 5, 0, 1, 3, 4, 6, 7, 8, 9, 10, 11, 12, 13], []⟩, false⟩]
def ct78 : Ct DD := ⟨78, [36], [28], [[false]], true, fun x Φ => Z17 x.1 fun y => Φ (y, ())⟩
def pl78 : List PE := [⟨[4, 0, 1], [], [0], ⟨[.bool], [(1, .kp 2), (3, .v .bool)], [], [], []⟩, true⟩]
def ct88 : Ct DD := ⟨88, [136], [136], [[false, false]], true, fun x Φ => Z18 x.1 fun y => Φ (y, ())⟩
def pl88 : List PE := []
def ct112 : Ct DD := ⟨112, [3], [4], [[false]], true, fun x Φ => Z19 x.1 fun y => Φ (y, ())⟩
def pl112 : List PE := []
def ct99 : Ct DD := ⟨99, [3, 3], [3], [[false]], true, fun x Φ => Z20 x.1 x.2.1 fun y => Φ (y, ())⟩
def pl99 : List PE := []
def ct98 : Ct DD := ⟨98, [22], [3], [[false]], true, fun x Φ => cmp_Or_int_W x.1 fun y => Φ (y, ())⟩
def pl98 : List PE := [⟨[4, 1, 0, 1, 1], [], [], ⟨[.int], [(3, .kp 2), (6, .kp 3), (7, .kp 4), (8, .v .int)], [], [], []⟩, false⟩]
def ct90 : Ct DD := ⟨90, [136, 136], [3], [[false]], true, fun x Φ => Z21 x.1 x.2.1 fun y => Φ (y, ())⟩
def pl90 : List PE := []
def tn89 : Tn DD := ⟨89, 136, [90], fun xs Φ => Z22 xs Φ⟩
def ct57 : Ct DD := ⟨57, [23], [23, 28], [[true], [false]], false, fun x Φ => Z29 x.1 fun y => Φ (y.1, y.2, ())⟩
def pl57 : List PE := [⟨[4, 1, 0, 1], [], [], ⟨[.int], [(0, .kp 0), (7, .kp 3), (8, .kp 4), (9, .v .int)], [], [], []⟩, false⟩, ⟨[4, 1, 0, 1, 1, 11, 0, 1, 1], [], [], ⟨[.int, .mp 136 94], [(3, .kp 9), (10, .kp 0), (11, .kp 10), (12, .v .int)], [], [], [(6, .map 136 94 true true)]⟩, false⟩, ⟨[4, 1, 1, 1, 4, 0, 1, 1, 5, 4, 1, 0, 1, 1, 11, 0, 1, 1], [], [12], ⟨[.int, .int, .int, .mp 136 94], [(3, .kp 9), (6, .kp 24), (10, .kp 0), (11, .kp 10), (12, .kp 14), (22, .kp 26), (23, .kp 27), (24, .v .int)], [(13, 136, [.v .int,.v .int])], [], [(6, .map 136 94 true true)]⟩, false⟩, ⟨[4, 1, 0, 1, 1, 12, 0, 1, 1], [], [6], ⟨[.itr, .lst 136], [(0, .kp 9), (3, .own 0), (14, .kp 18)], [], [136], [(13, .itr 6)]⟩, false⟩, ⟨[4, 1, 0, 1, 1, 1, 1, 1, 1, 12, 0, 1, 1], [], [13, 19, 6], ⟨[.int, .int, .int, .lst 36, .lst 94], [(0, .kp 9), (5, .own 0), (6, .kp 28), (26, .kp 29), (27, .kp 30), (28, .v .int)], [(20, 136, [.v .int,.v .int])], [300036, 94], []⟩, false⟩, ⟨[1, 4, 0, 1, 1, 5, 4, 1, 0, 1, 1, 1, 1, 1, 1, 12, 0, 1, 1], [], [36, 20], ⟨[.lst 36, .lst 94], [(0, .kp 9), (5, .own 0), (6, .kp 28), (8, .kp 42), (26, .kp 29), (27, .kp 30), (28, .kp 38)], [], [300036, 94], []⟩, true⟩]
def ct59 : Ct DD := ⟨59, [97, 3, 36], [36], [[false, false, true]], false, fun x Φ => Z33 x.1 x.2.1 x.2.2.1 fun y => Φ (y, ())⟩
def pl59 : List PE := [⟨[4, 1, 0, 1, 1], [5, 6], [6, 5, 3, 1, 0], ⟨[.lst 94], [], [(2, 36, [.kp 21,.kp 22,.own 0])], [94], []⟩, false⟩, ⟨[4, 1, 1, 4, 7, 4, 1, 0, 1, 1], [], [32], ⟨[.int, .lst 94], [(5, .kp 12), (8, .kp 36), (29, .kp 43), (30, .v .int)], [(2, 36, [.kp 21,.kp 22,.own 0])], [94], []⟩, false⟩, ⟨[0, 4, 7, 4, 1, 0, 1, 1], [], [32, 2, 31], ⟨[.bool], [(5, .kp 12), (8, .kp 36), (26, .v .bool)], [], [], []⟩, true⟩]
def ct20 : Ct DD := ⟨20, [33, 3, 22], [33, 25, 28], [[false, true, true, true, true], [false, false, false, true, true], [false]], false, fun x Φ => cycle_Close_W x.1 x.2.1 x.2.2.1 fun y => Φ (y.1, y.2.1, y.2.2, ())⟩
def pl20 : List PE := [⟨[4, 1, 0, 1, 1, 1, 1, 1, 1, 11, 0, 1, 1], [5], [5, 4, 3, 2, 1, 0], ⟨[.int], [(1, .kp 7), (3, .kp 15), (38, .kp 42), (39, .kp 43), (40, .v .int)], [], [], []⟩, false⟩, ⟨[1, 4, 0, 1, 1, 5, 4, 1, 0, 1, 1, 1, 1, 1, 1, 11, 0, 1, 1], [], [], ⟨[], [], [], [8], []⟩, false⟩, ⟨[4, 1, 0, 1, 1, 12, 0, 1, 1, 1, 1, 1], [], [67, 66, 5, 4, 3, 2, 1, 0], ⟨[.int, .lst 3], [(2, .kp 71), (4, .kp 72), (5, .own 0), (14, .kp 77), (15, .kp 78), (16, .v .int)], [], [3], []⟩, false⟩, ⟨[4, 1, 0, 1, 1, 1, 1, 12, 0, 1, 1, 1, 1, 1], [], [67, 66, 5, 4, 3, 2, 1, 0], ⟨[.int, .lst 3, .lst 4], [(4, .kp 72), (5, .own 0), (8, .kp 98), (41, .kp 89), (42, .kp 100), (43, .v .int)], [(92, 97, [.kp 102,.kp 103,.kp 104,.kp 105,.kp 106,.own 1])], [3, 4], []⟩, false⟩, ⟨[4, 1, 0, 1, 12, 0, 1, 11, 0, 1, 1, 1, 1, 1, 12, 0, 1, 1, 1, 1, 1], [], [92, 108, 109, 67, 66, 5, 4, 3, 2, 1, 0], ⟨[.int], [(0, .kp 110), (1, .kp 111), (7, .kp 114), (8, .v .int)], [], [], []⟩, false⟩, ⟨[4, 1, 0, 1, 1, 1, 1, 1, 1, 1], [119, 109, 120], [120, 119, 117, 92, 108, 109, 67, 66, 5, 4, 3, 2, 1, 0], ⟨[.lst 36], [], [(118, 23, [.own 0])], [36], []⟩, false⟩, ⟨[4, 1, 0, 1, 1, 1, 1, 1, 1, 1, 1, 1, 1, 1, 1], [164, 165], [165, 164, 162, 163, 161, 160, 2, 118, 159, 120, 119, 117, 92, 108, 109, 67, 66, 5, 4, 3, 0], ⟨[.lst 3, .lst 36], [], [(1, 33, [.kp 187,.kp 188,.kp 189,.own 0,.own 1])], [3, 36], []⟩, false⟩, ⟨[4, 1, 0, 1, 1, 1, 1, 1, 1, 1], [119, 109, 120], [120, 119, 117, 92, 108, 109, 67, 66, 5, 4, 3, 2, 1, 0], ⟨[.lst 36], [], [(118, 23, [.own 0])], [36], []⟩, false⟩, ⟨[4, 1, 0, 1, 1, 1, 1, 1, 1, 1, 1, 1, 1, 1, 1], [164, 165], [165, 164, 162, 163, 161, 160, 2, 118, 159, 120, 119, 117, 92, 108, 109, 67, 66, 5, 4, 3, 0], ⟨[.lst 3, .lst 36], [], [(1, 33, [.kp 187,.kp 188,.kp 189,.own 0,.own 1])], [3, 36], []⟩, false⟩]
def ct73 : Ct DD := ⟨73, [34, 34], [4], [[false]], true, fun x Φ => Z43 x.1 x.2.1 fun y => Φ (y, ())⟩
def pl73 : List PE := [⟨[4, 1, 0, 1, 1], [], [], ⟨[.int], [(0, .kp 0), (1, .kp 1), (5, .v .int)], [], [], []⟩, false⟩]
def ct40 : Ct DD := ⟨40, [23, 23], [4], [[false]], true, fun x Φ => Z45 x.1 x.2.1 fun y => Φ (y, ())⟩
def pl40 : List PE := [⟨[4, 1, 0, 1, 1], [], [], ⟨[.int], [(0, .kp 0), (1, .kp 1), (5, .v .int)], [], [], []⟩, false⟩]
def ct29 : Ct DD := ⟨29, [23, 23], [4], [[false]], true, fun x Φ => ref22_Same_W x.1 x.2.1 fun y => Φ (y, ())⟩
def pl29 : List PE := []
def ct101 : Ct DD := ⟨101, [156, 156], [156, 156], [[false], [false]], true, fun x Φ => Z46 x.1 x.2.1 fun y => Φ (y.1, y.2, ())⟩
def pl101 : List PE := []
def ct94 : Ct DD := ⟨94, [145, 145], [145, 145], [[false], [false]], true, fun x Φ => Z47 x.1 x.2.1 fun y => Φ (y.1, y.2, ())⟩
def pl94 : List PE := []
def ct85 : Ct DD := ⟨85, [22, 3], [22], [[true]], false, fun x Φ => Z50 x.1 x.2.1 fun y => Φ (y, ())⟩
def pl85 : List PE := [⟨[4, 0, 1, 1, 1, 1, 1, 1], [], [], ⟨[.int, .lst 3], [(7, .own 0), (8, .v .int)], [], [3], []⟩, false⟩, ⟨[0, 1, 1, 1], [], [], ⟨[.bool], [(0, .kp 0), (6, .kp 15), (26, .v .bool)], [], [], []⟩, true⟩]
def ct66 : Ct DD := ⟨66, [], [22], [[true]], false, fun _ Φ => Z51 fun y => Φ (y, ())⟩
def pl66 : List PE := []
def ct33 : Ct DD := ⟨33, [23, 22], [28], [[false]], true, fun x Φ => Z53 x.1 x.2.1 fun y => Φ (y, ())⟩
def pl33 : List PE := [⟨[4, 1, 0, 1, 12, 0, 1, 1, 1], [0], [1, 0], ⟨[.int], [(0, .kp 2), (1, .kp 3), (9, .kp 5), (10, .kp 6), (11, .v .int)], [], [], []⟩, false⟩]
def ct9 : Ct DD := ⟨9, [25, 22], [28], [[false]], true, fun x Φ => cycle_Check_W x.1 x.2.1 fun y => Φ (y, ())⟩
def pl9 : List PE := [⟨[4, 0, 1, 1], [], [1, 0], ⟨[.bool], [(1, .kp 3), (2, .kp 4), (16, .v .bool)], [], [], []⟩, true⟩]
def ct86 : Ct DD := ⟨86, [132], [23], [[true]], false, fun x Φ => Z58 x.1 fun y => Φ (y, ())⟩
def pl86 : List PE := [⟨[4, 1, 0, 1, 1], [], [], ⟨[.int, .int], [(0, .kp 0), (3, .v .int), (9, .kp 3), (10, .kp 4), (11, .v .int)], [], [], []⟩, false⟩, ⟨[4, 1, 0, 1, 1, 1, 1], [], [], ⟨[.int, .lst 36], [(6, .own 0), (25, .kp 0), (26, .kp 11), (27, .v .int)], [], [36], []⟩, false⟩, ⟨[1, 1, 1], [], [], ⟨[.lst 36], [(0, .kp 0), (6, .own 0)], [], [36], []⟩, true⟩]
def ct67 : Ct DD := ⟨67, [23, 23], [23, 28], [[true], [false]], false, fun x Φ => Z67 x.1 x.2.1 fun y => Φ (y.1, y.2, ())⟩
def pl67 : List PE := [⟨[4, 1, 0, 1], [], [0], ⟨[.int], [(0, .kp 1), (1, .kp 2), (11, .kp 7), (12, .kp 8), (13, .v .int)], [], [], []⟩, false⟩, ⟨[1, 4, 0, 1, 1, 5, 4, 1, 0, 1], [], [], ⟨[.int], [(0, .kp 1), (1, .kp 2), (8, .v .int), (11, .kp 7), (12, .kp 8), (13, .kp 10)], [], [], []⟩, true⟩, ⟨[4, 1, 0, 1, 11, 0, 1, 4, 0, 1, 1, 5, 4, 1, 0, 1], [], [], ⟨[.int], [(0, .kp 14), (1, .kp 15), (9, .kp 14), (10, .kp 17), (11, .v .int)], [], [], []⟩, false⟩, ⟨[4, 1, 0, 1, 1, 14, 0, 1, 1], [], [11, 10, 0], ⟨[.int, .mp 136 94], [(3, .kp 16), (10, .kp 17), (11, .kp 18), (12, .v .int)], [], [], [(12, .map 136 94 true true)]⟩, false⟩, ⟨[4, 1, 1, 1, 4, 0, 1, 1, 5, 4, 1, 0, 1, 1, 14, 0, 1, 1], [], [20], ⟨[.int, .int, .int, .mp 136 94], [(3, .kp 16), (6, .kp 32), (10, .kp 17), (11, .kp 18), (12, .kp 22), (22, .kp 34), (23, .kp 35), (24, .v .int)], [(21, 136, [.v .int,.v .int])], [], [(12, .map 136 94 true true)]⟩, false⟩, ⟨[4, 1, 0, 1, 1, 15, 0, 1, 1], [], [12, 11, 10, 0], ⟨[.itr, .lst 136], [(0, .kp 16), (3, .own 0), (14, .kp 26)], [], [136], [(21, .itr 12)]⟩, false⟩, ⟨[4, 1, 0, 1, 1, 1, 1, 1, 1, 15, 0, 1, 1], [], [21, 27, 12, 11, 10, 0], ⟨[.int, .int, .int, .lst 36, .lst 94], [(0, .kp 16), (5, .own 0), (6, .kp 36), (26, .kp 37), (27, .kp 38), (28, .v .int)], [(28, 136, [.v .int,.v .int])], [300036, 94], []⟩, false⟩, ⟨[1, 4, 0, 1, 1, 5, 4, 1, 0, 1, 1, 1, 1, 1, 1, 15, 0, 1, 1], [], [44, 28], ⟨[.lst 36, .lst 94], [(0, .kp 16), (5, .own 0), (6, .kp 36), (8, .kp 50), (26, .kp 37), (27, .kp 38), (28, .kp 46)], [], [300036, 94], []⟩, true⟩]
def ct26 : Ct DD := ⟨26, [25, 25], [25, 28], [[false, false, false, true, true], [false]], false, fun x Φ => Z70 x.1 x.2.1 fun y => Φ (y.1, y.2, ())⟩
def pl26 : List PE := [⟨[4, 1, 0, 1], [], [3, 1, 0], ⟨[.int], [(2, .kp 6), (3, .kp 7), (4, .kp 8), (15, .kp 12), (16, .kp 13), (17, .v .int)], [(2, 25, [.kp 15,.kp 16,.kp 17,.kp 18,.kp 19])], [], []⟩, false⟩, ⟨[4, 1, 0, 1, 1, 1], [], [3, 1, 0], ⟨[.int], [(2, .kp 6), (3, .kp 7), (4, .kp 8), (53, .kp 28), (54, .kp 47), (55, .v .int)], [(2, 25, [.kp 15,.kp 16,.kp 17,.kp 18,.kp 19])], [], []⟩, false⟩]
def ct7 : Ct DD := ⟨7, [], [4], [[false]], true, fun _ Φ => law23_awake_W fun y => Φ (y, ())⟩
def pl7 : List PE := [⟨[1, 1, 1, 1, 1, 1], [26, 28], [29, 23, 24, 25, 26, 27, 28, 22, 18, 19, 20, 21, 17, 16, 12, 13, 14, 15, 3, 11, 10, 6, 7, 8, 9, 5, 4, 1, 2, 0], ⟨[], [(1, .kp 36), (6, .kp 69)], [], [], []⟩, true⟩]
def ct30 : Ct DD := ⟨30, [23], [4], [[false]], true, fun x Φ => ref22_Few_W x.1 fun y => Φ (y, ())⟩
def pl30 : List PE := [⟨[4, 1, 0, 1], [], [], ⟨[.int], [(0, .kp 0), (3, .v .int)], [], [], []⟩, false⟩, ⟨[0, 5, 4, 1, 0, 1], [], [], ⟨[.bool], [(0, .kp 0), (3, .kp 3), (11, .v .bool)], [], [], []⟩, true⟩]
def ct8 : Ct DD := ⟨8, [25], [4], [[false]], true, fun x Φ => ref23_Few_W x.1 fun y => Φ (y, ())⟩
def pl8 : List PE := []
def ct25 : Ct DD := ⟨25, [49], [4], [[false]], true, fun x Φ => ref07_Few_W x.1 fun y => Φ (y, ())⟩
def pl25 : List PE := [⟨[4, 1, 0, 1, 1], [], [], ⟨[.int], [(0, .kp 0), (3, .v .int)], [], [], []⟩, false⟩]
def ct61 : Ct DD := ⟨61, [49, 23], [49, 3, 28], [[true], [false], [false]], false, fun x Φ => image_Apply_W x.1 x.2.1 fun y => Φ (y.1, y.2.1, y.2.2, ())⟩
def ct21 : Ct DD := ⟨21, [49, 25], [49, 28], [[true], [false]], false, fun x Φ => cycle_Apply_W x.1 x.2.1 fun y => Φ (y.1, y.2, ())⟩
def pl21 : List PE := [⟨[4, 1, 0, 1, 1, 1], [], [0], ⟨[.int, .lst 3], [(0, .kp 1), (3, .kp 3), (7, .own 0), (19, .kp 12), (20, .kp 13), (21, .v .int)], [], [3], []⟩, false⟩]
def ct65 : Ct DD := ⟨65, [34, 34], [4], [[false]], true, fun x Φ => Z78 x.1 x.2.1 fun y => Φ (y, ())⟩
def pl65 : List PE := [⟨[4, 1, 0, 1, 1], [], [], ⟨[.int], [(0, .kp 0), (1, .kp 1), (5, .v .int)], [], [], []⟩, false⟩]
def ct24 : Ct DD := ⟨24, [49, 49], [4], [[false]], true, fun x Φ => ref07_Same_W x.1 x.2.1 fun y => Φ (y, ())⟩
def pl24 : List PE := [⟨[4, 1, 0, 1, 1], [], [], ⟨[.int], [(0, .kp 0), (1, .kp 1), (5, .v .int)], [], [], []⟩, false⟩]
def ct27 : Ct DD := ⟨27, [23], [3], [[false]], true, fun x Φ => Z80 x.1 fun y => Φ (y, ())⟩
def pl27 : List PE := [⟨[4, 1, 0, 1, 1], [], [], ⟨[.int, .int], [(0, .kp 0), (3, .v .int), (4, .v .int)], [], [], []⟩, false⟩]
def ct6 : Ct DD := ⟨6, [25, 25, 49], [4], [[false]], true, fun x Φ => Z83 x.1 x.2.1 x.2.2.1 fun y => Φ (y, ())⟩
def pl6 : List PE := [⟨[0, 1, 1, 1, 1], [], [21, 20, 18, 19, 1, 0], ⟨[.bool], [(2, .kp 4), (3, .kp 5), (4, .kp 6), (7, .kp 29), (9, .kp 36), (48, .v .bool)], [], [], []⟩, true⟩, ⟨[0, 1], [], [1, 0], ⟨[.bool], [(2, .kp 4), (3, .kp 5), (4, .kp 6), (29, .v .bool)], [], [], []⟩, true⟩]
theorem eq20 (x : TupD DD ct20.ps) (Φ : TupD DD ct20.rs → Prop) : ct20.W x Φ = topD ⟨Try.prog, tab, [ct18, ct31, ct32, ct37, ct57, ct59, ct72, ct76], pl20, [it77], gh, [], []⟩ 9 ct20.f ct20.ps ct20.rs ct20.own x Φ := by kernel_rfl
theorem eq33 (x : TupD DD ct33.ps) (Φ : TupD DD ct33.rs → Prop) : ct33.W x Φ = topF ⟨Try.prog, tab, [ct18, ct72], pl33, [], gh, [], []⟩ 9 ct33.f ct33.ps ct33.rs ct33.own x Φ := by kernel_rfl
theorem eq40 (x : TupD DD ct40.ps) (Φ : TupD DD ct40.rs → Prop) : ct40.W x Φ = topF ⟨Try.prog, tab, [ct73], pl40, [], gh, [], []⟩ 9 ct40.f ct40.ps ct40.rs ct40.own x Φ := by kernel_rfl
theorem eq21 (x : TupD DD ct21.ps) (Φ : TupD DD ct21.rs → Prop) : ct21.W x Φ = topF ⟨Try.prog, tab, [ct9, ct60, ct61], pl21, [], gh, [], []⟩ 9 ct21.f ct21.ps ct21.rs ct21.own x Φ := by kernel_rfl
theorem eqi77 (x : TupD DD it77.cs) (l : List (TupD DD it77.ts)) : it77.W x l = iterF ⟨Try.prog, tab, [], pl77, [], gh, [], []⟩ it77.f it77.cs it77.ts x l := by kernel_rfl
theorem eq32 (x : TupD DD ct32.ps) (Φ : TupD DD ct32.rs → Prop) : ct32.W x Φ = topF ⟨Try.prog, tab, [ct31, ct69], pl32, [], gh, [], []⟩ 9 ct32.f ct32.ps ct32.rs ct32.own x Φ := by kernel_rfl
theorem eq28 (x : TupD DD ct28.ps) (Φ : TupD DD ct28.rs → Prop) : ct28.W x Φ = topF ⟨Try.prog, tab, [], pl28, [], gh, [], []⟩ 9 ct28.f ct28.ps ct28.rs ct28.own x Φ := by kernel_rfl
theorem eq73 (x : TupD DD ct73.ps) (Φ : TupD DD ct73.rs → Prop) : ct73.W x Φ = topF ⟨Try.prog, tab, [], pl73, [], gh, [], []⟩ 9 ct73.f ct73.ps ct73.rs ct73.own x Φ := by kernel_rfl
theorem eq81 (x : TupD DD ct81.ps) (Φ : TupD DD ct81.rs → Prop) : ct81.W x Φ = topF ⟨Try.prog, tab, [ct92], pl81, [], gh, [], []⟩ 9 ct81.f ct81.ps ct81.rs ct81.own x Φ := by kernel_rfl
theorem eq98 (x : TupD DD ct98.ps) (Φ : TupD DD ct98.rs → Prop) : ct98.W x Φ = topF ⟨Try.prog, tab, [], pl98, [], gh, [], []⟩ 9 ct98.f ct98.ps ct98.rs ct98.own x Φ := by kernel_rfl
theorem eq72 (x : TupD DD ct72.ps) (Φ : TupD DD ct72.rs → Prop) : ct72.W x Φ = topF ⟨Try.prog, tab, [ct60, ct83], pl72, [], gh, [], []⟩ 9 ct72.f ct72.ps ct72.rs ct72.own x Φ := by kernel_rfl
theorem eq47 (x : TupD DD ct47.ps) (Φ : TupD DD ct47.rs → Prop) : ct47.W x Φ = topF ⟨Try.prog, tab, [ct74], pl47, [], gh, [], []⟩ 9 ct47.f ct47.ps ct47.rs ct47.own x Φ := by kernel_rfl
theorem eq60 (x : TupD DD ct60.ps) (Φ : TupD DD ct60.rs → Prop) : ct60.W x Φ = topF ⟨Try.prog, tab, [ct51, ct81], pl60, [], gh, [], []⟩ 9 ct60.f ct60.ps ct60.rs ct60.own x Φ := by kernel_rfl
theorem eq69 (x : TupD DD ct69.ps) (Φ : TupD DD ct69.rs → Prop) : ct69.W x Φ = topF ⟨Try.prog, tab, [ct31], pl69, [], gh, [], []⟩ 9 ct69.f ct69.ps ct69.rs ct69.own x Φ := by kernel_rfl
theorem eq76 (x : TupD DD ct76.ps) (Φ : TupD DD ct76.rs → Prop) : ct76.W x Φ = topF ⟨Try.prog, tab, [], pl76, [], gh, [], []⟩ 9 ct76.f ct76.ps ct76.rs ct76.own x Φ := by kernel_rfl
theorem eq67 (x : TupD DD ct67.ps) (Φ : TupD DD ct67.rs → Prop) : ct67.W x Φ = topF ⟨Try.prog, tab, [ct78, ct86, ct88], pl67, [], gh, [tn89], [([11, 0, 1, 1, 1, 1, 1, 1, 1, 15, 0, 1, 1], 0), ([16, 2, 1, 0, 1, 4, 0, 1, 1, 5, 4, 1, 0, 1, 1, 1, 1, 1, 1, 15, 0, 1, 1], 94002), ([17, 2, 1, 0, 1, 4, 0, 1, 1, 5, 4, 1, 0, 1, 1, 1, 1, 1, 1, 15, 0, 1, 1], 0)]⟩ 9 ct67.f ct67.ps ct67.rs ct67.own x Φ := by kernel_rfl
theorem eq59 (x : TupD DD ct59.ps) (Φ : TupD DD ct59.rs → Prop) : ct59.W x Φ = topF ⟨Try.prog, tab, [ct31, ct47], pl59, [it77], gh, [], []⟩ 9 ct59.f ct59.ps ct59.rs ct59.own x Φ := by kernel_rfl
theorem eq83 (x : TupD DD ct83.ps) (Φ : TupD DD ct83.rs → Prop) : ct83.W x Φ = topF ⟨Try.prog, tab, [], pl83, [], gh, [], []⟩ 9 ct83.f ct83.ps ct83.rs ct83.own x Φ := by kernel_rfl
theorem eq51 (x : TupD DD ct51.ps) (Φ : TupD DD ct51.rs → Prop) : ct51.W x Φ = topF ⟨Try.prog, tab, [ct75], pl51, [], gh, [], []⟩ 9 ct51.f ct51.ps ct51.rs ct51.own x Φ := by kernel_rfl
theorem eq78 (x : TupD DD ct78.ps) (Φ : TupD DD ct78.rs → Prop) : ct78.W x Φ = topF ⟨Try.prog, tab, [], pl78, [], gh, [], []⟩ 9 ct78.f ct78.ps ct78.rs ct78.own x Φ := by kernel_rfl
theorem eq25 (x : TupD DD ct25.ps) (Φ : TupD DD ct25.rs → Prop) : ct25.W x Φ = topF ⟨Try.prog, tab, [], pl25, [], gh, [], []⟩ 9 ct25.f ct25.ps ct25.rs ct25.own x Φ := by kernel_rfl
theorem eq8 (x : TupD DD ct8.ps) (Φ : TupD DD ct8.rs → Prop) : ct8.W x Φ = topF ⟨Try.prog, tab, [ct30], pl8, [], gh, [], []⟩ 9 ct8.f ct8.ps ct8.rs ct8.own x Φ := by kernel_rfl
theorem eq94 (x : TupD DD ct94.ps) (Φ : TupD DD ct94.rs → Prop) : ct94.W x Φ = topF ⟨Try.prog, tab, [ct101], pl94, [], gh, [], []⟩ 9 ct94.f ct94.ps ct94.rs ct94.own x Φ := by kernel_rfl
theorem eq29 (x : TupD DD ct29.ps) (Φ : TupD DD ct29.rs → Prop) : ct29.W x Φ = topF ⟨Try.prog, tab, [ct40], pl29, [], gh, [], []⟩ 9 ct29.f ct29.ps ct29.rs ct29.own x Φ := by kernel_rfl
theorem eq112 (x : TupD DD ct112.ps) (Φ : TupD DD ct112.rs → Prop) : ct112.W x Φ = topF ⟨Try.prog, tab, [], pl112, [], gh, [], []⟩ 9 ct112.f ct112.ps ct112.rs ct112.own x Φ := by kernel_rfl
theorem eq57 (x : TupD DD ct57.ps) (Φ : TupD DD ct57.rs → Prop) : ct57.W x Φ = topF ⟨Try.prog, tab, [ct78, ct88], pl57, [], gh, [tn89], [([11, 0, 1, 1, 1, 1, 1, 1, 1, 12, 0, 1, 1], 0), ([16, 2, 1, 0, 1, 4, 0, 1, 1, 5, 4, 1, 0, 1, 1, 1, 1, 1, 1, 12, 0, 1, 1], 94002), ([17, 2, 1, 0, 1, 4, 0, 1, 1, 5, 4, 1, 0, 1, 1, 1, 1, 1, 1, 12, 0, 1, 1], 0)]⟩ 9 ct57.f ct57.ps ct57.rs ct57.own x Φ := by kernel_rfl
theorem eq6 (x : TupD DD ct6.ps) (Φ : TupD DD ct6.rs → Prop) : ct6.W x Φ = topF ⟨Try.prog, tab, [ct7, ct8, ct21, ct24, ct25, ct26, ct27], pl6, [], gh, [], []⟩ 9 ct6.f ct6.ps ct6.rs ct6.own x Φ := by kernel_rfl
theorem eq86 (x : TupD DD ct86.ps) (Φ : TupD DD ct86.rs → Prop) : ct86.W x Φ = topF ⟨Try.prog, tab, [], pl86, [], gh, [], [([19, 2, 1, 1, 0, 1, 1, 11, 0, 1, 1, 1], 0)]⟩ 9 ct86.f ct86.ps ct86.rs ct86.own x Φ := by kernel_rfl
theorem eq12 (x : TupD DD ct12.ps) (Φ : TupD DD ct12.rs → Prop) : ct12.W x Φ = topF ⟨Try.prog, tab, [ct18, ct31, ct37], pl12, [], gh, [], []⟩ 9 ct12.f ct12.ps ct12.rs ct12.own x Φ := by kernel_rfl
theorem eq30 (x : TupD DD ct30.ps) (Φ : TupD DD ct30.rs → Prop) : ct30.W x Φ = topF ⟨Try.prog, tab, [], pl30, [], gh, [], []⟩ 9 ct30.f ct30.ps ct30.rs ct30.own x Φ := by kernel_rfl
theorem eq101 (x : TupD DD ct101.ps) (Φ : TupD DD ct101.rs → Prop) : ct101.W x Φ = topF ⟨Try.prog, tab, [], pl101, [], gh, [], []⟩ 9 ct101.f ct101.ps ct101.rs ct101.own x Φ := by kernel_rfl
theorem eq99 (x : TupD DD ct99.ps) (Φ : TupD DD ct99.rs → Prop) : ct99.W x Φ = topF ⟨Try.prog, tab, [ct112], pl99, [], gh, [], []⟩ 9 ct99.f ct99.ps ct99.rs ct99.own x Φ := by kernel_rfl
theorem eq90 (x : TupD DD ct90.ps) (Φ : TupD DD ct90.rs → Prop) : ct90.W x Φ = topF ⟨Try.prog, tab, [ct98, ct99], pl90, [], gh, [], []⟩ 9 ct90.f ct90.ps ct90.rs ct90.own x Φ := by kernel_rfl
theorem eq37 (x : TupD DD ct37.ps) (Φ : TupD DD ct37.rs → Prop) : ct37.W x Φ = topF ⟨Try.prog, tab, [], pl37, [], gh, [], []⟩ 9 ct37.f ct37.ps ct37.rs ct37.own x Φ := by kernel_rfl
theorem eq31 (x : TupD DD ct31.ps) (Φ : TupD DD ct31.rs → Prop) : ct31.W x Φ = topF ⟨Try.prog, tab, [], pl31, [], gh, [], []⟩ 9 ct31.f ct31.ps ct31.rs ct31.own x Φ := by kernel_rfl
theorem eq75 (x : TupD DD ct75.ps) (Φ : TupD DD ct75.rs → Prop) : ct75.W x Φ = topF ⟨Try.prog, tab, [], pl75, [], gh, [], []⟩ 9 ct75.f ct75.ps ct75.rs ct75.own x Φ := by kernel_rfl
theorem eq92 (x : TupD DD ct92.ps) (Φ : TupD DD ct92.rs → Prop) : ct92.W x Φ = topF ⟨Try.prog, tab, [], pl92, [], gh, [], []⟩ 9 ct92.f ct92.ps ct92.rs ct92.own x Φ := by kernel_rfl
theorem eq15 (x : TupD DD ct15.ps) (Φ : TupD DD ct15.rs → Prop) : ct15.W x Φ = topD ⟨Try.prog, tab, [ct18, ct31, ct32, ct46, ct47, ct72], pl15, [], gh, [], []⟩ 9 ct15.f ct15.ps ct15.rs ct15.own x Φ := by kernel_rfl
theorem eq7 (x : TupD DD ct7.ps) (Φ : TupD DD ct7.rs → Prop) : ct7.W x Φ = topF ⟨Try.prog, tab, [ct12, ct15, ct20, ct26, ct28, ct29], pl7, [], gh, [], []⟩ 9 ct7.f ct7.ps ct7.rs ct7.own x Φ := by kernel_rfl
theorem eq26 (x : TupD DD ct26.ps) (Φ : TupD DD ct26.rs → Prop) : ct26.W x Φ = topF ⟨Try.prog, tab, [ct9, ct37, ct66, ct67], pl26, [], gh, [], []⟩ 9 ct26.f ct26.ps ct26.rs ct26.own x Φ := by kernel_rfl
theorem eq85 (x : TupD DD ct85.ps) (Φ : TupD DD ct85.rs → Prop) : ct85.W x Φ = topF ⟨Try.prog, tab, [ct94], pl85, [], gh, [], []⟩ 9 ct85.f ct85.ps ct85.rs ct85.own x Φ := by kernel_rfl
theorem eq46 (x : TupD DD ct46.ps) (Φ : TupD DD ct46.rs → Prop) : ct46.W x Φ = topF ⟨Try.prog, tab, [ct37, ct47], pl46, [], gh, [], []⟩ 9 ct46.f ct46.ps ct46.rs ct46.own x Φ := by kernel_rfl
theorem eq9 (x : TupD DD ct9.ps) (Φ : TupD DD ct9.rs → Prop) : ct9.W x Φ = topF ⟨Try.prog, tab, [ct18, ct31, ct32, ct33], pl9, [], gh, [], []⟩ 9 ct9.f ct9.ps ct9.rs ct9.own x Φ := by kernel_rfl
theorem eq18 (x : TupD DD ct18.ps) (Φ : TupD DD ct18.rs → Prop) : ct18.W x Φ = topF ⟨Try.prog, tab, [ct51, ct53], pl18, [], gh, [], []⟩ 9 ct18.f ct18.ps ct18.rs ct18.own x Φ := by kernel_rfl
theorem eq24 (x : TupD DD ct24.ps) (Φ : TupD DD ct24.rs → Prop) : ct24.W x Φ = topF ⟨Try.prog, tab, [ct65], pl24, [], gh, [], []⟩ 9 ct24.f ct24.ps ct24.rs ct24.own x Φ := by kernel_rfl
theorem eq65 (x : TupD DD ct65.ps) (Φ : TupD DD ct65.rs → Prop) : ct65.W x Φ = topF ⟨Try.prog, tab, [], pl65, [], gh, [], []⟩ 9 ct65.f ct65.ps ct65.rs ct65.own x Φ := by kernel_rfl
theorem eq27 (x : TupD DD ct27.ps) (Φ : TupD DD ct27.rs → Prop) : ct27.W x Φ = topF ⟨Try.prog, tab, [], pl27, [], gh, [], []⟩ 9 ct27.f ct27.ps ct27.rs ct27.own x Φ := by kernel_rfl
theorem eq74 (x : TupD DD ct74.ps) (Φ : TupD DD ct74.rs → Prop) : ct74.W x Φ = topF ⟨Try.prog, tab, [], pl74, [], gh, [], []⟩ 9 ct74.f ct74.ps ct74.rs ct74.own x Φ := by kernel_rfl
theorem eq88 (x : TupD DD ct88.ps) (Φ : TupD DD ct88.rs → Prop) : ct88.W x Φ = topF ⟨Try.prog, tab, [], pl88, [], gh, [], []⟩ 9 ct88.f ct88.ps ct88.rs ct88.own x Φ := by kernel_rfl
theorem eq53 (x : TupD DD ct53.ps) (Φ : TupD DD ct53.rs → Prop) : ct53.W x Φ = topF ⟨Try.prog, tab, [], pl53, [], gh, [], []⟩ 9 ct53.f ct53.ps ct53.rs ct53.own x Φ := by kernel_rfl
theorem eq66 (x : TupD DD ct66.ps) (Φ : TupD DD ct66.rs → Prop) : ct66.W x Φ = topF ⟨Try.prog, tab, [ct85], pl66, [], gh, [], []⟩ 9 ct66.f ct66.ps ct66.rs ct66.own x Φ := by kernel_rfl
def cmpI (a b : Int) : Int := if a < b then -1 else if b < a then 1 else 0
def cmpP (a b : coalesce_place) : Int := if cmpI a.volume b.volume ≠ 0 then cmpI a.volume b.volume else cmpI a.sector b.sector
theorem cmpI_W (a b : Int) {Φ : Int → Prop} (h : Φ (cmpI a b)) : Z20 a b Φ := by
  unfold cmpI at h
  unfold Z20 Z19
  refine ⟨fun e => absurd e (by simp), fun _ => ⟨fun e => absurd e (by simp), fun _ => ⟨fun e => ?_, fun e => ⟨fun e2 => ?_, fun e2 => ?_⟩⟩⟩⟩
  · rw [if_pos e] at h; exact h
  · rw [if_neg e, if_pos e2] at h; exact h
  · rw [if_neg e, if_neg e2] at h; exact h
theorem before_ok (x y : coalesce_place) : Z21 x y fun v => v = cmpP x y := by
  unfold Z21
  refine ⟨(cmpI x.volume y.volume, ()), cmpI_W _ _ rfl, (cmpI x.sector y.sector, ()), cmpI_W _ _ rfl, (cmpP x y, ()), ?_, rfl⟩
  refine ⟨3, ⟨fun _ => ⟨⟨by decide, by simp⟩, fun h => ?_, fun h => ⟨by unfold inI; decide, ⟨fun _ => ⟨⟨by decide, by simp⟩, fun h2 => ?_, fun h2 => ⟨by unfold inI; decide, ⟨fun h3 => absurd h3 (by simp), fun _ => ?_⟩⟩⟩, fun h2 => absurd (show (0 + 1 : Int) < _ by simp) h2⟩⟩⟩, fun h => absurd (show (0 : Int) < _ by simp) h⟩⟩
  · have h : cmpI x.volume y.volume ≠ 0 := h
    show (cmpI x.volume y.volume, ()) = (cmpP x y, ())
    unfold cmpP
    rw [if_pos h]
  · have h : ¬ (cmpI x.volume y.volume ≠ 0) := h
    show (cmpI x.sector y.sector, ()) = (cmpP x y, ())
    unfold cmpP
    rw [if_neg h]
  · have h : ¬ (cmpI x.volume y.volume ≠ 0) := h
    have h2 : ¬ (cmpI x.sector y.sector ≠ 0) := h2
    show ((0 : Int), ()) = (cmpP x y, ())
    unfold cmpP
    rw [if_neg h, Decidable.not_not.1 h2]
theorem cmpI_lt {a b : Int} : cmpI a b < 0 ↔ a < b := by unfold cmpI; split <;> (try split) <;> omega
theorem cmpI_eq {a b : Int} : cmpI a b = 0 ↔ a = b := by unfold cmpI; split <;> (try split) <;> omega
theorem cmpP_lt {a b : coalesce_place} : cmpP a b < 0 ↔ a.volume < b.volume ∨ a.volume = b.volume ∧ a.sector < b.sector := by
  have h1 := cmpI_lt (a := a.volume) (b := b.volume)
  have h2 := cmpI_eq (a := a.volume) (b := b.volume)
  have h3 := cmpI_lt (a := a.sector) (b := b.sector)
  unfold cmpP
  split <;> omega
theorem ltP (a b : coalesce_place) : ltOf cmpP a b = decide (a.volume < b.volume ∨ a.volume = b.volume ∧ a.sector < b.sector) := by
  unfold ltOf
  exact decide_eq_decide.2 cmpP_lt
theorem swoP : Sort.SWO (ltOf cmpP) where
  irrefl x := by rw [ltP]; simp
  trans x y z h1 h2 := by rw [ltP] at *; simp only [decide_eq_true_eq] at *; omega
  ntrans x y z h1 h2 := by rw [ltP] at *; simp only [decide_eq_false_iff_not] at *; omega
theorem place_ext {x y : coalesce_place} (h1 : x.volume = y.volume) (h2 : x.sector = y.sector) : x = y := by
  cases x; cases y
  simp only at h1 h2
  subst h1 h2; rfl
theorem cmpP_total : ∀ x y : coalesce_place, ltOf cmpP x y = false → ltOf cmpP y x = false → x = y := fun x y h1 h2 => by
  rw [ltP] at *
  simp only [decide_eq_false_iff_not] at *
  exact place_ext (by omega) (by omega)
theorem ple_total (a b : coalesce_place) : pleB a b = true ∨ pleB b a = true := by unfold pleB; simp only [decide_eq_true_eq]; omega
theorem ple_trans (a b c : coalesce_place) (h : pleB a b = true) (k : pleB b c = true) : pleB a c = true := by unfold pleB at *; simp only [decide_eq_true_eq] at *; omega
theorem ple_anti (a b : coalesce_place) (h : pleB a b = true) (k : pleB b a = true) : a = b := by unfold pleB at *; simp only [decide_eq_true_eq] at *; exact place_ext (by omega) (by omega)
theorem mergeP (l : List coalesce_place) : (l.mergeSort fun x y => !(ltOf cmpP) y x) = sortG pleB l := by
  have e : (fun x y : coalesce_place => !(ltOf cmpP) y x) = pleB := by
    funext x y
    rw [ltP]
    unfold pleB
    by_cases h : y.volume < x.volume ∨ y.volume = x.volume ∧ y.sector < x.sector
    · rw [decide_eq_true h, decide_eq_false (by omega)]; rfl
    · rw [decide_eq_false h, decide_eq_true (by omega)]; rfl
  rw [e]
  exact sortG_of ple_total ple_trans ple_anti (List.mergeSort_perm l _) (List.pairwise_mergeSort (fun a b c h k => ple_trans a b c h k) (fun a b => by have := ple_total a b; simpa using this) l)
theorem mo : Try.prog.follows .mixedOrders = true := by kernel_rfl
theorem ok75 : ct75.Ok Try.prog tab gh := Ct.lift (E := ⟨Try.prog, tab, [], pl75, [], gh, [], []⟩) ⟨tabOk, trivial, mo, trivial, ghUp, trivial⟩ 9 ct75 fun x Φ => by rw [eq75]; exact id
theorem okT75 : ct75.Ok Try.prog tab ghT := Ct.lift (E := ⟨Try.prog, tab, [], pl75, [], ghT, [], []⟩) ⟨tabOk, trivial, mo, trivial, fun _ _ _ _ => trivial, trivial⟩ 9 ct75 fun x Φ => by
  have h : ct75.W x Φ = topF ⟨Try.prog, tab, [], pl75, [], ghT, [], []⟩ 9 ct75.f ct75.ps ct75.rs ct75.own x Φ := by kernel_rfl
  rw [h]; exact id
theorem ok51 : ct51.Ok Try.prog tab gh := Ct.lift (E := ⟨Try.prog, tab, [ct75], pl51, [], gh, [], []⟩) ⟨tabOk, ⟨ok75, trivial⟩, mo, trivial, ghUp, trivial⟩ 9 ct51 fun x Φ => by rw [eq51]; exact id
theorem okT51 : ct51.Ok Try.prog tab ghT := Ct.lift (E := ⟨Try.prog, tab, [ct75], pl51, [], ghT, [], []⟩) ⟨tabOk, ⟨okT75, trivial⟩, mo, trivial, fun _ _ _ _ => trivial, trivial⟩ 9 ct51 fun x Φ => by
  have h : ct51.W x Φ = topF ⟨Try.prog, tab, [ct75], pl51, [], ghT, [], []⟩ 9 ct51.f ct51.ps ct51.rs ct51.own x Φ := by kernel_rfl
  rw [h]; exact id
theorem ok53 : ct53.Ok Try.prog tab gh := Ct.lift (E := ⟨Try.prog, tab, [], pl53, [], gh, [], []⟩) ⟨tabOk, trivial, mo, trivial, ghUp, trivial⟩ 9 ct53 fun x Φ => by rw [eq53]; exact id
theorem ok18 : ct18.Ok Try.prog tab gh := Ct.lift (E := ⟨Try.prog, tab, [ct51, ct53], pl18, [], gh, [], []⟩) ⟨tabOk, ⟨ok51, ok53, trivial⟩, mo, trivial, ghUp, trivial⟩ 9 ct18 fun x Φ => by rw [eq18]; exact id
theorem ok31 : ct31.Ok Try.prog tab gh := Ct.lift (E := ⟨Try.prog, tab, [], pl31, [], gh, [], []⟩) ⟨tabOk, trivial, mo, trivial, ghUp, trivial⟩ 9 ct31 fun x Φ => by rw [eq31]; exact id
theorem ok37 : ct37.Ok Try.prog tab gh := Ct.lift (E := ⟨Try.prog, tab, [], pl37, [], gh, [], []⟩) ⟨tabOk, trivial, mo, trivial, ghUp, trivial⟩ 9 ct37 fun x Φ => by rw [eq37]; exact id
theorem ok12 : ct12.Ok Try.prog tab gh := Ct.lift (E := ⟨Try.prog, tab, [ct18, ct31, ct37], pl12, [], gh, [], []⟩) ⟨tabOk, ⟨ok18, ok31, ok37, trivial⟩, mo, trivial, ghUp, trivial⟩ 9 ct12 fun x Φ => by rw [eq12]; exact id
theorem ok28 : ct28.Ok Try.prog tab gh := Ct.lift (E := ⟨Try.prog, tab, [], pl28, [], gh, [], []⟩) ⟨tabOk, trivial, mo, trivial, ghUp, trivial⟩ 9 ct28 fun x Φ => by rw [eq28]; exact id
theorem ok69 : ct69.Ok Try.prog tab gh := Ct.lift (E := ⟨Try.prog, tab, [ct31], pl69, [], gh, [], []⟩) ⟨tabOk, ⟨ok31, trivial⟩, mo, trivial, ghUp, trivial⟩ 9 ct69 fun x Φ => by rw [eq69]; exact id
theorem ok32 : ct32.Ok Try.prog tab gh := Ct.lift (E := ⟨Try.prog, tab, [ct31, ct69], pl32, [], gh, [], []⟩) ⟨tabOk, ⟨ok31, ok69, trivial⟩, mo, trivial, ghUp, trivial⟩ 9 ct32 fun x Φ => by rw [eq32]; exact id
theorem ok92 : ct92.Ok Try.prog tab gh := Ct.lift (E := ⟨Try.prog, tab, [], pl92, [], gh, [], []⟩) ⟨tabOk, trivial, mo, trivial, ghUp, trivial⟩ 9 ct92 fun x Φ => by rw [eq92]; exact id
theorem okT92 : ct92.Ok Try.prog tab ghT := Ct.lift (E := ⟨Try.prog, tab, [], pl92, [], ghT, [], []⟩) ⟨tabOk, trivial, mo, trivial, fun _ _ _ _ => trivial, trivial⟩ 9 ct92 fun x Φ => by
  have h : ct92.W x Φ = topF ⟨Try.prog, tab, [], pl92, [], ghT, [], []⟩ 9 ct92.f ct92.ps ct92.rs ct92.own x Φ := by kernel_rfl
  rw [h]; exact id
theorem ok81 : ct81.Ok Try.prog tab gh := Ct.lift (E := ⟨Try.prog, tab, [ct92], pl81, [], gh, [], []⟩) ⟨tabOk, ⟨ok92, trivial⟩, mo, trivial, ghUp, trivial⟩ 9 ct81 fun x Φ => by rw [eq81]; exact id
theorem okT81 : ct81.Ok Try.prog tab ghT := Ct.lift (E := ⟨Try.prog, tab, [ct92], pl81, [], ghT, [], []⟩) ⟨tabOk, ⟨okT92, trivial⟩, mo, trivial, fun _ _ _ _ => trivial, trivial⟩ 9 ct81 fun x Φ => by
  have h : ct81.W x Φ = topF ⟨Try.prog, tab, [ct92], pl81, [], ghT, [], []⟩ 9 ct81.f ct81.ps ct81.rs ct81.own x Φ := by kernel_rfl
  rw [h]; exact id
theorem ok60 : ct60.Ok Try.prog tab gh := Ct.lift (E := ⟨Try.prog, tab, [ct51, ct81], pl60, [], gh, [], []⟩) ⟨tabOk, ⟨ok51, ok81, trivial⟩, mo, trivial, ghUp, trivial⟩ 9 ct60 fun x Φ => by rw [eq60]; exact id
theorem okT60 : ct60.Ok Try.prog tab ghT := Ct.lift (E := ⟨Try.prog, tab, [ct51, ct81], pl60, [], ghT, [], []⟩) ⟨tabOk, ⟨okT51, okT81, trivial⟩, mo, trivial, fun _ _ _ _ => trivial, trivial⟩ 9 ct60 fun x Φ => by
  have h : ct60.W x Φ = topF ⟨Try.prog, tab, [ct51, ct81], pl60, [], ghT, [], []⟩ 9 ct60.f ct60.ps ct60.rs ct60.own x Φ := by kernel_rfl
  rw [h]; exact id
theorem ok83 : ct83.Ok Try.prog tab gh := Ct.lift (E := ⟨Try.prog, tab, [], pl83, [], gh, [], []⟩) ⟨tabOk, trivial, mo, trivial, ghUp, trivial⟩ 9 ct83 fun x Φ => by rw [eq83]; exact id
theorem okT83 : ct83.Ok Try.prog tab ghT := Ct.lift (E := ⟨Try.prog, tab, [], pl83, [], ghT, [], []⟩) ⟨tabOk, trivial, mo, trivial, fun _ _ _ _ => trivial, trivial⟩ 9 ct83 fun x Φ => by
  have h : ct83.W x Φ = topF ⟨Try.prog, tab, [], pl83, [], ghT, [], []⟩ 9 ct83.f ct83.ps ct83.rs ct83.own x Φ := by kernel_rfl
  rw [h]; exact id
theorem ok72 : ct72.Ok Try.prog tab gh := Ct.lift (E := ⟨Try.prog, tab, [ct60, ct83], pl72, [], gh, [], []⟩) ⟨tabOk, ⟨ok60, ok83, trivial⟩, mo, trivial, ghUp, trivial⟩ 9 ct72 fun x Φ => by rw [eq72]; exact id
theorem ok74 : ct74.Ok Try.prog tab gh := Ct.lift (E := ⟨Try.prog, tab, [], pl74, [], gh, [], []⟩) ⟨tabOk, trivial, mo, trivial, ghUp, trivial⟩ 9 ct74 fun x Φ => by rw [eq74]; exact id
theorem okT74 : ct74.Ok Try.prog tab ghT := Ct.lift (E := ⟨Try.prog, tab, [], pl74, [], ghT, [], []⟩) ⟨tabOk, trivial, mo, trivial, fun _ _ _ _ => trivial, trivial⟩ 9 ct74 fun x Φ => by
  have h : ct74.W x Φ = topF ⟨Try.prog, tab, [], pl74, [], ghT, [], []⟩ 9 ct74.f ct74.ps ct74.rs ct74.own x Φ := by kernel_rfl
  rw [h]; exact id
theorem ok47 : ct47.Ok Try.prog tab gh := Ct.lift (E := ⟨Try.prog, tab, [ct74], pl47, [], gh, [], []⟩) ⟨tabOk, ⟨ok74, trivial⟩, mo, trivial, ghUp, trivial⟩ 9 ct47 fun x Φ => by rw [eq47]; exact id
theorem ok46 : ct46.Ok Try.prog tab gh := Ct.lift (E := ⟨Try.prog, tab, [ct37, ct47], pl46, [], gh, [], []⟩) ⟨tabOk, ⟨ok37, ok47, trivial⟩, mo, trivial, ghUp, trivial⟩ 9 ct46 fun x Φ => by rw [eq46]; exact id
theorem ok15 : ct15.Ok Try.prog tab gh := Ct.liftD (E := ⟨Try.prog, tab, [ct18, ct31, ct32, ct46, ct47, ct72], pl15, [], gh, [], []⟩) ⟨tabOk, ⟨ok18, ok31, ok32, ok46, ok47, ok72, trivial⟩, mo, trivial, ghUp, trivial⟩ 9 ct15 fun x Φ => by rw [eq15]; exact id
theorem ok76 : ct76.Ok Try.prog tab gh := Ct.lift (E := ⟨Try.prog, tab, [], pl76, [], gh, [], []⟩) ⟨tabOk, trivial, mo, trivial, ghUp, trivial⟩ 9 ct76 fun x Φ => by rw [eq76]; exact id
theorem itok77 : it77.Ok Try.prog gh := It.lift (E := ⟨Try.prog, tab, [], pl77, [], gh, [], []⟩) ⟨tabOk, trivial, mo, trivial, ghUp, trivial⟩ it77 fun x l => by rw [eqi77]; exact id
theorem ok78 : ct78.Ok Try.prog tab gh := Ct.lift (E := ⟨Try.prog, tab, [], pl78, [], gh, [], []⟩) ⟨tabOk, trivial, mo, trivial, ghUp, trivial⟩ 9 ct78 fun x Φ => by rw [eq78]; exact id
theorem ok88 : ct88.Ok Try.prog tab gh := Ct.lift (E := ⟨Try.prog, tab, [], pl88, [], gh, [], []⟩) ⟨tabOk, trivial, mo, trivial, ghUp, trivial⟩ 9 ct88 fun x Φ => by rw [eq88]; exact id
theorem ok112 : ct112.Ok Try.prog tab gh := Ct.lift (E := ⟨Try.prog, tab, [], pl112, [], gh, [], []⟩) ⟨tabOk, trivial, mo, trivial, ghUp, trivial⟩ 9 ct112 fun x Φ => by rw [eq112]; exact id
theorem ok99 : ct99.Ok Try.prog tab gh := Ct.lift (E := ⟨Try.prog, tab, [ct112], pl99, [], gh, [], []⟩) ⟨tabOk, ⟨ok112, trivial⟩, mo, trivial, ghUp, trivial⟩ 9 ct99 fun x Φ => by rw [eq99]; exact id
theorem ok98 : ct98.Ok Try.prog tab gh := Ct.lift (E := ⟨Try.prog, tab, [], pl98, [], gh, [], []⟩) ⟨tabOk, trivial, mo, trivial, ghUp, trivial⟩ 9 ct98 fun x Φ => by rw [eq98]; exact id
theorem ok90 : ct90.Ok Try.prog tab gh := Ct.lift (E := ⟨Try.prog, tab, [ct98, ct99], pl90, [], gh, [], []⟩) ⟨tabOk, ⟨ok98, ok99, trivial⟩, mo, trivial, ghUp, trivial⟩ 9 ct90 fun x Φ => by rw [eq90]; exact id
def Try.layP_ren : Go.Shelf.Ren := ⟨fun | 6 => 89 | 15 => 97 | 14 => 96 | 28 => 110 | 29 => 111 | 20 => 102 | 21 => 103 | 22 => 104 | 23 => 105 | 24 => 106 | 25 => 107 | 26 => 108 | 27 => 109 | 46 => 113 | 47 => 114 | 48 => 115 | 49 => 116 | 50 => 117 | 57 => 118 | n => n, fun | 22 => 138 | 24 => 136 | 25 => 140 | 3 => 3 | 39 => 145 | 0 => 0 | 53 => 153 | 55 => 156 | 4 => 4 | 46 => 161 | 45 => 160 | 50 => 165 | 5 => 5 | 9 => 9 | 66 => 169 | 70 => 173 | 76 => 175 | 77 => 176 | n => n, fun | n => n⟩
theorem Try.layP : Go.Proofs.SlLaysF0.n6 Try.prog Try.layP_ren := {
  mixed := by kernel_rfl
  f6 := ⟨Try.f89.name, by decide, Try.func89.trans (congrArg some (by kernel_rfl))⟩
  f14 := ⟨Try.f96.name, by decide, Try.func96.trans (congrArg some (by kernel_rfl))⟩
  f15 := Try.func97.trans (congrArg some (by kernel_rfl))
  f20 := ⟨Try.f102.name, by decide, Try.func102.trans (congrArg some (by kernel_rfl))⟩
  f21 := ⟨Try.f103.name, by decide, Try.func103.trans (congrArg some (by kernel_rfl))⟩
  f22 := ⟨Try.f104.name, by decide, Try.func104.trans (congrArg some (by kernel_rfl))⟩
  f23 := ⟨Try.f105.name, by decide, Try.func105.trans (congrArg some (by kernel_rfl))⟩
  f24 := ⟨Try.f106.name, by decide, Try.func106.trans (congrArg some (by kernel_rfl))⟩
  f25 := ⟨Try.f107.name, by decide, Try.func107.trans (congrArg some (by kernel_rfl))⟩
  f26 := ⟨Try.f108.name, by decide, Try.func108.trans (congrArg some (by kernel_rfl))⟩
  f27 := ⟨Try.f109.name, by decide, Try.func109.trans (congrArg some (by kernel_rfl))⟩
  f28 := Try.func110.trans (congrArg some (by kernel_rfl))
  f29 := Try.func111.trans (congrArg some (by kernel_rfl))
  f46 := ⟨Try.f113.name, by decide, Try.func113.trans (congrArg some (by kernel_rfl))⟩
  f47 := Try.func114.trans (congrArg some (by kernel_rfl))
  f48 := Try.func115.trans (congrArg some (by kernel_rfl))
  f49 := ⟨Try.f116.name, by decide, Try.func116.trans (congrArg some (by kernel_rfl))⟩
  f50 := ⟨Try.f117.name, by decide, Try.func117.trans (congrArg some (by kernel_rfl))⟩
  f57 := ⟨Try.f118.name, by decide, Try.func118.trans (congrArg some (by kernel_rfl))⟩
  t0 := Try.underlying0
  a0 := Try.isAgg0
  z0 := Try.sizeOf0
  v0 := Try.zeroValue0
  t3 := Try.underlying3
  a3 := Try.isAgg3
  z3 := Try.sizeOf3
  v3 := Try.zeroValue3
  t4 := Try.underlying4
  a4 := Try.isAgg4
  z4 := Try.sizeOf4
  v4 := Try.zeroValue4
  t5 := Try.underlying5
  a5 := Try.isAgg5
  z5 := Try.sizeOf5
  v5 := Try.zeroValue5
  t9 := Try.underlying9
  a9 := Try.isAgg9
  z9 := Try.sizeOf9
  v9 := Try.zeroValue9
  t22 := Try.underlying138
  a22 := Try.isAgg138
  z22 := Try.sizeOf138
  v22 := Try.zeroValue138
  t25 := Try.underlying140
  a25 := Try.isAgg140
  z25 := Try.sizeOf140
  v25 := Try.zeroValue140
  t39 := Try.underlying145
  a39 := Try.isAgg145
  z39 := Try.sizeOf145
  v39 := Try.zeroValue145
  t45 := Try.underlying160
  a45 := Try.isAgg160
  z45 := Try.sizeOf160
  v45 := Try.zeroValue160
  t46 := Try.underlying161
  a46 := Try.isAgg161
  z46 := Try.sizeOf161
  v46 := Try.zeroValue161
  t50 := Try.underlying165
  a50 := Try.isAgg165
  z50 := Try.sizeOf165
  v50 := Try.zeroValue165
  t53 := Try.underlying153
  a53 := Try.isAgg153
  z53 := Try.sizeOf153
  v53 := Try.zeroValue153
  t55 := Try.underlying156
  a55 := Try.isAgg156
  z55 := Try.sizeOf156
  v55 := Try.zeroValue156
  t66 := Try.underlying169
  a66 := Try.isAgg169
  z66 := Try.sizeOf169
  v66 := Try.zeroValue169
  t70 := Try.underlying173
  a70 := Try.isAgg173
  z70 := Try.sizeOf173
  v70 := Try.zeroValue173
  t76 := Try.underlying175
  a76 := Try.isAgg175
  z76 := Try.sizeOf175
  v76 := Try.zeroValue175
  t77 := Try.underlying176
  a77 := Try.isAgg176
  z77 := Try.sizeOf176
  v77 := Try.zeroValue176 }
theorem pk136 (v : Value) (cs : List Value) : PkR Try.prog 136 v cs = (v = .agg cs.toArray) := by kernel_rfl
def encP (x : coalesce_place) : List Value := [.int .i64 x.volume, .int .i64 x.sector]
theorem place_calls {H : Hp} (hG : gh H) (x y : coalesce_place) (W : World) (hag : ∀ b o, H b = some o → W.heap[b]? = some o) : Calls Try.prog 90 #[.agg (encP x).toArray, .agg (encP y).toArray] W fun e w' => e = .returned (.int .i64 (cmpP x y)) ∧ ∃ q os, w' = Sort.grow (W.drewN q) os := by
  refine (ok90 (x, y, ()) (fun v => v.1 = cmpP x y) (before_ok x y) H [.agg (encP x).toArray, .agg (encP y).toArray] hG ⟨_, encP x, _, rfl, by rw [pk136], rfl, _, encP y, _, rfl, by rw [pk136], rfl, rfl⟩ W hag).mono fun e w' ⟨v, H', L', h1, hM, y', hy, hr⟩ => ?_
  obtain ⟨ρ, _, _, _, _, h2, _⟩ := hr 0 (fun _ => none) (fun _ _ => rfl) _ _ _ (show resE Try.prog tab ct90.rs ct90.own y' 0 = some (.i .i64 y'.1, [], 0) by kernel_rfl)
  have h2 : v = .int .i64 y'.1 := h2
  exact ⟨by rw [h1, h2, hy], hM.below.grow⟩
set_option maxRecDepth 100000 in
theorem tnh89 {xs : List coalesce_place} {Φ : List coalesce_place → Prop} (hlen : xs.length ≤ 1099511627776) (hW : Φ (sortG pleB xs)) {H : Hp} {w : World} {base : Nat} {v : Value} {n : Nat} {s : List Value} (hG : gh H) (hag : ∀ b o, H b = some o → w.heap[b]? = some o) (hap : ∀ b, v.ownBlock = some b → H b = none) (ho : w.ownsRow base 136 2 v n s) (hn : n = xs.length) (hd : DtL (α := coalesce_place) H s xs) : Calls Try.prog 89 (v :: fnVs [90]).toArray w fun e w' => e = .returned (.tuple #[]) ∧ ∃ (ys : List coalesce_place) (s' : List Value), Φ ys ∧ DtL (α := coalesce_place) H s' ys ∧ ys.length = xs.length ∧ w.grownBy w' v.ownBlock ∧ w.drawn ≤ w'.drawn ∧ w'.ownsRow base 136 2 v n s' := by
  have hs := hd.enc (enc := encP) fun _ _ _ h => h
  have hk : ∀ x : coalesce_place, (encP x).length = 2 := fun _ => rfl
  have none : ∀ p cap, v = .slice p 0 cap → n = 0 → Calls Try.prog 89 (v :: fnVs [90]).toArray w fun e w' => e = .returned (.tuple #[]) ∧ ∃ (ys : List coalesce_place) (s' : List Value), Φ ys ∧ DtL (α := coalesce_place) H s' ys ∧ ys.length = xs.length ∧ w.grownBy w' v.ownBlock ∧ w.drawn ≤ w'.drawn ∧ w'.ownsRow base 136 2 v n s' := by
    intro p cap hv h0
    have hx : xs = [] := List.eq_nil_of_length_eq_zero (hn.symm.trans h0)
    have hc := AnyF.slices_SortFunc_none (P := Try.prog) (ρ := Try.layP_ren) { Try.layP with } p cap (.func (.func 90) #[] #[]) w
    change Calls Try.prog 89 _ _ _ at hc
    rw [hv]
    refine hc.mono fun e w' ⟨h2, h3⟩ => ⟨h2, xs, s, ?_, hd, rfl, ?_, ?_, ?_⟩
    · rw [hx] at hW ⊢; exact hW
    · rw [h3]; exact ⟨rfl, rfl, rfl, Nat.le_refl _, fun _ _ _ => rfl⟩
    · rw [h3]; exact Nat.le_refl _
    · rw [h3, ← hv]; exact ho
  obtain ⟨_, ⟨hv, h0⟩ | ⟨b, cap, cur, hv, _⟩⟩ := id ho
  · exact none _ _ hv h0
  · subst hv
    haveI : Inhabited coalesce_place := ⟨⟨0, 0⟩⟩
    have hfl : (Sort.flatK encP 2 xs.toArray).toList = s := by rw [flatK_list hk, hs]
    obtain ⟨hH, hb⟩ := owns_holds (enc := id) (d := Sort.flatK encP 2 xs.toArray) ho (by rw [List.map_id_fun, hfl]; rfl)
    have hgH : H b = Option.none := hap b rfl
    have eg : ∀ args w, (callFunc 90 args).run Try.prog w = .ok (.enter 90 args) w := enters_of Try.func90 (by kernel_rfl) rfl
    have hcmp : CmpLays Try.prog 90 #[] encP 2 cmpP b 0 xs.toArray.size w := fun m os dk _ p q => by
      refine place_calls hG p q _ fun b' o hbo => ?_
      have h1 := hag b' o hbo
      have hne : b' ≠ b := by rintro rfl; rw [hgH] at hbo; cases hbo
      exact (sorted_old id 0 m (Sort.flatK encP 2 dk) os (lt_of_heap h1) hne).trans h1
    have ht : TyAgg Try.prog 136 2 := agOf_ok (by kernel_rfl)
    obtain ⟨⟨ds, t1, t2⟩, ⟨ti, t3, t4⟩⟩ := ht
    have hc := AnyQ.slices_SortFunc_total Try.layP 2 (fun w => (run_isAgg t1 w).trans (by rw [t2])) (fun w => (run_sizeOf t3 w).trans (by rw [t4])) encP hk (fun x u hu => by simp only [encP, List.mem_cons, List.not_mem_nil, or_false] at hu; rcases hu with rfl | rfl <;> rfl) cmpP swoP 90 #[] b 0 cap xs.toArray w eg hcmp hH hb (by rw [List.size_toArray]; omega) cmpP_total
    change Calls Try.prog 89 _ _ _ at hc
    rw [List.size_toArray, ← hn] at hc
    refine hc.mono fun e w' ⟨h2, m, os, h3⟩ => ?_
    rw [mergeP] at h3
    refine ⟨h2, sortG pleB xs, (sortG pleB xs).flatMap encP, hW, DtL.ofEnc (fun _ _ => rfl) _, (sortG_perm pleB xs).length_eq, ?_, ?_, ?_⟩
    · rw [h3]; exact sorted_grown id 0 m (Sort.flatK encP 2 (sortG pleB xs).toArray) os
    · rw [h3]; exact Nat.le_add_right _ _
    · rw [h3]
      have := sorted_owns id m (Sort.flatK encP 2 (sortG pleB xs).toArray) os ho (by rw [Sort.size_flatK, List.size_toArray, (sortG_perm pleB xs).length_eq, hn])
      rw [List.map_id_fun, id, flatK_list hk] at this
      exact this
theorem tnok89 : tn89.Ok Try.prog gh := fun _ _ hW _ _ _ _ _ _ hG hag hap ho hn hd => tnh89 hW.1 hW.2 hG hag hap ho hn hd
theorem ok57 : ct57.Ok Try.prog tab gh := Ct.lift (E := ⟨Try.prog, tab, [ct78, ct88], pl57, [], gh, [tn89], [([11, 0, 1, 1, 1, 1, 1, 1, 1, 12, 0, 1, 1], 0), ([16, 2, 1, 0, 1, 4, 0, 1, 1, 5, 4, 1, 0, 1, 1, 1, 1, 1, 1, 12, 0, 1, 1], 94002), ([17, 2, 1, 0, 1, 4, 0, 1, 1, 5, 4, 1, 0, 1, 1, 1, 1, 1, 1, 12, 0, 1, 1], 0)]⟩) ⟨tabOk, ⟨ok78, ok88, trivial⟩, mo, trivial, ghUp, ⟨tnok89, trivial⟩⟩ 9 ct57 fun x Φ => by rw [eq57]; exact id
theorem ok59 : ct59.Ok Try.prog tab gh := Ct.lift (E := ⟨Try.prog, tab, [ct31, ct47], pl59, [it77], gh, [], []⟩) ⟨tabOk, ⟨ok31, ok47, trivial⟩, mo, ⟨itok77, trivial⟩, ghUp, trivial⟩ 9 ct59 fun x Φ => by rw [eq59]; exact id
theorem ok20 : ct20.Ok Try.prog tab gh := Ct.liftD (E := ⟨Try.prog, tab, [ct18, ct31, ct32, ct37, ct57, ct59, ct72, ct76], pl20, [it77], gh, [], []⟩) ⟨tabOk, ⟨ok18, ok31, ok32, ok37, ok57, ok59, ok72, ok76, trivial⟩, mo, ⟨itok77, trivial⟩, ghUp, trivial⟩ 9 ct20 fun x Φ => by rw [eq20]; exact id
theorem ok73 : ct73.Ok Try.prog tab gh := Ct.lift (E := ⟨Try.prog, tab, [], pl73, [], gh, [], []⟩) ⟨tabOk, trivial, mo, trivial, ghUp, trivial⟩ 9 ct73 fun x Φ => by rw [eq73]; exact id
theorem ok40 : ct40.Ok Try.prog tab gh := Ct.lift (E := ⟨Try.prog, tab, [ct73], pl40, [], gh, [], []⟩) ⟨tabOk, ⟨ok73, trivial⟩, mo, trivial, ghUp, trivial⟩ 9 ct40 fun x Φ => by rw [eq40]; exact id
theorem ok29 : ct29.Ok Try.prog tab gh := Ct.lift (E := ⟨Try.prog, tab, [ct40], pl29, [], gh, [], []⟩) ⟨tabOk, ⟨ok40, trivial⟩, mo, trivial, ghUp, trivial⟩ 9 ct29 fun x Φ => by rw [eq29]; exact id
theorem ok101 : ct101.Ok Try.prog tab gh := Ct.lift (E := ⟨Try.prog, tab, [], pl101, [], gh, [], []⟩) ⟨tabOk, trivial, mo, trivial, ghUp, trivial⟩ 9 ct101 fun x Φ => by rw [eq101]; exact id
theorem ok94 : ct94.Ok Try.prog tab gh := Ct.lift (E := ⟨Try.prog, tab, [ct101], pl94, [], gh, [], []⟩) ⟨tabOk, ⟨ok101, trivial⟩, mo, trivial, ghUp, trivial⟩ 9 ct94 fun x Φ => by rw [eq94]; exact id
theorem ok85 : ct85.Ok Try.prog tab gh := Ct.lift (E := ⟨Try.prog, tab, [ct94], pl85, [], gh, [], []⟩) ⟨tabOk, ⟨ok94, trivial⟩, mo, trivial, ghUp, trivial⟩ 9 ct85 fun x Φ => by rw [eq85]; exact id
theorem ok66 : ct66.Ok Try.prog tab gh := Ct.lift (E := ⟨Try.prog, tab, [ct85], pl66, [], gh, [], []⟩) ⟨tabOk, ⟨ok85, trivial⟩, mo, trivial, ghUp, trivial⟩ 9 ct66 fun x Φ => by rw [eq66]; exact id
theorem ok33 : ct33.Ok Try.prog tab gh := Ct.lift (E := ⟨Try.prog, tab, [ct18, ct72], pl33, [], gh, [], []⟩) ⟨tabOk, ⟨ok18, ok72, trivial⟩, mo, trivial, ghUp, trivial⟩ 9 ct33 fun x Φ => by rw [eq33]; exact id
theorem ok9 : ct9.Ok Try.prog tab gh := Ct.lift (E := ⟨Try.prog, tab, [ct18, ct31, ct32, ct33], pl9, [], gh, [], []⟩) ⟨tabOk, ⟨ok18, ok31, ok32, ok33, trivial⟩, mo, trivial, ghUp, trivial⟩ 9 ct9 fun x Φ => by rw [eq9]; exact id
theorem ok86 : ct86.Ok Try.prog tab gh := Ct.lift (E := ⟨Try.prog, tab, [], pl86, [], gh, [], [([19, 2, 1, 1, 0, 1, 1, 11, 0, 1, 1, 1], 0)]⟩) ⟨tabOk, trivial, mo, trivial, ghUp, trivial⟩ 9 ct86 fun x Φ => by rw [eq86]; exact id
theorem ok67 : ct67.Ok Try.prog tab gh := Ct.lift (E := ⟨Try.prog, tab, [ct78, ct86, ct88], pl67, [], gh, [tn89], [([11, 0, 1, 1, 1, 1, 1, 1, 1, 15, 0, 1, 1], 0), ([16, 2, 1, 0, 1, 4, 0, 1, 1, 5, 4, 1, 0, 1, 1, 1, 1, 1, 1, 15, 0, 1, 1], 94002), ([17, 2, 1, 0, 1, 4, 0, 1, 1, 5, 4, 1, 0, 1, 1, 1, 1, 1, 1, 15, 0, 1, 1], 0)]⟩) ⟨tabOk, ⟨ok78, ok86, ok88, trivial⟩, mo, trivial, ghUp, ⟨tnok89, trivial⟩⟩ 9 ct67 fun x Φ => by rw [eq67]; exact id
theorem ok26 : ct26.Ok Try.prog tab gh := Ct.lift (E := ⟨Try.prog, tab, [ct9, ct37, ct66, ct67], pl26, [], gh, [], []⟩) ⟨tabOk, ⟨ok9, ok37, ok66, ok67, trivial⟩, mo, trivial, ghUp, trivial⟩ 9 ct26 fun x Φ => by rw [eq26]; exact id
theorem ok7 : ct7.Ok Try.prog tab gh := Ct.lift (E := ⟨Try.prog, tab, [ct12, ct15, ct20, ct26, ct28, ct29], pl7, [], gh, [], []⟩) ⟨tabOk, ⟨ok12, ok15, ok20, ok26, ok28, ok29, trivial⟩, mo, trivial, ghUp, trivial⟩ 9 ct7 fun x Φ => by rw [eq7]; exact id
theorem ok30 : ct30.Ok Try.prog tab gh := Ct.lift (E := ⟨Try.prog, tab, [], pl30, [], gh, [], []⟩) ⟨tabOk, trivial, mo, trivial, ghUp, trivial⟩ 9 ct30 fun x Φ => by rw [eq30]; exact id
theorem ok8 : ct8.Ok Try.prog tab gh := Ct.lift (E := ⟨Try.prog, tab, [ct30], pl8, [], gh, [], []⟩) ⟨tabOk, ⟨ok30, trivial⟩, mo, trivial, ghUp, trivial⟩ 9 ct8 fun x Φ => by rw [eq8]; exact id
theorem ok25 : ct25.Ok Try.prog tab gh := Ct.lift (E := ⟨Try.prog, tab, [], pl25, [], gh, [], []⟩) ⟨tabOk, trivial, mo, trivial, ghUp, trivial⟩ 9 ct25 fun x Φ => by rw [eq25]; exact id
theorem pk49 (v : Value) (cs : List Value) : PkR Try.prog 49 v cs = (cs = [v]) := by kernel_rfl
theorem image_Check_lift {H : Hp} (x0 : List (List Sec)) {A1 : Option Addr} {n1 c1 : Nat} {s1 : List Value} (hF1 : Fz (α := List Sec) H A1 n1 c1 x0 s1) {Φ : Int → Prop} (hm : image_Check_W x0 Φ) : RetP Try.prog 60 #[.slice A1 n1 c1] H (fun _ v L => ∃ y, Φ y ∧ v = .int .i64 (y) ∧ L = []) := by
  refine RetP.mono (okT60 (x0, ()) (fun y => Φ y.1) hm H [.slice A1 n1 c1] trivial ⟨_, [.slice A1 n1 c1], _, rfl, by rw [pk49], (show Dt.rd (α := List (List Sec)) H _ _ from ⟨A1, n1, c1, s1, rfl, hF1⟩), rfl⟩) fun H' v L _ ⟨y, hy, hr⟩ => ?_
  obtain ⟨ρ, _, _, _, _, h1, h2⟩ := hr 0 (fun _ => none) (fun _ _ => rfl) _ _ _ (show resE Try.prog tab _ _ y 0 = some (.i .i64 y.1, [], 0) by kernel_rfl)
  exact ⟨y.1, hy, h1, h2⟩
theorem pk34 (v : Value) (cs : List Value) : PkR Try.prog 34 v cs = (cs = [v]) := by kernel_rfl
theorem slices_Clone_api_Sector_api_Sector_lift {H : Hp} (x0 : List Sec) {A1 : Option Addr} {n1 c1 : Nat} {s1 : List Value} (hF1 : Fz (α := Sec) H A1 n1 c1 x0 s1) {Φ : List Sec → Prop} (hm : Z10 x0 Φ) : RetP Try.prog 74 #[.slice A1 n1 c1] H (fun H' v L => ∃ y, Φ y ∧ ∃ A12, ∃ n12, ∃ c12, ∃ s12, v = .slice A12 n12 c12 ∧ DtL (α := Sec) H' s12 y ∧ n12 = y.length ∧ L = [.row (.slice A12 n12 c12) 94 8 n12 s12]) := by
  refine RetP.mono (okT74 (x0, ()) (fun y => Φ y.1) hm H [.slice A1 n1 c1] trivial ⟨_, [.slice A1 n1 c1], _, rfl, by rw [pk34], (show Dt.rd (α := List Sec) H _ _ from ⟨A1, n1, c1, s1, rfl, hF1⟩), rfl⟩) fun H' v L _ ⟨y, hy, hr⟩ => ?_
  obtain ⟨ρ, _, _, _, _, h1, h2⟩ := hr 0 (fun _ => none) (fun _ _ => rfl) _ _ _ (show resE Try.prog tab _ _ y 0 = some (.own 0, [(0, .row 94 y.1)], 1) by kernel_rfl)
  obtain ⟨A, n, c, e1, rfl⟩ := h1
  obtain ⟨S, L', rfl, ⟨A', n', c', s, e2, rfl, e3, e4⟩, e5⟩ := h2
  obtain rfl : L' = [] := e5
  rw [e1] at e2; cases e2
  exact ⟨y.1, hy, A, n, c, s, rfl, e3, e4, rfl⟩
theorem image_mappedE_lift {H : Hp} (x0 : List (List Sec)) {A1 : Option Addr} {n1 c1 : Nat} {s1 : List Value} (hF1 : Fz (α := List Sec) H A1 n1 c1 x0 s1) {Φ : List (List Sec) → Prop} (hm : Z73 x0 Φ) : RetP Try.prog 93 #[.slice A1 n1 c1, .func (.func 74) #[] #[]] H (fun H' v L => ∃ y, Φ y ∧ ∃ A45, ∃ n45, ∃ c45, ∃ s45, ∃ rs46, v = .slice A45 n45 c45 ∧ DeepL (α := List Sec) [94] H' s45 y rs46 ∧ n45 = y.length ∧ L = .row (.slice A45 n45 c45) 34 1 n45 s45 :: rs46) := by
 refine RetP.of_code Try.func93 rfl (nb rfl) fun w0 hM => ?_
 refine CW.sr <| RW.st (Ex.assign (.slice none 0 0) rfl) rfl <| RW.nil <| CW.sr <| RW.st (Ex.move (.slice A1 n1 c1) rfl) rfl <| RW.st (Ex.lenN st48.1 rfl hF1.hn) rfl ?_
 obtain ⟨hg8, hm⟩ := hm
 obtain ⟨hg9, hm⟩ := hm
 refine RW.makeE (α := List Sec) hM st48 tz34 rfl rfl hg8 hg9 rfl rfl ?_; intro b2 n3 c4 s5 w hd6 hn7 hM
 refine RW.st (Ex.assign (.slice (some ⟨b2, 0, none⟩) n3 c4) rfl) rfl <| RW.nil <| CW.seq <| CW.sr <| RW.st (Ex.move (.slice A1 n1 c1) rfl) rfl <| RW.st (Ex.lenN st48.1 rfl hF1.hn) rfl <| RW.st (Ex.move (.int .i64 0) rfl) rfl <| RW.nil <| CW.block ?_
 obtain ⟨m44, hm⟩ := hm
 skip
 refine CW.loop (β := Nat) (fun n σ w => ∃ (v12 : List (List Sec)), ∃ (A13 : Option Addr), ∃ (n14 : Nat), ∃ (c15 : Nat), ∃ (s16 : List Value), ∃ (rs17 : List Ent), ∃ (v20 : Int), ∃ Hk10, H.le Hk10 ∧ (∃ τ, σ = sl [(1, .func (.func 74) #[] #[]), (5, .slice A13 n14 c15), (11, .slice A1 n1 c1), (12, .int .i64 ((x0.length : Int))), (13, .int .i64 v20)] τ) ∧ Mem w0 H w Hk10 (.row (.slice A13 n14 c15) 34 1 n14 s16 :: rs17) ∧ (DeepL (α := List Sec) [94] Hk10 s16 v12 rs17) ∧ (n14 = v12.length) ∧ LoopN (Z72 x0 Φ) n (v12, v20)) (fun n => n) m44 ⟨([] : List (List Sec)), (some ⟨b2, 0, none⟩), n3, c4, s5, [], 0, H, (Hp.le.refl _), sl_canon ⟨rfl, rfl, rfl, rfl, rfl, trivial⟩, hM, (DeepL.ofNil (Ts := [94]) hd6), hn7, hm⟩ ?_
 rintro k21 _ w ⟨v12, A13, n14, c15, s16, rs17, v20, Hk10, hle11, ⟨τ, rfl⟩, hM, hd18, hn19, hm⟩
 obtain _ | k21 := k21
 · exact hm.elim
 replace hm : (Z72 x0 Φ) (v12, v20) (LoopN (Z72 x0 Φ) k21) := hm
 generalize hrec22 : LoopN (Z72 x0 Φ) k21 = rec1 at hm
 refine CW.sr <| RW.st (Ex.lss rfl rfl) rfl <| RW.nil <| CW.seq ?_
 refine CW.cond_dec (p := v20 < (x0.length : Int)) rfl (fun hc23 => ?_) (fun hc23 => ?_)
 ·
  replace hm := And.left hm hc23
  refine CW.skip <| CW.seq <| CW.block <| CW.sr ?_
  obtain ⟨hg24, hm⟩ := hm
  refine RW.st (Ex.index st48 rfl rfl v20.toNat (hF1.ne hg24) hg24.nat (hF1.lt hg24)) rfl ?_
  obtain ⟨_, ⟨A25, n25, c25, s25, rfl, hF25⟩, hx26⟩ := DtL.getI (α := List Sec) (hF1.mono hle11).dat hg24
  refine RW.st (Ex.loadE hM hle11 hF1.rdc to34 rfl (hx26 0 _ rfl)) rfl <| RW.st (Ex.assign (.slice A25 n25 c25) rfl) rfl <| RW.nil <| CW.region <| RW.st (Ex.move (.slice A13 n14 c15) rfl) rfl <| RW.st (Ex.move (.func (.func 74) #[] #[]) rfl) rfl <| RW.st (Ex.move (.slice A25 n25 c25) rfl) rfl ?_
  refine RW.callP hM (slices_Clone_api_Sector_api_Sector_lift (ix x0 v20) hF25 hm) en74 rfl rfl rfl rfl ?_; rintro _ w H28 _ hle29 ⟨v27, hm, A30, n30, c30, s30, rfl, hd31, hn32, rfl⟩ hM
  refine RW.buildSlice hM st48 tz34 [(0, .slice A30 n30 c30)] [.slice A30 n30 c30] (by decide) rfl rfl rfl (by decide) rfl rfl ?_; intro b33 w hM
  obtain ⟨hg39, hm⟩ := hm
  refine RW.appendH (α := List Sec) (xs := v12) (x0 := v27) hM 2 st48 rfl rfl hn19 rfl (fun j u hj => hM.rowCell (k := 0) rfl rfl hj) rfl (oneAll ⟨rfl, trivial⟩) hg39 rfl rfl ?_; intro A35 n36 c37 w hn38 hM
  obtain ⟨s40, rs41, hd42, hM⟩ := Mem.adopt (α := List Sec) (Ts := [94]) (x := v27) [.row (.slice (some ⟨b33, 0, none⟩) 1 1) 34 1 1 [.slice A30 n30 c30], .row (.slice A35 n36 c37) 34 1 n36 (s16 ++ [.slice A30 n30 c30])] (Mem.pickT (L1 := [.row (.slice (some ⟨b33, 0, none⟩) 1 1) 34 1 1 [.slice A30 n30 c30], .row (.slice A30 n30 c30) 94 8 n30 s30, .row (.slice A35 n36 c37) 34 1 n36 (s16 ++ [.slice A30 n30 c30])]) (T := rs17) hM [1, 0, 2] rfl rfl) 1 rfl (hd18.mono hle29) ⟨A30, n30, c30, s30, rfl, rfl, hd31, hn32⟩
  replace hM : Mem w0 H w H28 (.row (.slice A35 n36 c37) 34 1 n36 s40 :: rs41) := Mem.pickT (L1 := [.row (.slice (some ⟨b33, 0, none⟩) 1 1) 34 1 1 [.slice A30 n30 c30], .row (.slice A35 n36 c37) 34 1 n36 s40]) (T := rs41) hM [1] rfl rfl
  refine RW.st (Ex.assign (.slice A35 n36 c37) rfl) rfl <| RW.nil <| CW.region ?_
  obtain ⟨hg43, hm⟩ := hm
  refine RW.st (Ex.add rfl rfl hg43.1 hg43.2) rfl <| RW.st (Ex.move (.int .i64 (v20 + 1)) rfl) rfl <| RW.nil ?_
  exact And.intro rfl ⟨k21, ⟨(v12 ++ [v27]), A35, n36, c37, s40, rs41, v20 + 1, H28, hle11.trans hle29, sl_canon ⟨rfl, rfl, rfl, rfl, rfl, trivial⟩, hM, hd42, hn38, (by rw [hrec22]; exact hm)⟩, Nat.lt_succ_self _⟩
 ·
  replace hm := And.right hm hc23
  refine CW.exit ?_
  refine CW.sr <| RW.st (Ex.move (.slice A13 n14 c15) rfl) rfl <| RW.st (Ex.assign (.slice A13 n14 c15) rfl) rfl <| RW.nil <| CW.ret ?_
  refine end_tmp (.inl rfl) rfl (.slice A13 n14 c15) rfl ?_
  exact ⟨_, _, hM, v12, hm, A13, n14, c15, s16, rs17, rfl, hd18, hn19, rfl⟩
theorem image_copiedE_lift {H : Hp} (x0 : List (List Sec)) {A1 : Option Addr} {n1 c1 : Nat} {s1 : List Value} (hF1 : Fz (α := List Sec) H A1 n1 c1 x0 s1) {Φ : List (List Sec) → Prop} (hm : Z74 x0 Φ) : RetP Try.prog 82 #[.slice A1 n1 c1] H (fun H' v L => ∃ y, Φ y ∧ ∃ A9, ∃ n9, ∃ c9, ∃ s9, ∃ rs10, v = .slice A9 n9 c9 ∧ DeepL (α := List Sec) [94] H' s9 y rs10 ∧ n9 = y.length ∧ L = .row (.slice A9 n9 c9) 34 1 n9 s9 :: rs10) := by
 refine RetP.of_code Try.func82 rfl (nb rfl) fun w0 hM => ?_
 refine CW.sr <| RW.st (Ex.assign (.slice none 0 0) rfl) rfl <| RW.nil <| CW.sr <| RW.st (Ex.move (.slice A1 n1 c1) rfl) rfl ?_
 refine RW.callP hM (image_mappedE_lift x0 hF1 hm) en93 rfl rfl rfl rfl ?_; rintro _ w H3 _ hle4 ⟨v2, hm, A5, n5, c5, s5, rs6, rfl, hd7, hn8, rfl⟩ hM
 replace hM := Mem.toTail (a := [.row (.slice A5 n5 c5) 34 1 n5 s5]) (b := rs6) (c := []) hM
 refine RW.st (Ex.assign (.slice A5 n5 c5) rfl) rfl <| RW.nil <| CW.ret ?_
 refine end_tmp (.inl rfl) rfl (.slice A5 n5 c5) rfl ?_
 exact ⟨_, _, hM, v2, hm, A5, n5, c5, s5, rs6, rfl, hd7, hn8, rfl⟩
theorem pk36 (v : Value) (cs : List Value) : PkR Try.prog 36 v cs = (v = .agg cs.toArray) := by kernel_rfl
theorem image_fits_lift {H : Hp} (x0 : List (List Sec)) (x1 : api_Write) {A1 : Option Addr} {n1 c1 : Nat} {s1 : List Value} (hF1 : Fz (α := List Sec) H A1 n1 c1 x0 s1) {A2 : Option Addr} {n2 c2 : Nat} {s2 : List Value} (hF2 : Fz (α := Sec) H A2 n2 c2 x1.Data s2) {Φ : Int → Prop} (hm : image_fits_W x0 x1 Φ) : RetP Try.prog 83 #[.slice A1 n1 c1, .agg #[.int .i64 (x1.Volume), .int .i64 (x1.Start), .slice A2 n2 c2]] H (fun _ v L => ∃ y, Φ y ∧ v = .int .i64 (y) ∧ L = []) := by
  refine RetP.mono (okT83 (x0, x1, ()) (fun y => Φ y.1) hm H [.slice A1 n1 c1, .agg #[.int .i64 (x1.Volume), .int .i64 (x1.Start), .slice A2 n2 c2]] trivial ⟨_, [.slice A1 n1 c1], _, rfl, by rw [pk49], (show Dt.rd (α := List (List Sec)) H _ _ from ⟨A1, n1, c1, s1, rfl, hF1⟩), ⟨_, [.int .i64 (x1.Volume), .int .i64 (x1.Start), .slice A2 n2 c2], _, rfl, by rw [pk36], (show Dt.rd (α := api_Write) H _ _ from ⟨A2, n2, c2, s2, rfl, hF2⟩), rfl⟩⟩) fun H' v L _ ⟨y, hy, hr⟩ => ?_
  obtain ⟨ρ, _, _, _, _, h1, h2⟩ := hr 0 (fun _ => none) (fun _ _ => rfl) _ _ _ (show resE Try.prog tab _ _ y 0 = some (.i .i64 y.1, [], 0) by kernel_rfl)
  exact ⟨y.1, hy, h1, h2⟩
theorem image_Apply_lift {H : Hp} (x0 : List (List Sec)) (x1 : List api_Write) {A1 : Option Addr} {n1 c1 : Nat} {s1 : List Value} (hF1 : Fz (α := List Sec) H A1 n1 c1 x0 s1) {A2 : Option Addr} {n2 c2 : Nat} {s2 : List Value} (hF2 : Fz (α := api_Write) H A2 n2 c2 x1 s2) {Φ : List (List Sec) × Int × Int → Prop} (hm : image_Apply_W x0 x1 Φ) : RetP Try.prog 61 #[.slice A1 n1 c1, .slice A2 n2 c2] H (fun H' v L => ∃ y, Φ y ∧ ∃ A89, ∃ n89, ∃ c89, ∃ s89, ∃ rs90, v = .tuple #[.slice A89 n89 c89, .int .i64 (y.2.1), .int .i64 (y.2.2)] ∧ DeepL (α := List Sec) [94] H' s89 y.1 rs90 ∧ n89 = y.1.length ∧ L = .row (.slice A89 n89 c89) 34 1 n89 s89 :: rs90) := by
 refine RetP.of_code Try.func61 rfl (nb rfl) fun w0 hM => ?_
 refine CW.sr <| RW.st (Ex.assign (.slice none 0 0) rfl) rfl <| RW.st (Ex.assign (.int .i64 0) rfl) rfl <| RW.st (Ex.assign (.int .i64 0) rfl) rfl <| RW.nil <| CW.seq <| CW.sr <| RW.st (Ex.move (.slice A1 n1 c1) rfl) rfl ?_
 refine RW.callP hM (image_Check_lift x0 hF1 hm) en60 rfl rfl rfl rfl ?_; rintro _ w H4 _ hle5 ⟨v3, hm, rfl, rfl⟩ hM
 refine RW.st (Ex.assign (.int .i64 v3) rfl) rfl <| RW.nil <| CW.sr <| RW.st (Ex.move (.int .i64 v3) rfl) rfl <| RW.st (Ex.neq rfl rfl) rfl <| RW.nil ?_
 refine CW.cond_dec (p := v3 ≠ 0) rfl (fun hc6 => ?_) (fun hc6 => ?_)
 ·
  replace hm := And.left hm hc6
  refine CW.sr <| RW.st (Ex.move (.int .i64 v3) rfl) rfl <| RW.st (Ex.assign (.slice none 0 0) rfl) rfl <| RW.st (Ex.assign (.int .i64 0) rfl) rfl <| RW.st (Ex.assign (.int .i64 v3) rfl) rfl <| RW.nil <| CW.ret ?_
  refine thenQ_ret ?_
  refine end_tmp3 (.inl rfl) rfl (.slice none 0 0) (.int .i64 0) (.int .i64 v3) rfl rfl rfl ?_
  replace hM := hM.nilRow 34 1
  exact ⟨_, _, hM, (([] : List (List Sec)), 0, v3), hm, none, 0, 0, [], [], rfl, (DeepL.nil : DeepL (α := List Sec) [94] H4 [] [] []), rfl, rfl⟩
 ·
  replace hm := And.right hm hc6
  refine CW.skip <| CW.sr <| RW.st (Ex.move (.slice A1 n1 c1) rfl) rfl ?_
  refine RW.callP hM (image_copiedE_lift x0 (hF1.mono hle5) hm) en82 rfl rfl rfl rfl ?_; rintro _ w H8 _ hle9 ⟨v7, hm, A10, n10, c10, s10, rs11, rfl, hd12, hn13, rfl⟩ hM
  replace hM := Mem.toTail (a := [.row (.slice A10 n10 c10) 34 1 n10 s10]) (b := rs11) (c := []) hM
  refine RW.st (Ex.assign (.slice A10 n10 c10) rfl) rfl <| RW.nil <| CW.seq <| CW.sr <| RW.st (Ex.move (.slice A2 n2 c2) rfl) rfl <| RW.st (Ex.lenN st23.1 rfl hF2.hn) rfl <| RW.st (Ex.move (.int .i64 0) rfl) rfl <| RW.nil <| CW.block ?_
  obtain ⟨m88, hm⟩ := hm
  skip
  refine CW.loop (β := Nat) (fun n σ w => ∃ (v16 : List (List Sec)), ∃ (A17 : Option Addr), ∃ (n18 : Nat), ∃ (c19 : Nat), ∃ (s20 : List Value), ∃ (rs21 : List Ent), ∃ (v24 : Int), ∃ Hk14, H8.le Hk14 ∧ (∃ τ, σ = sl [(8, .slice A17 n18 c19), (19, .slice A2 n2 c2), (20, .int .i64 ((x1.length : Int))), (21, .int .i64 v24)] τ) ∧ Mem w0 H w Hk14 (.row (.slice A17 n18 c19) 34 1 n18 s20 :: rs21) ∧ (DeepL (α := List Sec) [94] Hk14 s20 v16 rs21) ∧ (n18 = v16.length) ∧ LoopN (Z75 x1 Φ) n (v16, v24)) (fun n => n) m88 ⟨v7, A10, n10, c10, s10, rs11, 0, H8, (Hp.le.refl _), sl_canon ⟨rfl, rfl, rfl, rfl, trivial⟩, hM, hd12, hn13, hm⟩ ?_
  rintro k25 _ w ⟨v16, A17, n18, c19, s20, rs21, v24, Hk14, hle15, ⟨τ, rfl⟩, hM, hd22, hn23, hm⟩
  obtain _ | k25 := k25
  · exact hm.elim
  replace hm : (Z75 x1 Φ) (v16, v24) (LoopN (Z75 x1 Φ) k25) := hm
  generalize hrec26 : LoopN (Z75 x1 Φ) k25 = rec1 at hm
  refine CW.sr <| RW.st (Ex.lss rfl rfl) rfl <| RW.nil <| CW.seq ?_
  refine CW.cond_dec (p := v24 < (x1.length : Int)) rfl (fun hc27 => ?_) (fun hc27 => ?_)
  ·
   replace hm := And.left hm hc27
   refine CW.skip <| CW.seq <| CW.block <| CW.sr <| RW.st (Ex.move (.int .i64 v24) rfl) rfl ?_
   obtain ⟨hg28, hm⟩ := hm
   refine RW.st (Ex.index st23 rfl rfl v24.toNat (hF2.ne hg28) hg28.nat (hF2.lt hg28)) rfl ?_
   obtain ⟨_, ⟨A29, n29, c29, s29, rfl, hF29⟩, hx30⟩ := DtL.getI (α := api_Write) (hF2.mono ((hle5.trans hle9).trans hle15)).dat hg28
   refine RW.st (Ex.loadEA hM ((hle5.trans hle9).trans hle15) hF2.rdc [.int .i64 ((ix x1 v24).Volume), .int .i64 ((ix x1 v24).Start), .slice A29 n29 c29] ta36 rfl (hF2.ne hg28) rfl (chunk_sub (off := 0) (n := 3) hx30 rfl)) rfl ?_
   refine RW.alloc hM tz36 [.int .i64 0, .int .i64 0, .slice none 0 0] rfl rfl rfl ?_; intro b31 w hM
   refine RW.st (Ex.assign (.int .i64 v24) rfl) rfl ?_
   refine RW.store hM 0 (.agg #[.int .i64 ((ix x1 v24).Volume), .int .i64 ((ix x1 v24).Start), .slice A29 n29 c29]) [.int .i64 ((ix x1 v24).Volume), .int .i64 ((ix x1 v24).Start), .slice A29 n29 c29] [.int .i64 ((ix x1 v24).Volume), .int .i64 ((ix x1 v24).Start), .slice A29 n29 c29] sz36 rfl rfl rfl (oneAll ⟨rfl, rfl, rfl, trivial⟩) rfl (nb rfl) rfl (.box b31 36 [.int .i64 ((ix x1 v24).Volume), .int .i64 ((ix x1 v24).Start), .slice A29 n29 c29] :: .row (.slice A17 n18 c19) 34 1 n18 s20 :: rs21) rfl rfl rfl ?_; intro w hM
   refine RW.nil <| CW.seq <| CW.sr <| RW.st (Ex.move (.slice A17 n18 c19) rfl) rfl <| RW.st (Ex.loadA hM 0 [.int .i64 ((ix x1 v24).Volume), .int .i64 ((ix x1 v24).Start), .slice A29 n29 c29] ta36 rfl rfl rfl rfl) rfl ?_
   have hM1 := hM
   obtain ⟨H32, hM, hle33, hd34⟩ := DeepL.flat (es := [.box b31 36 [.int .i64 ((ix x1 v24).Volume), .int .i64 ((ix x1 v24).Start), .slice A29 n29 c29], .row (.slice A17 n18 c19) 34 1 n18 s20]) hM hd22
   obtain ⟨H35, hM, hle36, hF37⟩ := hM.giveF (α := List Sec) 1 rfl hd34 hn23
   refine RW.callB hM1 hM (image_fits_lift v16 (ix x1 v24) hF37 (hF29.mono (hle33.trans hle36)) hm) en83 rfl rfl rfl rfl ?_; clear hM hM1; intro v38 w hm hM
   refine RW.st (Ex.assign (.int .i64 v38) rfl) rfl <| RW.nil <| CW.sr <| RW.st (Ex.move (.int .i64 v38) rfl) rfl <| RW.st (Ex.neq rfl rfl) rfl <| RW.nil ?_
   refine CW.cond_dec (p := v38 ≠ 0) rfl (fun hc41 => ?_) (fun hc41 => ?_)
   ·
    replace hm := And.left hm hc41
    refine CW.sr <| RW.st (Ex.move (.int .i64 v24) rfl) rfl <| RW.st (Ex.move (.int .i64 v38) rfl) rfl <| RW.st (Ex.assign (.slice none 0 0) rfl) rfl <| RW.st (Ex.assign (.int .i64 v24) rfl) rfl <| RW.st (Ex.assign (.int .i64 v38) rfl) rfl <| RW.nil <| CW.ret ?_
    refine thenQ_ret (blockQ_ret (thenQ_ret (thenQ_ret (blockQ_ret (thenQ_ret ?_)))))
    refine end_tmp3 (.inl rfl) rfl (.slice none 0 0) (.int .i64 v24) (.int .i64 v38) rfl rfl rfl ?_
    replace hM := hM.nilRow 34 1
    exact ⟨_, _, ((Mem.dropT (L1 := [.row (.slice none 0 0) 34 1 0 [], .box b31 36 [.int .i64 ((ix x1 v24).Volume), .int .i64 ((ix x1 v24).Start), .slice A29 n29 c29], .row (.slice A17 n18 c19) 34 1 n18 s20]) (T := rs21) hM).pick [0] rfl rfl), (([] : List (List Sec)), v24, v38), hm, none, 0, 0, [], [], rfl, (DeepL.nil : DeepL (α := List Sec) [94] Hk14 [] [] []), rfl, rfl⟩
   ·
    replace hm := And.right hm hc41
    refine CW.skip ?_
    obtain ⟨hg42, hm⟩ := hm
    obtain ⟨c44, _, c45, _, rs46, rfl, ⟨A43, n43, c43, s43, rfl, rfl, hF43, hn48⟩, hh47, hM⟩ := Mem.focus [.box b31 36 [.int .i64 ((ix x1 v24).Volume), .int .i64 ((ix x1 v24).Start), .slice A29 n29 c29], .row (.slice A17 n18 c19) 34 1 n18 s20] hM hd22 hg42
    have hx49 := Hole.get (ch := [.slice A43 n43 c43]) hh47
    obtain ⟨hg55, hm⟩ := hm
    refine CW.drawL 10 [] [(fun Hq us E => us = [.slice A17 n18 c19] ∧ E = [] ∧ True), (fun Hq us E => us = [.pointer (some ⟨b31, 0, none⟩)] ∧ E = [] ∧ True), (fun Hq us E => us = [.int .i64 ((ix x1 v24).Volume)] ∧ E = [] ∧ True), (fun Hq us E => us = [elp A17 ((((ix x1 v24).Volume).toNat) * 1 + 0)] ∧ E = [] ∧ True), (fun Hq us E => us = [.slice A43 n43 c43] ∧ E = [] ∧ True), (fun Hq us E => us = [.pointer (some ⟨b31, 1, none⟩)] ∧ E = [] ∧ True), (fun Hq us E => us = [.int .i64 ((ix x1 v24).Start)] ∧ E = [] ∧ True), (fun Hq us E => ∃ (A56 : Option Addr), ∃ (n57 : Nat), ∃ (c58 : Nat), us = [.slice A56 n57 c58] ∧ E = [] ∧ View A43 n43 c43 8 ((ix x1 v24).Start) A56 n57 c58 ∧ True), (fun Hq us E => us = [.pointer (some ⟨b31, 2, none⟩)] ∧ E = [] ∧ True), (fun Hq us E => us = [.slice A29 n29 c29] ∧ E = [] ∧ True)]
     (fun k => [[0], [1], [2], [3], [4], [5], [6], [7], [8], [9]].getD k []) (fun _ => none) (by kernel_rfl) hM (by kernel_rfl) (by kernel_rfl) (by kernel_rfl) rfl (by simp only [List.forall_mem_cons]; exact ⟨fun _ _ _ _ hle ⟨e1, e2, _⟩ => ⟨e1, e2, trivial⟩, fun _ _ _ _ hle ⟨e1, e2, _⟩ => ⟨e1, e2, trivial⟩, fun _ _ _ _ hle ⟨e1, e2, _⟩ => ⟨e1, e2, trivial⟩, fun _ _ _ _ hle ⟨e1, e2, _⟩ => ⟨e1, e2, trivial⟩, fun _ _ _ _ hle ⟨e1, e2, _⟩ => ⟨e1, e2, trivial⟩, fun _ _ _ _ hle ⟨e1, e2, _⟩ => ⟨e1, e2, trivial⟩, fun _ _ _ _ hle ⟨e1, e2, _⟩ => ⟨e1, e2, trivial⟩, fun _ _ _ _ hle ⟨A56, n57, c58, e1, e2, hV59, _⟩ => ⟨A56, n57, c58, e1, e2, hV59, trivial⟩, fun _ _ _ _ hle ⟨e1, e2, _⟩ => ⟨e1, e2, trivial⟩, fun _ _ _ _ hle ⟨e1, e2, _⟩ => ⟨e1, e2, trivial⟩, by simp⟩) ⟨?_, ?_, ?_, ?_, ?_, ?_, ?_, ?_, ?_, ?_, trivial⟩ ?_
    ·
     intro H' σ' w R E hle hMR hE0 hE hp hf
     obtain rfl := hE0 rfl
     obtain ⟨τ, rfl⟩ := sl_canon (σ := σ') (l := [(8, .slice A17 n18 c19)]) ⟨(hf 8 (by kernel_rfl)).trans rfl, trivial⟩
     have hM := Mem.subR (R := R) hMR
     exact RW.step (Ex.move (.slice A17 n18 c19) rfl) rfl rfl rfl (RW.nil ⟨rfl, rfl, _, rfl, H', [], Hp.le.refl _, hMR, rfl, rfl, trivial⟩)
    ·
     intro H' σ' w R E hle hMR hE0 hE hp hf
     obtain rfl := hE0 rfl
     obtain ⟨τ, rfl⟩ := sl_canon (σ := σ') (l := [(10, .pointer (some ⟨b31, 0, none⟩))]) ⟨(hf 10 (by kernel_rfl)).trans rfl, trivial⟩
     have hM := Mem.subR (R := R) hMR
     exact RW.step (Ex.fieldAddr fa36_0 rfl) rfl rfl rfl (RW.nil ⟨rfl, rfl, _, rfl, H', [], Hp.le.refl _, hMR, rfl, rfl, trivial⟩)
    ·
     intro H' σ' w R E hle hMR hE0 hE hp hf
     obtain rfl := hE0 rfl
     obtain ⟨_, hg⟩ := hp 1 (by decide) (by kernel_rfl)
     obtain ⟨e60, _, _⟩ := hg.get rfl
     have e61 : σ' 34 = .pointer (some ⟨b31, 0, none⟩) := (List.cons.inj e60).1
     obtain ⟨τ, rfl⟩ := sl_canon (σ := σ') (l := [(34, .pointer (some ⟨b31, 0, none⟩))]) ⟨e61, trivial⟩
     have hM := Mem.subR (R := R) hMR
     exact RW.step (Ex.load1 hM 1 to3 rfl rfl rfl) rfl rfl rfl (RW.nil ⟨rfl, rfl, _, rfl, H', [], Hp.le.refl _, hMR, rfl, rfl, trivial⟩)
    ·
     intro H' σ' w R E hle hMR hE0 hE hp hf
     obtain rfl := hE0 rfl
     obtain ⟨_, hg⟩ := hp 0 (by decide) (by kernel_rfl)
     obtain ⟨e62, _, _⟩ := hg.get rfl
     have e63 : σ' 33 = .slice A17 n18 c19 := (List.cons.inj e62).1
     obtain ⟨_, hg⟩ := hp 2 (by decide) (by kernel_rfl)
     obtain ⟨e64, _, _⟩ := hg.get rfl
     have e65 : σ' 35 = .int .i64 ((ix x1 v24).Volume) := (List.cons.inj e64).1
     obtain ⟨τ, rfl⟩ := sl_canon (σ := σ') (l := [(33, .slice A17 n18 c19), (35, .int .i64 ((ix x1 v24).Volume))]) ⟨e63, e65, trivial⟩
     have hM := Mem.subR (R := R) hMR
     exact RW.step (Ex.index st49 rfl rfl (((ix x1 v24).Volume).toNat) (hM.rowNeD (α := List Sec) (p := 2) rfl hn23 hg42) hg42.nat (Nat.lt_of_lt_of_eq hg42.lt (hn23).symm)) rfl rfl rfl (RW.nil ⟨rfl, rfl, _, rfl, H', [], Hp.le.refl _, hMR, rfl, rfl, trivial⟩)
    ·
     intro H' σ' w R E hle hMR hE0 hE hp hf
     obtain rfl := hE0 rfl
     obtain ⟨_, hg⟩ := hp 3 (by decide) (by kernel_rfl)
     obtain ⟨e66, _, _⟩ := hg.get rfl
     have e67 : σ' 36 = elp A17 ((((ix x1 v24).Volume).toNat) * 1 + 0) := (List.cons.inj e66).1
     obtain ⟨τ, rfl⟩ := sl_canon (σ := σ') (l := [(36, elp A17 ((((ix x1 v24).Volume).toNat) * 1 + 0))]) ⟨e67, trivial⟩
     have hM := Mem.subR (R := R) hMR
     exact RW.step (Ex.loadR hM 2 rfl to34 (hM.rowNeD (α := List Sec) (p := 2) rfl hn23 hg42) rfl (hx49 0 _ rfl)) rfl rfl rfl (RW.nil ⟨rfl, rfl, _, rfl, H', [], Hp.le.refl _, hMR, rfl, rfl, trivial⟩)
    ·
     intro H' σ' w R E hle hMR hE0 hE hp hf
     obtain rfl := hE0 rfl
     obtain ⟨τ, rfl⟩ := sl_canon (σ := σ') (l := [(10, .pointer (some ⟨b31, 0, none⟩))]) ⟨(hf 10 (by kernel_rfl)).trans rfl, trivial⟩
     have hM := Mem.subR (R := R) hMR
     exact RW.step (Ex.fieldAddr fa36_1 rfl) rfl rfl rfl (RW.nil ⟨rfl, rfl, _, rfl, H', [], Hp.le.refl _, hMR, rfl, rfl, trivial⟩)
    ·
     intro H' σ' w R E hle hMR hE0 hE hp hf
     obtain rfl := hE0 rfl
     obtain ⟨_, hg⟩ := hp 5 (by decide) (by kernel_rfl)
     obtain ⟨e68, _, _⟩ := hg.get rfl
     have e69 : σ' 38 = .pointer (some ⟨b31, 1, none⟩) := (List.cons.inj e68).1
     obtain ⟨τ, rfl⟩ := sl_canon (σ := σ') (l := [(38, .pointer (some ⟨b31, 1, none⟩))]) ⟨e69, trivial⟩
     have hM := Mem.subR (R := R) hMR
     exact RW.step (Ex.load1 hM 1 to3 rfl rfl rfl) rfl rfl rfl (RW.nil ⟨rfl, rfl, _, rfl, H', [], Hp.le.refl _, hMR, rfl, rfl, trivial⟩)
    ·
     intro H' σ' w R E hle hMR hE0 hE hp hf
     obtain rfl := hE0 rfl
     obtain ⟨_, hg⟩ := hp 4 (by decide) (by kernel_rfl)
     obtain ⟨e70, _, _⟩ := hg.get rfl
     have e71 : σ' 37 = .slice A43 n43 c43 := (List.cons.inj e70).1
     obtain ⟨_, hg⟩ := hp 6 (by decide) (by kernel_rfl)
     obtain ⟨e72, _, _⟩ := hg.get rfl
     have e73 : σ' 39 = .int .i64 ((ix x1 v24).Start) := (List.cons.inj e72).1
     obtain ⟨τ, rfl⟩ := sl_canon (σ := σ') (l := [(37, .slice A43 n43 c43), (39, .int .i64 ((ix x1 v24).Start))]) ⟨e71, e73, trivial⟩
     have hM := Mem.subR (R := R) hMR
     refine RW.sliceLo st34 rfl rfl hn48 hg55 rfl rfl ?_; intro A56 n57 c58 hV59
     exact RW.nil ⟨rfl, rfl, _, rfl, H', [], Hp.le.refl _, hMR, A56, n57, c58, rfl, rfl, hV59, trivial⟩
    ·
     intro H' σ' w R E hle hMR hE0 hE hp hf
     obtain rfl := hE0 rfl
     obtain ⟨τ, rfl⟩ := sl_canon (σ := σ') (l := [(10, .pointer (some ⟨b31, 0, none⟩))]) ⟨(hf 10 (by kernel_rfl)).trans rfl, trivial⟩
     have hM := Mem.subR (R := R) hMR
     exact RW.step (Ex.fieldAddr fa36_2 rfl) rfl rfl rfl (RW.nil ⟨rfl, rfl, _, rfl, H', [], Hp.le.refl _, hMR, rfl, rfl, trivial⟩)
    ·
     intro H' σ' w R E hle hMR hE0 hE hp hf
     obtain rfl := hE0 rfl
     obtain ⟨_, hg⟩ := hp 8 (by decide) (by kernel_rfl)
     obtain ⟨e74, _, _⟩ := hg.get rfl
     have e75 : σ' 41 = .pointer (some ⟨b31, 2, none⟩) := (List.cons.inj e74).1
     obtain ⟨τ, rfl⟩ := sl_canon (σ := σ') (l := [(41, .pointer (some ⟨b31, 2, none⟩))]) ⟨e75, trivial⟩
     have hM := Mem.subR (R := R) hMR
     exact RW.step (Ex.load1 hM 1 to34 rfl rfl rfl) rfl rfl rfl (RW.nil ⟨rfl, rfl, _, rfl, H', [], Hp.le.refl _, hMR, rfl, rfl, trivial⟩)
    ·
     intro HR8 σ' w X miss hms hleR hM hX hX0 hf
     simp [subs] at hms
     rcases hms with rfl
     ·
      obtain ⟨H76, hH8⟩ : ∃ x, x = HR8 := ⟨_, rfl⟩
      subst hH8
      have hle77 := hleR
      obtain ⟨_, g0, y0⟩ := hX 0 (by decide) (by kernel_rfl)
      obtain ⟨_, rfl, _⟩ := g0.get rfl
      replace y0 : X 0 = [] := y0
      obtain ⟨_, g0, y1⟩ := hX 1 (by decide) (by kernel_rfl)
      obtain ⟨_, rfl, _⟩ := g0.get rfl
      replace y1 : X 1 = [] := y1
      obtain ⟨_, g0, y2⟩ := hX 2 (by decide) (by kernel_rfl)
      obtain ⟨_, rfl, _⟩ := g0.get rfl
      replace y2 : X 2 = [] := y2
      obtain ⟨_, g0, y3⟩ := hX 3 (by decide) (by kernel_rfl)
      obtain ⟨_, rfl, _⟩ := g0.get rfl
      replace y3 : X 3 = [] := y3
      obtain ⟨_, g0, y4⟩ := hX 4 (by decide) (by kernel_rfl)
      obtain ⟨_, rfl, _⟩ := g0.get rfl
      replace y4 : X 4 = [] := y4
      obtain ⟨_, g0, y5⟩ := hX 5 (by decide) (by kernel_rfl)
      obtain ⟨_, rfl, _⟩ := g0.get rfl
      replace y5 : X 5 = [] := y5
      obtain ⟨_, g0, y6⟩ := hX 6 (by decide) (by kernel_rfl)
      obtain ⟨_, rfl, _⟩ := g0.get rfl
      replace y6 : X 6 = [] := y6
      obtain ⟨_, g0, y7⟩ := hX 7 (by decide) (by kernel_rfl)
      obtain ⟨A56, n57, c58, e78, rfl, hV59, _⟩ := g0.get rfl
      have e79 : σ' 40 = .slice A56 n57 c58 := (List.cons.inj e78).1
      replace y7 : X 7 = [] := y7
      obtain ⟨_, g0, y8⟩ := hX 8 (by decide) (by kernel_rfl)
      obtain ⟨_, rfl, _⟩ := g0.get rfl
      replace y8 : X 8 = [] := y8
      obtain ⟨_, g0, y9⟩ := hX 9 (by decide) (by kernel_rfl)
      obtain ⟨e80, rfl, _⟩ := g0.get rfl
      have e81 : σ' 42 = .slice A29 n29 c29 := (List.cons.inj e80).1
      replace y9 : X 9 = [] := y9
      have hfl : flatX X 10 = [] := by
       show X 0 ++ (X 1 ++ (X 2 ++ (X 3 ++ (X 4 ++ (X 5 ++ (X 6 ++ (X 7 ++ (X 8 ++ (X 9 ++ []))))))))) = _
       rw [y0, y1, y2, y3, y4, y5, y6, y7, y8, y9]; rfl
      rw [hfl] at hM
      obtain ⟨τ, rfl⟩ := sl_canon (σ := σ') (l := [(8, .slice A17 n18 c19), (19, .slice A2 n2 c2), (20, .int .i64 ((x1.length : Int))), (21, .int .i64 v24), (40, .slice A56 n57 c58), (42, .slice A29 n29 c29)]) ⟨(hf 8 (by kernel_rfl)).trans rfl, (hf 19 (by kernel_rfl)).trans rfl, (hf 20 (by kernel_rfl)).trans rfl, (hf 21 (by kernel_rfl)).trans rfl, e79, e81, trivial⟩
      change RA _ _ _ _ _ _ _ (sl [(8, .slice A17 n18 c19), (19, .slice A2 n2 c2), (20, .int .i64 ((x1.length : Int))), (21, .int .i64 v24), (40, .slice A56 n57 c58), (42, .slice A29 n29 c29)] τ) _ 11 _
      refine RA.step [10] (by kernel_rfl) rfl ⟨⟨_, rfl, ?_⟩, trivial⟩
      refine RW.copyV (α := Sec) (xs := (ix v16 ((ix x1 v24).Volume))) (ys := (ix x1 v24).Data) hM 0 st34 rfl hV59 rfl (hF43.mono hle77) hn48 hg55 rfl hle77 hF29 rfl rfl ?_; intro s82 w hd83 hM
      refine RW.nil ?_
      refine And.intro rfl ?_
      refine RA.done (by kernel_rfl) ?_
      refine CW.region ?_
      obtain ⟨hg84, hm⟩ := hm
      refine RW.st (Ex.add rfl rfl hg84.1 hg84.2) rfl <| RW.st (Ex.move (.int .i64 (v24 + 1)) rfl) rfl <| RW.nil ?_
      obtain ⟨s85, rs86, hd87, hM⟩ := Mem.unfocus (α := List Sec) (Ts := [94]) (x := (paste (ix v16 ((ix x1 v24).Volume)) ((ix x1 v24).Start) ((ix x1 v24).Data))) [.box b31 36 [.int .i64 ((ix x1 v24).Volume), .int .i64 ((ix x1 v24).Start), .slice A29 n29 c29], .row (.slice A17 n18 c19) 34 1 n18 (c44 ++ ([.slice A43 n43 c43] ++ c45))] hM 1 rfl (hh47.mono hle77) ⟨A43, n43, c43, s82, rfl, rfl, hd83, (hn48).trans (paste_len hg55).symm⟩
      exact And.intro rfl ⟨k25, ⟨(put v16 ((ix x1 v24).Volume) (paste (ix v16 ((ix x1 v24).Volume)) ((ix x1 v24).Start) ((ix x1 v24).Data))), A17, n18, c19, s85, rs86, v24 + 1, H76, hle15.trans hle77, sl_canon ⟨rfl, rfl, rfl, rfl, trivial⟩, (Mem.pickT (L1 := [.box b31 36 [.int .i64 ((ix x1 v24).Volume), .int .i64 ((ix x1 v24).Start), .slice A29 n29 c29], .row (.slice A17 n18 c19) 34 1 n18 s85]) (T := rs86) hM [1] rfl rfl), hd87, (hn23).trans (put_len _ _ _).symm, (by rw [hrec26]; exact hm)⟩, Nat.lt_succ_self _⟩
  ·
   replace hm := And.right hm hc27
   refine CW.exit ?_
   refine CW.sr <| RW.st (Ex.move (.slice A17 n18 c19) rfl) rfl <| RW.st (Ex.assign (.slice A17 n18 c19) rfl) rfl <| RW.st (Ex.assign (.int .i64 0) rfl) rfl <| RW.st (Ex.assign (.int .i64 0) rfl) rfl <| RW.nil <| CW.ret ?_
   refine end_tmp3 (.inl rfl) rfl (.slice A17 n18 c19) (.int .i64 0) (.int .i64 0) rfl rfl rfl ?_
   exact ⟨_, _, hM, (v16, 0, 0), hm, A17, n18, c19, s20, rs21, rfl, hd22, hn23, rfl⟩
theorem pk23 (v : Value) (cs : List Value) : PkR Try.prog 23 v cs = (cs = [v]) := by kernel_rfl
set_option maxRecDepth 100000 in
theorem ok61 : ct61.Ok Try.prog tab gh := by
  intro x Φ hW H vs _ hA
  obtain ⟨v0, k0, q0, rfl, p0, r0, v1, k1, q1, rfl, p1, r1, hq⟩ := hA
  obtain rfl : q1 = [] := hq
  rw [pk49] at p0
  subst p0
  obtain ⟨A0, n0, c0, s0, e0, hF0⟩ := (show Dt.rd (α := List (List Sec)) H _ _ from r0)
  obtain rfl := (List.cons.inj e0).1
  rw [pk23] at p1
  subst p1
  obtain ⟨A1, n1, c1, s1, e1, hF1⟩ := (show Dt.rd (α := List api_Write) H _ _ from r1)
  obtain rfl := (List.cons.inj e1).1
  have hW : image_Apply_W x.1 x.2.1 (fun y => Φ (y.1, y.2.1, y.2.2, ())) := hW
  intro w hw
  refine (image_Apply_lift x.1 x.2.1 hF0 hF1 hW w hw).mono fun e w' ⟨v, H', L', h1, hM, y, hy, A, n, c, s, rs, hv, hd, hn, hL⟩ => ?_
  subst hL
  obtain ⟨H2, g1, g2, g3⟩ := DeepL.flat (es := [_]) hM hd
  refine ⟨v, H2, _, h1, g1, _, hy, fun nx ρ0 hn0 s' b m hre => ?_⟩
  rw [show resE Try.prog tab ct61.rs ct61.own (y.1, y.2.1, y.2.2, ()) nx = some (.tup [.own nx, .i .i64 y.2.1, .i .i64 y.2.2], [(nx, .row 34 y.1)], nx + 1) by kernel_rfl] at hre
  cases hre
  obtain ⟨f1, f2⟩ := fresh_put hn0 (.r A n c)
  exact ⟨ρ0.put nx (.r A n c), f1, Nat.le_succ _, f2, fun id hid => RM.put_ne _ _ (Nat.ne_of_lt hid), ⟨_, hv, _, _, rfl, ⟨A, n, c, RM.put_same _ _ _, rfl⟩, _, _, rfl, rfl, _, _, rfl, rfl, rfl⟩, _, _, rfl, ⟨A, n, c, s, RM.put_same _ _ _, rfl, g3, hn⟩, rfl⟩
theorem ok21 : ct21.Ok Try.prog tab gh := Ct.lift (E := ⟨Try.prog, tab, [ct9, ct60, ct61], pl21, [], gh, [], []⟩) ⟨tabOk, ⟨ok9, ok60, ok61, trivial⟩, mo, trivial, ghUp, trivial⟩ 9 ct21 fun x Φ => by rw [eq21]; exact id
theorem ok65 : ct65.Ok Try.prog tab gh := Ct.lift (E := ⟨Try.prog, tab, [], pl65, [], gh, [], []⟩) ⟨tabOk, trivial, mo, trivial, ghUp, trivial⟩ 9 ct65 fun x Φ => by rw [eq65]; exact id
theorem ok24 : ct24.Ok Try.prog tab gh := Ct.lift (E := ⟨Try.prog, tab, [ct65], pl24, [], gh, [], []⟩) ⟨tabOk, ⟨ok65, trivial⟩, mo, trivial, ghUp, trivial⟩ 9 ct24 fun x Φ => by rw [eq24]; exact id
theorem ok27 : ct27.Ok Try.prog tab gh := Ct.lift (E := ⟨Try.prog, tab, [], pl27, [], gh, [], []⟩) ⟨tabOk, trivial, mo, trivial, ghUp, trivial⟩ 9 ct27 fun x Φ => by rw [eq27]; exact id
theorem ok6 : ct6.Ok Try.prog tab gh := Ct.lift (E := ⟨Try.prog, tab, [ct7, ct8, ct21, ct24, ct25, ct26, ct27], pl6, [], gh, [], []⟩) ⟨tabOk, ⟨ok7, ok8, ok21, ok24, ok25, ok26, ok27, trivial⟩, mo, trivial, ghUp, trivial⟩ 9 ct6 fun x Φ => by rw [eq6]; exact id
section
theorem iI {x : Int} (h1 : -9223372036854775808 ≤ x) (h2 : x ≤ 9223372036854775807) : inI x := ⟨h1, h2⟩
theorem iX {i : Int} {n : Nat} (h1 : 0 ≤ i) (h2 : i < (n : Int)) : inX i n := ⟨h1, h2⟩
theorem iS {a b : Int} {n : Nat} (h1 : 0 ≤ a) (h2 : a ≤ b) (h3 : b ≤ (n : Int)) : inS a b n := ⟨h1, h2, h3⟩
theorem iL {n b : Nat} (h : n ≤ 1000000) (hb : b ≤ 1000000) : lenOk n b := by
  have := Nat.mul_le_mul h hb
  refine ⟨by omega, ?_⟩
  simp only [maxLen]
  omega
section
variable {α : Type} [Dt α]
theorem ix_get {xs : List α} {k : Nat} (h : k < xs.length) : ix xs (k : Int) = xs[k] := by
  show xs.getD k default = _
  rw [List.getD_eq_getElem?_getD, List.getElem?_eq_getElem h]; rfl
theorem take_ix {xs : List α} {k : Nat} (h : k < xs.length) : xs.take (k + 1) = xs.take k ++ [ix xs (k : Int)] := by
  rw [ix_get h]; exact (List.take_append_getElem h).symm
theorem ix_mem {xs : List α} {i : Int} (h : inX i xs.length) : ix xs i ∈ xs := by
  have e := h.nat
  have hl := h.lt
  rw [e, ix_get hl]
  exact List.getElem_mem hl
theorem ext_ix {xs ys : List α} (hl : xs.length = ys.length) (h : ∀ k : Nat, k < xs.length → ix xs (k : Int) = ix ys (k : Int)) : xs = ys := by
  apply List.ext_getElem hl
  intro k h1 h2
  have := h k h1
  rwa [ix_get h1, ix_get h2] at this
end
section
variable {A : Type}
def firstN (f : Nat → Int) : Nat → Int
  | 0 => 0
  | n + 1 => if firstN f n ≠ 0 then firstN f n else f n
theorem firstN_hit {f : Nat → Int} : ∀ {n k : Nat}, k < n → (∀ j, j < k → f j = 0) → f k ≠ 0 → firstN f n = f k
  | 0, _, hk, _, _ => by omega
  | n + 1, k, hk, h0, h1 => by
    unfold firstN
    rcases Nat.lt_or_ge k n with h | h
    · rw [firstN_hit h h0 h1, if_pos h1]
    · have e : k = n := by omega
      subst e
      have : firstN f k = 0 := by
        clear h1 hk h
        induction k with
        | zero => rfl
        | succ k ih => unfold firstN; rw [ih fun j hj => h0 j (by omega), if_neg (by simp), h0 k (by omega)]
      rw [this, if_neg (by simp)]
theorem firstN_zero {f : Nat → Int} : ∀ {n : Nat}, firstN f n = 0 ↔ ∀ k, k < n → f k = 0
  | 0 => by simp [firstN]
  | n + 1 => by
    unfold firstN
    constructor
    · intro h k hk
      by_cases h1 : firstN f n ≠ 0
      · rw [if_pos h1] at h; exact absurd h h1
      · rw [if_neg h1] at h
        rcases Nat.lt_or_ge k n with hlt | hge
        · exact (firstN_zero.1 (Classical.not_not.1 h1)) k hlt
        · have : k = n := by omega
          subst this; exact h
    · intro h
      rw [if_neg (by rw [firstN_zero.2 fun k hk => h k (by omega)]; simp), h n (by omega)]
end
end
theorem LoopW.upI {S : Type} {step : S → (S → Prop) → Prop} (n : Nat) (st : Nat → S) (I : Nat → Prop) {s : S} (hs : s = st 0) (h0 : I 0)
    (h : ∀ (k : Nat) rec, k < n → I k → (I (k + 1) → ∀ s, s = st (k + 1) → rec s) → step (st k) rec) (he : ∀ rec, I n → step (st n) rec) : LoopW step s := by
  have key : ∀ m k, k + m = n → I k → LoopN step (m + 1) (st k) := by
    intro m
    induction m with
    | zero => intro k hk hI; obtain rfl : k = n := hk; exact he _ hI
    | succ m ih => intro k hk hI; exact h k _ (by omega) hI fun hI' s hs => by rw [hs]; exact ih (k + 1) (by omega) hI'
  exact ⟨n + 1, by rw [hs]; exact key n 0 (by omega) h0⟩
theorem LoopW.upT {S : Type} {step : S → (S → Prop) → Prop} (n : Nat) (st : Nat → S) {s : S} (hs : s = st 0)
    (h : ∀ (k : Nat) rec, k < n → (∀ s, s = st (k + 1) → rec s) → step (st k) rec) (he : ∀ rec, step (st n) rec) : LoopW step s :=
  LoopW.upI n st (fun _ => True) hs trivial (fun k rec hk _ hr => h k rec hk (hr trivial)) fun rec _ => he rec
theorem LoopW.findI {step : Int → (Int → Prop) → Prop} (n : Nat) (p : Nat → Bool) (h : ∀ (k : Nat) rec, k < n → (∀ j, j < k → p j = false) → (p k = false → rec ((k : Int) + 1)) → step (k : Int) rec)
    (he : ∀ rec, (∀ j, j < n → p j = false) → step (n : Int) rec) : LoopW step 0 :=
  LoopW.upI n (fun k => (k : Int)) (fun k => ∀ j, j < k → p j = false) rfl (fun j hj => absurd hj (Nat.not_lt_zero j)) (fun k rec hk hI hr => h k rec hk hI fun hp => hr (fun j hj => by
    rcases Nat.lt_or_ge j k with h2 | h2
    · exact hI j h2
    · obtain rfl : j = k := by omega
      exact hp) _ rfl) he
theorem len_snoc {α : Type} (xs : List α) (x : α) : (xs ++ [x]).length = xs.length + 1 := by simp
theorem lenT {α : Type} {xs : List α} {k : Nat} (h : k ≤ xs.length) : (xs.take k).length = k := by rw [List.length_take]; omega
theorem take_all {α : Type} (xs : List α) : xs.take xs.length = xs := List.take_length
theorem map_take_snoc {α β : Type} [Dt α] {xs : List α} {k : Nat} (f : α → β) (h : k < xs.length) : (xs.take (k + 1)).map f = (xs.take k).map f ++ [f (ix xs (k : Int))] := by rw [take_ix h, List.map_append]; rfl
theorem LoopW.errI {S : Type} {step : S → (S → Prop) → Prop} (n : Nat) (st : Nat → S) (f : Nat → Int) {Ψ : Int → Prop} {s : S} (hs : s = st 0) (hΨ : Ψ (firstN f n))
    (h : ∀ (k : Nat) rec, k < n → (∀ j, j < k → f j = 0) → (f k ≠ 0 → Ψ (f k)) → (f k = 0 → ∀ s, s = st (k + 1) → rec s) → step (st k) rec) (he : ∀ rec, (∀ j, j < n → f j = 0) → Ψ 0 → step (st n) rec) : LoopW step s :=
  LoopW.upI n st (fun k => ∀ j, j < k → f j = 0) hs (fun j hj => absurd hj (Nat.not_lt_zero j)) (fun k rec hk hI hr => h k rec hk hI (fun h1 => by rw [firstN_hit hk hI h1] at hΨ; exact hΨ) fun h0 => hr fun j hj => by
    rcases Nat.lt_or_ge j k with h2 | h2
    · exact hI j h2
    · obtain rfl : j = k := by omega
      exact h0) fun rec hI => he rec hI (by rw [firstN_zero.2 hI] at hΨ; exact hΨ)
def wrM (m : List (coalesce_place × Sec)) (v s : Int) : List Sec → List (coalesce_place × Sec)
  | [] => m
  | d :: r => wrM (mput m ⟨v, s⟩ d) v (s + 1) r
theorem wrM_snoc {v : Int} {d : Sec} : ∀ (l : List Sec) (m : List (coalesce_place × Sec)) (s : Int), wrM m v s (l ++ [d]) = mput (wrM m v s l) ⟨v, s + (l.length : Int)⟩ d
  | [], m, s => by
    show mput m ⟨v, s⟩ d = mput m ⟨v, s + 0⟩ d
    rw [Int.add_zero]
  | x :: l, m, s => by
    rw [List.cons_append, wrM, wrM, wrM_snoc l, show s + 1 + (l.length : Int) = s + ((x :: l).length : Int) by rw [List.length_cons]; omega]
def effM (l : List api_Write) : List (coalesce_place × Sec) := l.foldl (fun m w => wrM m w.Volume w.Start w.Data) []
theorem effM_snoc (l : List api_Write) (w : api_Write) : effM (l ++ [w]) = wrM (effM l) w.Volume w.Start w.Data := by simp [effM]
theorem mput_len {κ ν : Type} [DecidableEq κ] (k : κ) (v : ν) : ∀ m : List (κ × ν), (mput m k v).length ≤ m.length + 1
  | [] => by simp [mput]
  | p :: r => by
    unfold mput
    split
    · simp
    · have := mput_len k v r
      simp only [List.length_cons]; omega
theorem wrM_len {v : Int} : ∀ (l : List Sec) (m : List (coalesce_place × Sec)) (s : Int), (wrM m v s l).length ≤ m.length + l.length
  | [], m, s => Nat.le_refl _
  | d :: r, m, s => by
    have h1 := wrM_len (v := v) r (mput m ⟨v, s⟩ d) (s + 1)
    have h2 := mput_len (⟨v, s⟩ : coalesce_place) d m
    rw [wrM, List.length_cons]; omega
theorem effM_len {c : Nat} : ∀ (l : List api_Write) (m : List (coalesce_place × Sec)), (∀ w ∈ l, w.Data.length ≤ c) → (l.foldl (fun m w => wrM m w.Volume w.Start w.Data) m).length ≤ m.length + l.length * c
  | [], m, _ => by simp
  | w :: l, m, h => by
    have h1 := effM_len l (wrM m w.Volume w.Start w.Data) fun x hx => h x (List.mem_cons_of_mem _ hx)
    have h2 := wrM_len (v := w.Volume) w.Data m w.Start
    have h3 := h w (List.mem_cons_self ..)
    rw [List.foldl_cons, List.length_cons, Nat.succ_mul]; omega
theorem mput_all {κ ν : Type} [DecidableEq κ] {p : κ → Prop} {k : κ} {v : ν} (hk : p k) : ∀ {m : List (κ × ν)}, (∀ q ∈ m, p q.1) → ∀ q ∈ mput m k v, p q.1
  | [], _, q, hq => by
    obtain rfl : q = (k, v) := by simpa [mput] using hq
    exact hk
  | a :: r, h, q, hq => by
    unfold mput at hq
    split at hq
    · rcases List.mem_cons.1 hq with rfl | hq
      · exact h a (List.mem_cons_self ..)
      · exact h q (List.mem_cons_of_mem _ hq)
    · rcases List.mem_cons.1 hq with rfl | hq
      · exact h _ (List.mem_cons_self ..)
      · exact mput_all hk (fun q hq => h q (List.mem_cons_of_mem _ hq)) q hq
theorem wrM_all {p : coalesce_place → Prop} {v : Int} : ∀ (l : List Sec) (m : List (coalesce_place × Sec)) (s : Int), (∀ j : Nat, j < l.length → p ⟨v, s + (j : Int)⟩) → (∀ q ∈ m, p q.1) → ∀ q ∈ wrM m v s l, p q.1
  | [], m, s, _, h => h
  | d :: r, m, s, hp, h => by
    refine wrM_all r _ (s + 1) (fun j hj => ?_) (mput_all ?_ h)
    · have := hp (j + 1) (by rw [List.length_cons]; omega)
      rwa [show s + ((j + 1 : Nat) : Int) = s + 1 + (j : Int) by omega] at this
    · have := hp 0 (by rw [List.length_cons]; omega)
      rwa [show s + ((0 : Nat) : Int) = s by omega] at this
def placedR (w : api_Write) : Int := if w.Volume < 0 ∨ 8 ≤ w.Volume then 7 else if w.Data.length = 0 then 1 else if w.Start < 0 ∨ 4096 - (w.Data.length : Int) < w.Start then 2 else 0
theorem placed0 {w : api_Write} (h : placedR w = 0) : 0 ≤ w.Volume ∧ w.Volume < 8 ∧ 0 < w.Data.length ∧ 0 ≤ w.Start ∧ w.Start + (w.Data.length : Int) ≤ 4096 := by
  unfold placedR at h
  split at h
  · omega
  · split at h
    · omega
    · split at h
      · omega
      · omega
theorem placed_W {w : api_Write} (hl : w.Data.length ≤ 1000000) {Φ : Int → Prop} (h : Φ (placedR w)) : Z17 w Φ := by
  unfold placedR at h
  have J : ∀ b : Bool, (b = true ↔ w.Volume < 0 ∨ 8 ≤ w.Volume) → Z16 w Φ b := fun b hb => by
    refine ⟨fun e => by rw [if_pos (hb.1 e)] at h; exact h, fun e => ?_⟩
    rw [if_neg fun q => e (hb.2 q)] at h
    refine ⟨fun q => by rw [if_pos (by omega)] at h; exact h, fun q => ?_⟩
    rw [if_neg (by omega)] at h
    refine ⟨fun r => by rw [if_pos (.inl r)] at h; exact h, fun r => ⟨iI (by omega) (by omega), fun s => by rw [if_pos (.inr s)] at h; exact h, fun s => by rw [if_neg (by omega)] at h; exact h⟩⟩
  exact ⟨fun q => J true ⟨fun _ => .inl q, fun _ => rfl⟩, fun q => J _ (by simp; omega)⟩
def PlL (l : List api_Write) : Prop := ∀ w ∈ l, placedR w = 0
theorem effM_place {l : List api_Write} (h : PlL l) : ∀ q ∈ effM l, 0 ≤ q.1.volume ∧ q.1.volume < 8 ∧ 0 ≤ q.1.sector ∧ q.1.sector < 4096 := by
  have key : ∀ (l : List api_Write) (m : List (coalesce_place × Sec)), PlL l → (∀ q ∈ m, 0 ≤ q.1.volume ∧ q.1.volume < 8 ∧ 0 ≤ q.1.sector ∧ q.1.sector < 4096) → ∀ q ∈ l.foldl (fun m w => wrM m w.Volume w.Start w.Data) m, 0 ≤ q.1.volume ∧ q.1.volume < 8 ∧ 0 ≤ q.1.sector ∧ q.1.sector < 4096 := by
    intro l
    induction l with
    | nil => intro m _ h; exact h
    | cons w l ih =>
      intro m h hm
      have := placed0 (h w (List.mem_cons_self ..))
      exact ih _ (fun x hx => h x (List.mem_cons_of_mem _ hx)) (wrM_all (p := fun c => 0 ≤ c.volume ∧ c.volume < 8 ∧ 0 ≤ c.sector ∧ c.sector < 4096) _ _ _ (fun j hj => ⟨by show 0 ≤ w.Volume; omega, by show w.Volume < 8; omega, by show 0 ≤ w.Start + (j : Int); omega, by show w.Start + (j : Int) < 4096; omega⟩) hm)
  exact key l [] h fun q hq => by cases hq
def clsW (xs : List api_Write) (ys : List Sec) : List api_Write := put xs ((xs.length : Int) - 1) ⟨(ix xs ((xs.length : Int) - 1)).Volume, (ix xs ((xs.length : Int) - 1)).Start, ys⟩
def grpS (m : List (coalesce_place × Sec)) (st : coalesce_place × List api_Write × List Sec) (p : coalesce_place) : coalesce_place × List api_Write × List Sec :=
  if p ≠ st.1 then (⟨p.volume, p.sector + 1⟩, clsW st.2.1 st.2.2 ++ [⟨p.volume, p.sector, []⟩], [] ++ [mget m p sec0]) else (⟨p.volume, p.sector + 1⟩, st.2.1, st.2.2 ++ [mget m p sec0])
def grpL (m : List (coalesce_place × Sec)) (l : List coalesce_place) : coalesce_place × List api_Write × List Sec := l.foldl (grpS m) (⟨-1, 0⟩, [], [])
theorem grpL_snoc (m : List (coalesce_place × Sec)) (l : List coalesce_place) (p : coalesce_place) : grpL m (l ++ [p]) = grpS m (grpL m l) p := by simp [grpL]
def canL (m : List (coalesce_place × Sec)) : List api_Write := clsW (grpL m (sortG pleB (m.map (·.1)))).2.1 (grpL m (sortG pleB (m.map (·.1)))).2.2
theorem clsW_len (xs : List api_Write) (ys : List Sec) : (clsW xs ys).length = xs.length := put_len _ _ _
theorem snocInd {α : Type} {P : List α → Prop} (h0 : P []) (h1 : ∀ l x, P l → P (l ++ [x])) (l : List α) : P l := by
  rw [← List.reverse_reverse l]
  induction l.reverse with
  | nil => exact h0
  | cons x r ih => rw [List.reverse_cons]; exact h1 _ _ ih
theorem nodup_len : ∀ (n : Nat) (l : List Nat), l.Nodup → (∀ i ∈ l, i < n) → l.length ≤ n
  | 0, [], _, _ => Nat.le_refl _
  | 0, i :: _, _, h => absurd (h i (List.mem_cons_self ..)) (Nat.not_lt_zero i)
  | n + 1, l, hd, h => by
    by_cases hn : n ∈ l
    · have h1 := nodup_len n (l.erase n) (hd.erase n) fun i hi => by
        have h2 := (List.Nodup.mem_erase_iff hd).1 hi
        have h3 := h i h2.2
        have := h2.1
        omega
      rw [List.length_erase_of_mem hn] at h1
      omega
    · have h1 := nodup_len n l hd fun i hi => by
        have h3 := h i hi
        have : i ≠ n := by rintro rfl; exact hn hi
        omega
      omega
theorem grpL_len (m : List (coalesce_place × Sec)) : ∀ l : List coalesce_place, (grpL m l).2.1.length ≤ l.length ∧ (grpL m l).2.2.length ≤ l.length ∧ (l ≠ [] → (∀ p ∈ l, p ≠ ⟨-1, 0⟩) → 0 < (grpL m l).2.1.length) := by
  refine snocInd ⟨Nat.le_refl _, Nat.le_refl _, fun h => absurd rfl h⟩ fun l p ih => ?_
  obtain ⟨h1, h2, h3⟩ := ih
  rw [grpL_snoc, len_snoc]
  unfold grpS
  split
  · refine ⟨?_, ?_, fun _ _ => ?_⟩
    · simp only [List.length_append, clsW_len, List.length_singleton]; omega
    · simp only [List.length_append, List.length_nil, List.length_singleton]; omega
    · simp only [List.length_append, clsW_len, List.length_singleton]; omega
  · rename_i hp
    refine ⟨by simp only; omega, by simp only [List.length_append, List.length_singleton]; omega, fun _ hall => ?_⟩
    by_cases hl : l = []
    · subst hl
      exact absurd (Classical.not_not.1 hp) (hall p (by simp))
    · exact h3 hl fun q hq => hall q (List.mem_append_left _ hq)
theorem behind_W {p : coalesce_place} {Φ : coalesce_place → Prop} (h : inI (p.sector + 1)) (hΦ : Φ ⟨p.volume, p.sector + 1⟩) : Z18 p Φ := ⟨h, hΦ⟩
theorem group_W {m : List (coalesce_place × Sec)} {ps : List coalesce_place} {Φ : List api_Write × Int → Prop} (hb : ps.length ≤ 100000000) (hp : ∀ p ∈ ps, 0 ≤ p.volume ∧ p.volume < 8 ∧ 0 ≤ p.sector ∧ p.sector < 4096) (hΦ : Φ (clsW (grpL m ps).2.1 (grpL m ps).2.2, 0)) : LoopW (Z25 m ps Φ) (0, -1, 0, [], []) := by
  have lOk : ∀ {n : Nat}, n ≤ 100000001 → lenOk n 40 := fun h => ⟨by omega, by simp only [maxLen]; omega⟩
  have lOk8 : ∀ {n : Nat}, n ≤ 100000001 → lenOk n 8 := fun h => ⟨by omega, by simp only [maxLen]; omega⟩
  refine LoopW.upT ps.length (fun k => ((k : Int), (grpL m (ps.take k)).1.volume, (grpL m (ps.take k)).1.sector, (grpL m (ps.take k)).2.1, (grpL m (ps.take k)).2.2)) rfl (fun k rec hk hrec => ?_) fun rec => ?_
  · obtain ⟨l1, l2, l3⟩ := grpL_len m (ps.take k)
    rw [lenT (by omega)] at l1 l2
    have hmem : ix ps (k : Int) ∈ ps := ix_mem ⟨by omega, by omega⟩
    have hpl := hp _ hmem
    have hst : grpL m (ps.take (k + 1)) = grpS m (grpL m (ps.take k)) (ix ps (k : Int)) := by rw [take_ix hk, grpL_snoc]
    obtain ⟨n1, n2, n3⟩ := grpL_len m (ps.take (k + 1))
    have n4 := n3 (by rw [take_ix hk]; simp) (fun p hq => by
      have := hp p (List.mem_of_mem_take hq)
      rintro rfl
      simp at this)
    rw [lenT (by omega)] at n1 n2
    have J : ∀ xs ys, (⟨(ix ps (k : Int)).volume, (ix ps (k : Int)).sector + 1⟩, xs, ys ++ [mget m (ix ps (k : Int)) sec0]) = grpL m (ps.take (k + 1)) → Z24 m ps (k : Int) rec Φ (xs, ys) := fun xs ys e => by
      have e1 : xs = (grpL m (ps.take (k + 1))).2.1 := by rw [← e]
      have e2 : ys ++ [mget m (ix ps (k : Int)) sec0] = (grpL m (ps.take (k + 1))).2.2 := by rw [← e]
      refine ⟨iI (by omega) (by rw [e1]; omega), iX (by rw [e1]; omega) (by omega), by omega, lOk8 (by rw [e2]; omega), behind_W (iI (by omega) (by omega)) ⟨iI (by omega) (by omega), hrec _ ?_⟩⟩
      rw [← e]; rfl
    refine ⟨fun _ => ⟨iX (by omega) (by omega), ?_⟩, fun h => absurd (show (k : Int) < (ps.length : Int) by omega) h⟩
    show (ix ps (k : Int) ≠ _ → _) ∧ (¬ (ix ps (k : Int) ≠ _) → _)
    refine ⟨fun h => ⟨lOk ?_, J _ _ ?_⟩, fun h => J _ _ ?_⟩
    · have := clsW_len (grpL m (ps.take k)).2.1 (grpL m (ps.take k)).2.2
      unfold clsW at this
      rw [len_snoc, this]; omega
    · rw [hst]; unfold grpS; rw [if_pos h]; rfl
    · rw [hst]; unfold grpS; rw [if_neg h]
  · refine ⟨fun h => absurd h (by simp), fun _ => ?_⟩
    rw [show ps.take ps.length = ps from take_all ps]
    exact hΦ
theorem gather_W {m : List (coalesce_place × Sec)} {Φ : List api_Write × Int → Prop} (hb : m.length ≤ 100000000) (hp : ∀ q ∈ m, 0 ≤ q.1.volume ∧ q.1.volume < 8 ∧ 0 ≤ q.1.sector ∧ q.1.sector < 4096) (hΦ : Φ (canL m, 0)) : LoopW (Z26 m Φ) ((m.length, []), []) := by
  have hent : ∀ i, i < m.length → ent m i ∈ m := fun i hi => by
    unfold ent
    rw [List.getD_eq_getElem?_getD, List.getElem?_eq_getElem hi]
    exact List.getElem_mem hi
  refine LoopW.of_inv (fun s => s.1.1 = m.length ∧ s.1.2.Nodup ∧ (∀ i ∈ s.1.2, i < m.length) ∧ s.2 = s.1.2.reverse.map fun i => (ent m i).1) (fun s => m.length - s.1.2.length) ?_ ⟨rfl, List.nodup_nil, (fun _ h => by cases h), rfl⟩
  rintro ⟨⟨n, seen⟩, ps⟩ rec ⟨h1, h2, h3, h4⟩ hrec
  simp only at h1 h2 h3 h4
  subst h1 h4
  have hle : seen.length ≤ m.length := nodup_len _ _ h2 h3
  refine ⟨rfl, fun hall => ?_, fun i hi hni => ⟨rfl, hi, ?_, hrec _ ⟨rfl, List.nodup_cons.2 ⟨hni, h2⟩, fun j hj => ?_, ?_⟩ ?_⟩⟩
  · have hperm : seen.Perm (List.range m.length) := (List.perm_ext_iff_of_nodup h2 List.nodup_range).2 fun i => ⟨fun hi => List.mem_range.2 (h3 i hi), fun hi => hall i (List.mem_range.1 hi)⟩
    have hmap : (List.range m.length).map (fun i => (ent m i).1) = m.map (·.1) := by
      apply List.ext_getElem
      · simp
      · intro i hi1 hi2
        have hi : i < m.length := by simpa using hi2
        simp only [List.getElem_map, List.getElem_range]
        unfold ent
        rw [List.getD_eq_getElem?_getD, List.getElem?_eq_getElem hi]
        rfl
    have hp2 : (seen.reverse.map fun i => (ent m i).1).Perm (m.map (·.1)) := by
      rw [← hmap]
      exact ((List.reverse_perm seen).trans hperm).map _
    have hsort : sortG pleB (seen.reverse.map fun i => (ent m i).1) = sortG pleB (m.map (·.1)) := sortG_of ple_total ple_trans ple_anti ((sortG_perm pleB _).trans hp2) (sortG_sorted ple_total ple_trans _)
    refine ⟨by rw [hp2.length_eq, List.length_map]; omega, ?_⟩
    rw [hsort]
    have hlen : (sortG pleB (m.map (·.1))).length = m.length := by rw [(sortG_perm pleB _).length_eq, List.length_map]
    refine group_W (by rw [hlen]; exact hb) (fun p hp' => ?_) hΦ
    obtain ⟨q, hq, rfl⟩ := List.mem_map.1 ((sortG_perm pleB _).mem_iff.1 hp')
    exact hp q hq
  · refine ⟨?_, ?_⟩
    · rw [len_snoc, List.length_map, List.length_reverse]; omega
    · rw [len_snoc, List.length_map, List.length_reverse]; simp only [maxLen]; omega
  · rcases List.mem_cons.1 hj with rfl | hj
    · exact hi
    · exact h3 j hj
  · simp
  · have h6 : (i :: seen).length ≤ m.length := nodup_len _ _ (List.nodup_cons.2 ⟨hni, h2⟩) fun j hj => by
      rcases List.mem_cons.1 hj with rfl | hj
      · exact hi
      · exact h3 j hj
    show m.length - (i :: seen).length < m.length - seen.length
    rw [List.length_cons] at h6 ⊢
    omega
theorem effect_W {l : List api_Write} {Φ : List api_Write × Int → Prop} (hl : l.length ≤ 20000) (hp : PlL l) (hΦ : Φ (canL (effM l), 0)) : LoopW (Z27 l Φ) (0, []) := by
  have hpl : ∀ k, k < l.length → placedR (ix l (k : Int)) = 0 := fun k hk => hp _ (ix_mem ⟨by omega, by omega⟩)
  have hlen : (effM l).length ≤ 100000000 := by
    have := effM_len (c := 4096) l [] fun w hw => by have := placed0 (hp w hw); omega
    have h2 := Nat.mul_le_mul_right 4096 hl
    show (l.foldl _ []).length ≤ _
    simp only [List.length_nil] at this
    omega
  refine LoopW.upT l.length (fun k => ((k : Int), effM (l.take k))) rfl (fun k rec hk hrec => ?_) fun rec => ?_
  · refine ⟨fun _ => ⟨iX (by omega) (by omega), ?_⟩, fun h => absurd (show (k : Int) < (l.length : Int) by omega) h⟩
    obtain ⟨a1, a2, a3, a4, a5⟩ := placed0 (hpl k hk)
    have hrec := hrec _ rfl
    rw [take_ix hk, effM_snoc] at hrec
    refine LoopW.upT (ix l (k : Int)).Data.length (fun j => ((j : Int), (ix l (k : Int)).Volume, (ix l (k : Int)).Start + (j : Int), wrM (effM (l.take k)) (ix l (k : Int)).Volume (ix l (k : Int)).Start ((ix l (k : Int)).Data.take j))) (by simp [wrM]) (fun j rec3 hj h3 => ?_) fun rec3 => ?_
    · refine ⟨fun _ => ⟨iX (by omega) (by omega), behind_W (iI (by show _ ≤ (ix l (k : Int)).Start + (j : Int) + 1; omega) (by show (ix l (k : Int)).Start + (j : Int) + 1 ≤ _; omega)) ⟨iI (by omega) (by omega), h3 _ ?_⟩⟩, fun h => absurd (show (j : Int) < ((ix l (k : Int)).Data.length : Int) by omega) h⟩
      rw [take_ix hj, wrM_snoc, lenT (by omega)]
      rw [show (ix l (k : Int)).Start + ((j + 1 : Nat) : Int) = (ix l (k : Int)).Start + (j : Int) + 1 by omega]
      rfl
    · refine ⟨fun h => absurd h (by simp), fun _ => ⟨iI (by omega) (by omega), ?_⟩⟩
      rw [show (ix l (k : Int)).Data.take (ix l (k : Int)).Data.length = (ix l (k : Int)).Data from take_all _]
      exact hrec
  · refine ⟨fun h => absurd h (by simp), fun _ => ?_⟩
    rw [show l.take l.length = l from take_all l]
    exact ⟨by omega, ⟨by rw [Int.toNat_natCast]; omega, by rw [Int.toNat_natCast]; simp only [maxLen]; omega⟩, gather_W hlen (effM_place hp) hΦ⟩
def foldR (l : List api_Write) : List api_Write × Int := if firstN (fun k => placedR (ix l (k : Int))) l.length ≠ 0 then ([], firstN (fun k => placedR (ix l (k : Int))) l.length) else (canL (effM l), 0)
theorem coalesce_Fold_ok {l : List api_Write} {Φ : List api_Write × Int → Prop} (hl : l.length ≤ 20000) (hd : ∀ w ∈ l, w.Data.length ≤ 1000000) (hΦ : Φ (foldR l)) : Z29 l Φ := by
  unfold foldR at hΦ
  refine LoopW.errI l.length (fun k => (k : Int)) (fun k => placedR (ix l (k : Int))) (Ψ := fun e => Φ (if e ≠ 0 then ([], e) else (canL (effM l), 0))) rfl hΦ (fun k rec hk hI h1 h0 => ?_) fun rec hI h0 => ?_
  · refine ⟨fun _ => ⟨iX (by omega) (by omega), placed_W (hd _ (ix_mem ⟨by omega, by omega⟩)) ⟨fun e => ?_, fun e => ⟨iI (by omega) (by omega), h0 (Classical.not_not.1 e) _ rfl⟩⟩⟩, fun h => absurd (show (k : Int) < (l.length : Int) by omega) h⟩
    have := h1 e
    rwa [if_pos e] at this
  · refine ⟨fun h => absurd h (by simp), fun _ => ?_⟩
    rw [if_neg (by simp)] at h0
    refine effect_W hl (fun w hw => ?_) h0
    obtain ⟨k, hk, rfl⟩ := List.getElem_of_mem hw
    have := hI k hk
    rwa [ix_get hk] at this
def smallL (l : List api_Write) : Bool := decide (l.length ≤ 20000) && l.all fun w => decide (w.Data.length ≤ 1000000)
theorem smallL_ok {l : List api_Write} (h : smallL l = true) : l.length ≤ 20000 ∧ ∀ w ∈ l, w.Data.length ≤ 1000000 := by
  unfold smallL at h
  rw [Bool.and_eq_true] at h
  exact ⟨of_decide_eq_true h.1, fun w hw => of_decide_eq_true (List.all_eq_true.1 h.2 w hw)⟩
def Z84 (l : List api_Write) : Option (List api_Write × Int) := if smallL l = true then some (foldR l) else none
theorem coalesce_Fold_sound (l : List api_Write) {Φ : List api_Write × Int → Prop} {o} (h : Z84 l = some o) (hK : Φ o) : Z29 l Φ := by
  unfold Z84 at h
  split at h
  · rename_i hs
    cases h
    obtain ⟨h1, h2⟩ := smallL_ok hs
    exact coalesce_Fold_ok h1 h2 hK
  · cases h
def ordE (l : List api_Write) (k : Nat) : Int := if placedR (ix l (k : Int)) ≠ 0 then placedR (ix l (k : Int)) else if k = 0 then 0 else if (ix l (k : Int)).Volume < (ix l ((k : Int) - 1)).Volume ∨ (ix l (k : Int)).Volume = (ix l ((k : Int) - 1)).Volume ∧ (ix l (k : Int)).Start ≤ (ix l ((k : Int) - 1)).Start + ((ix l ((k : Int) - 1)).Data.length : Int) then 3 else 0
def canE (l : List api_Write) : Int := firstN (ordE l) l.length
theorem canE_pl {l : List api_Write} (h : canE l = 0) : PlL l := fun w hw => by
  obtain ⟨k, hk, rfl⟩ := List.getElem_of_mem hw
  have := firstN_zero.1 h k hk
  unfold ordE at this
  rw [ix_get hk] at this
  split at this
  · rename_i h1; exact absurd this h1
  · rename_i h1; exact Classical.not_not.1 h1
def mergeR (a b : List api_Write) : List api_Write × Int := if canE a ≠ 0 then ([], canE a) else if canE b ≠ 0 then ([], canE b) else (canL (effM (a ++ b)), 0)
theorem concat_ok {a b : List api_Write} {Φ : List api_Write → Prop} (ha : a.length ≤ 10000) (hb : b.length ≤ 10000) (hΦ : Φ (a ++ b)) : Z58 [a, b] Φ := by
  have J : ∀ v3 : List api_Write, v3 = [] → Z56 [a, b] Φ v3 := by
    rintro _ rfl
    refine ⟨3, ⟨fun _ => ⟨⟨by decide, by simp⟩, iL (by show (([] : List api_Write) ++ a).length ≤ _; rw [List.nil_append]; omega) (by decide), iI (by decide) (by decide), ⟨fun _ => ⟨⟨by decide, by simp⟩, iL (by show ((([] : List api_Write) ++ a) ++ b).length ≤ _; rw [List.nil_append, List.length_append]; omega) (by decide), iI (by decide) (by decide), ⟨fun h => absurd h (by simp), fun _ => hΦ⟩⟩, fun h => absurd (show (0 + 1 : Int) < _ by simp) h⟩⟩, fun h => absurd (show (0 : Int) < _ by simp) h⟩⟩
  refine LoopW.upT 2 (fun k => ((match k with | 0 => (0 : Int) | 1 => (a.length : Int) | _ => (a.length : Int) + (b.length : Int)), (k : Int))) rfl (fun k rec hk hrec => ?_) fun rec => ?_
  · obtain rfl | rfl : k = 0 ∨ k = 1 := by omega
    · have e : (0 : Int) + (a.length : Int) = (a.length : Int) := by omega
      refine ⟨fun _ => ⟨⟨by decide, by simp⟩, iI (by show _ ≤ (0 : Int) + (a.length : Int); omega) (by show (0 : Int) + (a.length : Int) ≤ _; omega), fun h => absurd (show (0 : Int) + (a.length : Int) < 0 from h) (by omega), fun _ => ⟨iI (by decide) (by decide), hrec _ ?_⟩⟩, fun h => absurd (show (0 : Int) < _ by simp) h⟩
      show ((0 : Int) + (a.length : Int), _) = ((a.length : Int), _)
      rw [e]; rfl
    · refine ⟨fun _ => ⟨⟨by decide, by simp⟩, iI (by show _ ≤ (a.length : Int) + (b.length : Int); omega) (by show (a.length : Int) + (b.length : Int) ≤ _; omega), fun h => absurd (show (a.length : Int) + (b.length : Int) < 0 from h) (by omega), fun _ => ⟨iI (by decide) (by decide), hrec _ rfl⟩⟩, fun h => absurd (show (1 : Int) < _ by simp) h⟩
  · refine ⟨fun h => absurd (show (2 : Int) < (2 : Int) from h) (by decide), fun _ => ?_⟩
    refine ⟨fun h => absurd (show (a.length : Int) + (b.length : Int) < 0 from h) (by omega), fun _ => ⟨iI (by decide) (by decide), iI (by show _ ≤ (a.length : Int) + (b.length : Int) - ((0 : Int) - 0); omega) (by show (a.length : Int) + (b.length : Int) - ((0 : Int) - 0) ≤ _; omega), fun h => ⟨rfl, h, ⟨?_, ?_⟩, iS (by decide) (by decide) (by omega), J _ (by simp [sub])⟩, fun _ => J _ rfl⟩⟩
    · show ((a.length : Int) + (b.length : Int) - ((0 : Int) - 0)).toNat * 40 ≤ _
      omega
    · show ((a.length : Int) + (b.length : Int) - ((0 : Int) - 0)).toNat ≤ _
      simp only [maxLen]; omega
theorem canE_W {a b : List api_Write} {i : Int} {l : List api_Write} (hl : ix ([a, b] : List (List api_Write)) i = l) (hn : l.length ≤ 1000000) (hd : ∀ w ∈ l, w.Data.length ≤ 1000000) {rec1 : Int → Prop} {Φ : List api_Write × Int → Prop} (h : Z59 i rec1 Φ (canE l)) : LoopW (Z60 a b i rec1 Φ) 0 := by
  have hdk : ∀ k : Nat, k < l.length → (ix l (k : Int)).Data.length ≤ 1000000 := fun k hk => hd _ (ix_mem ⟨by omega, by omega⟩)
  refine LoopW.errI l.length (fun k => (k : Int)) (ordE l) (Ψ := Z59 i rec1 Φ) rfl h (fun k rec hk hI h1 h0 => ?_) fun rec hI h0 => ?_
  · unfold Z60
    rw [hl]
    refine ⟨fun _ => ⟨iX (by omega) (by omega), placed_W (hdk k hk) ⟨fun e => ?_, fun e => ?_⟩⟩, fun h => absurd (show (k : Int) < (l.length : Int) by omega) h⟩
    · have e2 : ordE l k = placedR (ix l (k : Int)) := by unfold ordE; rw [if_pos e]
      have := h1 (by rw [e2]; exact e)
      rwa [e2] at this
    · refine ⟨fun z => ⟨iI (by omega) (by omega), h0 ?_ _ rfl⟩, fun z => ?_⟩
      · unfold ordE; rw [if_neg e, if_pos (by omega)]
      · have hk1 : ix l ((k : Int) - 1) = ix l ((k - 1 : Nat) : Int) := by rw [show (k : Int) - 1 = ((k - 1 : Nat) : Int) by omega]
        have hp1 := hI (k - 1) (by omega)
        have hpl : placedR (ix l ((k : Int) - 1)) = 0 := by
          rw [hk1]
          unfold ordE at hp1
          split at hp1
          · rename_i q; exact absurd hp1 q
          · rename_i q; exact Classical.not_not.1 q
        obtain ⟨b1, b2, b3, b4, b5⟩ := placed0 hpl
        have bad : ((ix l (k : Int)).Volume < (ix l ((k : Int) - 1)).Volume ∨ (ix l (k : Int)).Volume = (ix l ((k : Int) - 1)).Volume ∧ (ix l (k : Int)).Start ≤ (ix l ((k : Int) - 1)).Start + ((ix l ((k : Int) - 1)).Data.length : Int)) → Z59 i rec1 Φ 3 := fun q => by
          have e2 : ordE l k = 3 := by unfold ordE; rw [if_neg e, if_neg (by omega), if_pos q]
          have := h1 (by rw [e2]; decide)
          rwa [e2] at this
        have good : ¬ ((ix l (k : Int)).Volume < (ix l ((k : Int) - 1)).Volume ∨ (ix l (k : Int)).Volume = (ix l ((k : Int) - 1)).Volume ∧ (ix l (k : Int)).Start ≤ (ix l ((k : Int) - 1)).Start + ((ix l ((k : Int) - 1)).Data.length : Int)) → rec ((k : Int) + 1) := fun q => h0 (by unfold ordE; rw [if_neg e, if_neg (by omega), if_neg q]) _ rfl
        refine ⟨iI (by omega) (by omega), iX (by omega) (by omega), fun q => bad (.inl q), fun q => ⟨fun r => ⟨iI (by omega) (by omega), fun s => bad (.inr ⟨r, s⟩), fun s => ⟨iI (by omega) (by omega), good fun t => ?_⟩⟩, fun r => ⟨iI (by omega) (by omega), good fun t => ?_⟩⟩⟩
        · rcases t with t | t
          · exact q t
          · exact s t.2
        · rcases t with t | t
          · exact q t
          · exact r t.1
  · unfold Z60
    rw [hl]
    exact ⟨fun h => absurd h (by simp), fun _ => h0⟩
theorem coalesce_Merge_ok {a b : List api_Write} {Φ : List api_Write × Int → Prop} (ha : a.length ≤ 10000) (hb : b.length ≤ 10000) (hda : ∀ w ∈ a, w.Data.length ≤ 1000000) (hdb : ∀ w ∈ b, w.Data.length ≤ 1000000) (hΦ : Φ (mergeR a b)) : Z67 a b Φ := by
  unfold mergeR at hΦ
  refine ⟨3, ⟨fun _ => ⟨⟨by decide, by simp⟩, canE_W (l := a) rfl (by omega) hda ⟨fun e => by rw [if_pos e] at hΦ; exact hΦ, fun e => ⟨iI (by decide) (by decide), ?_⟩⟩⟩, fun h => absurd (show (0 : Int) < _ by simp) h⟩⟩
  rw [if_neg e] at hΦ
  refine ⟨fun _ => ⟨⟨by decide, by simp⟩, canE_W (l := b) rfl (by omega) hdb ⟨fun e => by rw [if_pos e] at hΦ; exact hΦ, fun e2 => ⟨iI (by decide) (by decide), ?_⟩⟩⟩, fun h => absurd (show (0 + 1 : Int) < _ by simp) h⟩
  rw [if_neg e2] at hΦ
  refine ⟨fun h => absurd h (by simp), fun _ => concat_ok ha hb ?_⟩
  refine effect_W (by rw [List.length_append]; omega) (fun w hw => ?_) hΦ
  rcases List.mem_append.1 hw with hw | hw
  · exact canE_pl (Classical.not_not.1 e) w hw
  · exact canE_pl (Classical.not_not.1 e2) w hw
def Z85 (a b : List api_Write) : Option (List api_Write × Int) := if (decide (a.length ≤ 10000 ∧ b.length ≤ 10000) && (smallL a && smallL b)) = true then some (mergeR a b) else none
theorem coalesce_Merge_sound (a b : List api_Write) {Φ : List api_Write × Int → Prop} {o} (h : Z85 a b = some o) (hK : Φ o) : Z67 a b Φ := by
  unfold Z85 at h
  split at h
  · rename_i hs
    cases h
    simp only [Bool.and_eq_true] at hs
    have h0 := of_decide_eq_true hs.1
    exact coalesce_Merge_ok h0.1 h0.2 (smallL_ok hs.2.1).2 (smallL_ok hs.2.2).2 hK
  · cases h
def sizesE (l : List Int) : Int := if (l.length : Int) < 1 ∨ 8 < (l.length : Int) then 6 else firstN (fun k => if ix l (k : Int) < 1 ∨ 4096 < ix l (k : Int) then 2 else 0) l.length
def szs (im : List (List Sec)) : List Int := im.map fun v => (v.length : Int)
def imgE (im : List (List Sec)) : Int := sizesE (szs im)
theorem szs_len (im : List (List Sec)) : (szs im).length = im.length := by unfold szs; rw [List.length_map]
theorem ix_szs {im : List (List Sec)} {k : Nat} (h : k < im.length) : ix (szs im) (k : Int) = ((ix im (k : Int)).length : Int) := by
  rw [ix_get (by rw [szs_len]; exact h), ix_get h]; unfold szs; rw [List.getElem_map]
theorem sizesE_len {l : List Int} (h : sizesE l = 0) : 1 ≤ l.length ∧ l.length ≤ 8 := by
  unfold sizesE at h
  by_cases hl : (l.length : Int) < 1 ∨ 8 < (l.length : Int)
  · rw [if_pos hl] at h; cases h
  · omega
theorem sizesE_ix {l : List Int} (h : sizesE l = 0) {k : Nat} (hk : k < l.length) : 1 ≤ ix l (k : Int) ∧ ix l (k : Int) ≤ 4096 := by
  unfold sizesE at h
  by_cases hl : (l.length : Int) < 1 ∨ 8 < (l.length : Int)
  · rw [if_pos hl] at h; cases h
  · rw [if_neg hl] at h
    have := firstN_zero.1 h k hk
    by_cases q : ix l (k : Int) < 1 ∨ 4096 < ix l (k : Int)
    · rw [if_pos q] at this; cases this
    · omega
theorem image_checkSizes_ok {l : List Int} {Φ : Int → Prop} (hΦ : Φ (sizesE l)) : Z2 l Φ := by
  unfold sizesE at hΦ
  by_cases h : (l.length : Int) < 1 ∨ 8 < (l.length : Int)
  · rw [if_pos h] at hΦ
    exact ⟨fun _ => hΦ, fun _ => ⟨fun _ => hΦ, fun _ => by omega⟩⟩
  · rw [if_neg h] at hΦ
    refine ⟨fun _ => by omega, fun _ => ⟨fun _ => by omega, fun _ => ?_⟩⟩
    refine LoopW.errI l.length (fun k => (k : Int)) _ rfl hΦ (fun k rec hk _ h1 h2 => ?_) fun rec _ h0 => ⟨fun _ => by omega, fun _ => ⟨fun _ => by omega, fun _ => h0⟩⟩
    have go : ∀ q : ix l (k : Int) < 1 ∨ 4096 < ix l (k : Int), Φ 2 := fun q => by
      have := h1 (by rw [if_pos q]; omega)
      rw [if_pos q] at this; exact this
    refine ⟨fun _ => ⟨iX (by omega) (by omega), fun q => ⟨fun _ => ⟨fun _ => go (.inl q), fun _ => by omega⟩, fun r => absurd rfl r⟩, fun q => ⟨fun r => ⟨fun _ => go (.inr (of_decide_eq_true r)), fun _ => by omega⟩, fun r => ⟨iI (by omega) (by omega), h2 (if_neg (by have := of_decide_eq_false (Bool.eq_false_iff.2 r); omega)) _ rfl⟩⟩⟩, fun _ => by omega⟩
theorem image_sizes_ok {im : List (List Sec)} {Φ : List Int → Prop} (hl : im.length ≤ 100000) (hΦ : Φ (szs im)) : image_sizes_W im Φ := by
  refine ⟨by omega, iL (by omega) (by omega), ?_⟩
  refine LoopW.upT im.length (fun k => ((k : Int), (im.take k).map fun v => (v.length : Int))) rfl (fun k rec hk hr => ?_) fun rec => ⟨fun _ => by omega, fun _ => by rw [take_all]; exact hΦ⟩
  refine ⟨fun _ => ⟨iX (by omega) (by omega), iL (by rw [len_snoc, List.length_map, lenT (by omega)]; omega) (by omega), iI (by omega) (by omega), hr _ (by rw [map_take_snoc _ hk]; rfl)⟩, fun _ => by omega⟩
theorem image_Check_ok {im : List (List Sec)} {Φ : Int → Prop} (hl : im.length ≤ 100000) (hΦ : Φ (imgE im)) : image_Check_W im Φ := image_sizes_ok hl (image_checkSizes_ok hΦ)
def zeroI (l : List Int) : List (List Sec) := l.map fun n => List.replicate n.toNat sec0
theorem zeroI_len (l : List Int) : (zeroI l).length = l.length := by unfold zeroI; rw [List.length_map]
theorem ix_zeroI {l : List Int} {k : Nat} (h : k < l.length) : ix (zeroI l) (k : Int) = List.replicate (ix l (k : Int)).toNat sec0 := by
  rw [ix_get (by rw [zeroI_len]; exact h), ix_get h]; unfold zeroI; rw [List.getElem_map]
theorem szs_zeroI {l : List Int} (h : sizesE l = 0) : szs (zeroI l) = l := by
  refine ext_ix (by rw [szs_len, zeroI_len]) fun k hk => ?_
  rw [szs_len, zeroI_len] at hk
  have := sizesE_ix h hk
  rw [ix_szs (by rw [zeroI_len]; exact hk), ix_zeroI hk, List.length_replicate]; omega
theorem image_New_ok {l : List Int} {Φ : List (List Sec) × Int → Prop} (h0 : sizesE l = 0 → Φ (zeroI l, 0)) (h1 : sizesE l ≠ 0 → Φ ([], sizesE l)) : image_New_W l Φ := by
  refine image_checkSizes_ok ⟨fun q => h1 q, fun q => ?_⟩
  have q : sizesE l = 0 := Classical.not_not.1 q
  have hl := sizesE_len q
  refine ⟨by omega, iL (by omega) (by omega), ?_⟩
  refine LoopW.upT l.length (fun k => ((k : Int), (l.take k).map fun n => List.replicate n.toNat sec0)) rfl (fun k rec hk hr => ?_) fun rec => ⟨fun _ => by omega, fun _ => by rw [take_all]; exact h0 q⟩
  have := sizesE_ix q hk
  refine ⟨fun _ => ⟨iX (by omega) (by omega), by omega, iL (by omega) (by omega), iL (by rw [len_snoc, List.length_map, lenT (by omega)]; omega) (by omega), iI (by omega) (by omega), hr _ (by rw [map_take_snoc _ hk]; rfl)⟩, fun _ => by omega⟩
def fitW (l : List Int) (w : api_Write) : Int := if w.Volume < 0 ∨ (l.length : Int) ≤ w.Volume then 7 else if (w.Data.length : Int) = 0 then 1 else if w.Start < 0 ∨ ix l w.Volume - w.Start < (w.Data.length : Int) then 2 else 0
theorem image_fits_ok {im : List (List Sec)} {w : api_Write} {Φ : Int → Prop} (hd : w.Data.length ≤ 1000000) (hv : ∀ k : Nat, k < im.length → (ix im (k : Int)).length ≤ 1000000) (hΦ : Φ (fitW (szs im) w)) : image_fits_W im w Φ := by
  unfold fitW at hΦ
  rw [szs_len] at hΦ
  show (_ → image_fits_J1 _ _ _ _) ∧ _
  have tail : ¬ (w.Volume < 0 ∨ (im.length : Int) ≤ w.Volume) → image_fits_J1 im w Φ false := fun q => by
    rw [if_neg q] at hΦ
    refine ⟨fun r => (Bool.noConfusion r), fun _ => ⟨fun r => by rw [if_pos (by omega)] at hΦ; exact hΦ, fun r => ?_⟩⟩
    rw [if_neg (by omega)] at hΦ
    obtain ⟨v, hw⟩ := Int.eq_ofNat_of_zero_le (show 0 ≤ w.Volume by omega)
    have hvl : v < im.length := by omega
    rw [hw, ix_szs hvl] at hΦ
    have := hv v hvl
    refine ⟨fun s => by rw [if_pos (.inl s)] at hΦ; exact hΦ, fun s => ⟨iX (by omega) (by omega), ?_⟩⟩
    rw [hw]
    exact ⟨iI (by omega) (by omega), fun t => by rw [if_pos (by omega)] at hΦ; exact hΦ, fun t => by rw [if_neg (by omega)] at hΦ; exact hΦ⟩
  refine ⟨fun q => ⟨fun _ => by rw [if_pos (.inl q)] at hΦ; exact hΦ, fun r => absurd rfl r⟩, fun q => ?_⟩
  by_cases r : (im.length : Int) ≤ w.Volume
  · rw [decide_eq_true r]
    exact ⟨fun _ => by rw [if_pos (.inr r)] at hΦ; exact hΦ, fun r => absurd rfl r⟩
  · rw [decide_eq_false r]; exact tail (by omega)
theorem szs_small {im : List (List Sec)} (h : imgE im = 0) (k : Nat) (hk : k < im.length) : (ix im (k : Int)).length ≤ 4096 := by
  have := sizesE_ix h (k := k) (by rw [szs_len]; exact hk)
  rw [ix_szs hk] at this; omega
theorem image_Fits_ok {im : List (List Sec)} {w : api_Write} {Φ : Int → Prop} (hd : w.Data.length ≤ 1000000) (h : imgE im = 0) (hΦ : Φ (fitW (szs im) w)) : image_Fits_W im w Φ := by
  have hl := sizesE_len h
  rw [szs_len] at hl
  exact image_Check_ok (by omega) ⟨fun q => absurd h q, fun _ => image_fits_ok hd (fun k hk => Nat.le_trans (szs_small h k hk) (by omega)) hΦ⟩
theorem sizes_ok {l : List Int} (h : ¬ sizesE l ≠ 0) : l.length ≤ 8 ∧ 1 ≤ l.length ∧ ∀ k : Nat, k < l.length → 1 ≤ ix l (k : Int) ∧ ix l (k : Int) ≤ 4096 := by
  have h0 := Classical.not_not.1 h
  unfold sizesE at h0
  split at h0
  · omega
  · refine ⟨by omega, by omega, fun k hk => ?_⟩
    have := firstN_zero.1 h0 k hk
    split at this <;> omega
theorem fitW_zero {sizes : List Int} {w : api_Write} (hs : ¬ sizesE sizes ≠ 0) (h : fitW sizes w = 0) : 0 ≤ w.Volume ∧ w.Volume < (sizes.length : Int) ∧ 1 ≤ w.Data.length ∧ 0 ≤ w.Start ∧ w.Start + (w.Data.length : Int) ≤ ix sizes w.Volume ∧ ix sizes w.Volume ≤ 4096 := by
  unfold fitW at h
  split at h
  · omega
  split at h
  · omega
  split at h
  · omega
  obtain ⟨v, hv⟩ := Int.eq_ofNat_of_zero_le (show 0 ≤ w.Volume by omega)
  have hz := (sizes_ok hs).2.2 v (by omega)
  rw [← hv] at hz
  omega
theorem ix_put {α : Type} [Dt α] (xs : List α) {i j : Nat} (x : α) (hi : i < xs.length) : ix (put xs (i : Int) x) (j : Int) = if j = i then x else ix xs (j : Int) := by
  show (xs.set i x).getD j default = if j = i then x else xs.getD j default
  rw [List.getD_eq_getElem?_getD, List.getD_eq_getElem?_getD]
  by_cases h : j = i
  · subst h; rw [List.getElem?_set_self hi, if_pos rfl]; rfl
  · rw [List.getElem?_set_ne (by omega), if_neg h]
theorem ix_paste {α : Type} [Dt α] {xs ys : List α} {s i : Nat} (h : s + ys.length ≤ xs.length) : ix (paste xs (s : Int) ys) (i : Int) = if s ≤ i ∧ i < s + ys.length then ix ys ((i : Int) - (s : Int)) else ix xs (i : Int) := by
  show (paste xs (s : Int) ys).getD i default = if _ then ys.getD ((i : Int) - (s : Int)).toNat default else xs.getD i default
  unfold paste
  rw [Int.toNat_natCast, List.getD_eq_getElem?_getD, List.getD_eq_getElem?_getD, List.getD_eq_getElem?_getD]
  have e1 : (xs.take s).length = s := by rw [List.length_take]; omega
  have e2 : ys.take (xs.length - s) = ys := List.take_of_length_le (by omega)
  have e3 : min ys.length (xs.length - s) = ys.length := by omega
  rw [e2, e3]
  by_cases h1 : i < s
  · rw [if_neg (by omega), List.getElem?_append_left (by omega), List.getElem?_take_of_lt h1]
  · by_cases h2 : i < s + ys.length
    · rw [if_pos (by omega), List.getElem?_append_right (by omega), e1, List.getElem?_append_left (by omega), show ((i : Int) - (s : Int)).toNat = i - s by omega]
    · rw [if_neg (by omega), List.getElem?_append_right (by omega), e1, List.getElem?_append_right (by omega), List.getElem?_drop]
      congr 2
      omega
theorem paste_len' {α : Type} {xs ys : List α} {s : Nat} (h : s ≤ xs.length) : (paste xs (s : Int) ys).length = xs.length := paste_len ⟨by omega, by omega, by omega⟩
def apply1 (im : List (List Sec)) (w : api_Write) : List (List Sec) := put im w.Volume (paste (ix im w.Volume) w.Start w.Data)
def appL (im : List (List Sec)) (l : List api_Write) : List (List Sec) := l.foldl apply1 im
theorem appL_snoc (im : List (List Sec)) (l : List api_Write) (w : api_Write) : appL im (l ++ [w]) = apply1 (appL im l) w := by unfold appL; rw [List.foldl_append]; rfl
structure FitW (sizes : List Int) (w : api_Write) (v s : Nat) : Prop where
  vol : w.Volume = (v : Int)
  start : w.Start = (s : Int)
  hv : v < sizes.length
  len : 1 ≤ w.Data.length
  le : ((s + w.Data.length : Nat) : Int) ≤ ix sizes (v : Int)
  top : ix sizes (v : Int) ≤ 4096
theorem fitW_of {sizes : List Int} {w : api_Write} (hs : ¬ sizesE sizes ≠ 0) (h : fitW sizes w = 0) : ∃ v s : Nat, FitW sizes w v s := by
  have := fitW_zero hs h
  obtain ⟨v, hv⟩ := Int.eq_ofNat_of_zero_le this.1
  obtain ⟨s, hst⟩ := Int.eq_ofNat_of_zero_le this.2.2.2.1
  rw [hv, hst] at this
  exact ⟨v, s, hv, hst, by omega, by omega, by omega, by omega⟩
theorem szs_apply1 {im : List (List Sec)} {w : api_Write} {v s : Nat} (h : FitW (szs im) w v s) : szs (apply1 im w) = szs im := by
  have hv := h.hv
  rw [szs_len] at hv
  have hle := h.le
  rw [ix_szs hv] at hle
  unfold apply1
  rw [h.vol, h.start]
  refine ext_ix (by rw [szs_len, szs_len, put_len]) fun k hk => ?_
  rw [szs_len, put_len] at hk
  rw [ix_szs (by rw [put_len]; exact hk), ix_szs hk, ix_put _ _ hv]
  by_cases hkv : k = v
  · rw [if_pos hkv, paste_len' (by omega), hkv]
  · rw [if_neg hkv]
theorem szs_appL {im : List (List Sec)} (hs : ¬ sizesE (szs im) ≠ 0) : ∀ {l : List api_Write}, (∀ w ∈ l, fitW (szs im) w = 0) → szs (appL im l) = szs im := by
  intro l
  induction l generalizing im with
  | nil => intro _; rfl
  | cons w l ih =>
    intro h
    obtain ⟨v, s, hw⟩ := fitW_of hs (h w (List.mem_cons_self ..))
    have e := szs_apply1 hw
    show szs (appL (apply1 im w) l) = _
    rw [ih (by rw [e]; exact hs) fun x hx => by rw [e]; exact h x (List.mem_cons_of_mem _ hx), e]
def sec (im : List (List Sec)) (v i : Nat) : Sec := ix (ix im (v : Int)) (i : Int)
def covW (w : api_Write) (v i : Nat) : Prop := w.Volume = (v : Int) ∧ w.Start ≤ (i : Int) ∧ (i : Int) < w.Start + (w.Data.length : Int)
instance (w : api_Write) (v i : Nat) : Decidable (covW w v i) := by unfold covW; infer_instance
theorem sec_apply1 {im : List (List Sec)} {w : api_Write} {v0 s0 : Nat} (h : FitW (szs im) w v0 s0) (v i : Nat) : sec (apply1 im w) v i = if covW w v i then ix w.Data ((i : Int) - w.Start) else sec im v i := by
  have hv := h.hv
  rw [szs_len] at hv
  have hle := h.le
  rw [ix_szs hv] at hle
  have h1 := h.vol
  have h2 := h.start
  have hc : covW w v i ↔ v = v0 ∧ s0 ≤ i ∧ i < s0 + w.Data.length := by unfold covW; omega
  have e : sec (apply1 im w) v i = ix (if v = v0 then paste (ix im (v0 : Int)) (s0 : Int) w.Data else ix im (v : Int)) (i : Int) := by
    unfold sec apply1
    rw [h1, h2, ix_put _ _ hv]
  rw [e]
  by_cases hkv : v = v0
  · rw [if_pos hkv, ix_paste (by omega)]
    subst hkv
    by_cases hq : s0 ≤ i ∧ i < s0 + w.Data.length
    · rw [if_pos hq, if_pos (hc.2 ⟨rfl, hq⟩), h2]
    · rw [if_neg hq, if_neg (fun q => hq (hc.1 q).2)]; rfl
  · rw [if_neg hkv, if_neg (fun q => hkv (hc.1 q).1)]; rfl
theorem sec_none {v i : Nat} : ∀ {l : List api_Write} {im : List (List Sec)}, ¬ sizesE (szs im) ≠ 0 → (∀ w ∈ l, fitW (szs im) w = 0) → (∀ w ∈ l, ¬ covW w v i) → sec (appL im l) v i = sec im v i := by
  intro l
  induction l with
  | nil => intro im _ _ _; rfl
  | cons w l ih =>
    intro im hs h hn
    obtain ⟨v0, s0, hw⟩ := fitW_of hs (h w (List.mem_cons_self ..))
    have e := szs_apply1 hw
    show sec (appL (apply1 im w) l) v i = _
    rw [ih (by rw [e]; exact hs) (fun x hx => by rw [e]; exact h x (List.mem_cons_of_mem _ hx)) fun x hx => hn x (List.mem_cons_of_mem _ hx), sec_apply1 hw, if_neg (hn w (List.mem_cons_self ..))]
theorem im_ext {a b : List (List Sec)} (hs : szs a = szs b) (h : ∀ v i : Nat, v < a.length → i < (ix a (v : Int)).length → sec a v i = sec b v i) : a = b := by
  have hl : a.length = b.length := by rw [← szs_len a, ← szs_len b, hs]
  refine ext_ix hl fun v hv => ext_ix ?_ fun i hi => h v i hv hi
  have : ix (szs a) (v : Int) = ix (szs b) (v : Int) := by rw [hs]
  rw [ix_szs hv, ix_szs (by omega)] at this
  omega
theorem fit_data {l : List Int} {w : api_Write} (hs : sizesE l = 0) (h : fitW l w = 0) : w.Data.length ≤ 4096 := by
  have := fitW_zero (by omega) h; omega
theorem slices_Clone_Sec_ok {l : List Sec} {Φ : List Sec → Prop} (hl : l.length ≤ 1000000) (hΦ : Φ l) : Z10 l Φ :=
  ⟨fun h => (by subst h; exact hΦ), iL hl (by omega), hΦ⟩
theorem image_copiedE_ok {im : List (List Sec)} {Φ : List (List Sec) → Prop} (h : imgE im = 0) (hΦ : Φ im) : Z74 im Φ := by
  have hl := sizesE_len h
  rw [szs_len] at hl
  refine ⟨by omega, iL (by omega) (by omega), ?_⟩
  refine LoopW.upT im.length (fun k => (im.take k, (k : Int))) rfl (fun k rec hk hr => ?_) fun rec => ⟨fun _ => by omega, fun _ => by rw [take_all]; exact hΦ⟩
  have := szs_small h k hk
  refine ⟨fun _ => ⟨iX (by omega) (by omega), slices_Clone_Sec_ok (by omega) ⟨iL (by rw [len_snoc, lenT (by omega)]; omega) (by omega), iI (by omega) (by omega), hr _ (by rw [take_ix hk]; rfl)⟩⟩, fun _ => by omega⟩
theorem appL_take {im : List (List Sec)} {l : List api_Write} {k : Nat} (h : k < l.length) : appL im (l.take (k + 1)) = apply1 (appL im (l.take k)) (ix l (k : Int)) := by rw [take_ix h, appL_snoc]
theorem szs_takeL {im : List (List Sec)} {l : List api_Write} (hs : imgE im = 0) (hf : ∀ w ∈ l, fitW (szs im) w = 0) (k : Nat) : szs (appL im (l.take k)) = szs im := szs_appL (by rw [show sizesE (szs im) = 0 from hs]; simp) fun w hw => hf w (List.mem_of_mem_take hw)
theorem image_Apply_ok {im : List (List Sec)} {l : List api_Write} {Φ : List (List Sec) × Int × Int → Prop} (hl : l.length ≤ 1000000) (hs : imgE im = 0) (hf : ∀ w ∈ l, fitW (szs im) w = 0) (hΦ : Φ (appL im l, 0, 0)) : image_Apply_W im l Φ := by
  have h8 := sizesE_len hs
  rw [szs_len] at h8
  refine image_Check_ok (by omega) ⟨fun q => absurd hs q, fun _ => image_copiedE_ok hs ?_⟩
  refine LoopW.upT l.length (fun k => (appL im (l.take k), (k : Int))) rfl (fun k rec hk hr => ?_) fun rec => ⟨fun _ => by omega, fun _ => by rw [take_all]; exact hΦ⟩
  have hw := hf _ (ix_mem (iX (i := (k : Int)) (n := l.length) (by omega) (by omega)))
  have e := szs_takeL hs hf k
  have hs' : imgE (appL im (l.take k)) = 0 := by unfold imgE; rw [e]; exact hs
  obtain ⟨v, s, hfw⟩ := fitW_of (by rw [show sizesE (szs im) = 0 from hs]; simp) hw
  have hv := hfw.hv
  have hle := hfw.le
  rw [← e, szs_len] at hv
  rw [← e, ix_szs hv] at hle
  refine ⟨fun _ => ⟨iX (by omega) (by omega), image_fits_ok (by have := fit_data (show sizesE (szs im) = 0 from hs) hw; omega) (fun j hj => Nat.le_trans (szs_small hs' j hj) (by omega)) ?_⟩, fun _ => by omega⟩
  rw [e, hw]
  refine ⟨fun q => absurd rfl q, fun _ => ?_⟩
  refine ⟨by rw [hfw.vol]; exact iX (by omega) (by omega), by rw [hfw.vol, hfw.start]; exact iS (by omega) (by omega) (by omega), iI (by omega) (by omega), hr _ (by rw [appL_take hk]; rfl)⟩
theorem cycle_in_ok {x lo hi : Int} {Φ : Bool → Prop} (h : Φ (decide (lo ≤ x ∧ x ≤ hi))) : cycle_in_W x lo hi Φ := by
  refine ⟨fun q => ?_, fun q => ?_⟩
  · rw [show decide (lo ≤ x ∧ x ≤ hi) = decide (x ≤ hi) from by simp [q]] at h; exact h
  · rw [show decide (lo ≤ x ∧ x ≤ hi) = false from decide_eq_false fun r => q r.1] at h; exact h
def fewL (l : List api_Write) : Bool := decide (l.length ≤ 40 ∧ ∀ w ∈ l, w.Data.length ≤ 24)
theorem ref22_Few_ok {l : List api_Write} {Φ : Bool → Prop} (hΦ : Φ (fewL l)) : ref22_Few_W l Φ := by
  have h0 : ¬ (l.length ≤ 40 ∧ ∀ w ∈ l, w.Data.length ≤ 24) → Φ false := fun q => by
    unfold fewL at hΦ; rw [decide_eq_false q] at hΦ; exact hΦ
  have h1 : (l.length ≤ 40 ∧ ∀ w ∈ l, w.Data.length ≤ 24) → Φ true := fun q => by
    unfold fewL at hΦ; rw [decide_eq_true q] at hΦ; exact hΦ
  refine LoopW.upI (min l.length 60) (fun k => (k : Int)) (fun k => ∀ j : Nat, j < k → (ix l (j : Int)).Data.length ≤ 24) rfl (fun j hj => absurd hj (Nat.not_lt_zero j)) (fun k rec hk hI hr => ?_) fun rec hI => ?_
  · refine ⟨fun _ => ?_, fun q => by omega⟩
    rw [decide_eq_true (show (k : Int) < 60 by omega)]
    refine ⟨fun _ => ⟨iX (by omega) (by omega), fun q => h0 fun r => ?_, fun q => ⟨iI (by omega) (by omega), hr (fun j hj => ?_) _ rfl⟩⟩, fun q => absurd rfl q⟩
    · have := r.2 _ (ix_mem (iX (i := (k : Int)) (n := l.length) (by omega) (by omega)))
      omega
    · rcases Nat.lt_or_ge j k with h2 | h2
      · exact hI j h2
      · obtain rfl : j = k := by omega
        omega
  · have fin : Φ (decide ((l.length : Int) ≤ 40)) := by
      by_cases q : l.length ≤ 40
      · rw [decide_eq_true (by omega)]
        refine h1 ⟨q, fun w hw => ?_⟩
        obtain ⟨k, hk, rfl⟩ := List.getElem_of_mem hw
        have := hI k (by omega)
        rwa [ix_get hk] at this
      · rw [decide_eq_false (by omega)]; exact h0 fun r => q r.1
    refine ⟨fun q => ?_, fun _ => ⟨fun r => Bool.noConfusion r, fun _ => fin⟩⟩
    rw [decide_eq_false (show ¬ (((min l.length 60 : Nat) : Int) < 60) by omega)]
    exact ⟨fun r => Bool.noConfusion r, fun _ => fin⟩
def fewC (c : api_Cycle) : Bool := decide (c.Positions.length ≤ 40) && fewL c.Writes
structure FewC (c : api_Cycle) : Prop where
  pos : c.Positions.length ≤ 40
  len : c.Writes.length ≤ 40
  data : ∀ w ∈ c.Writes, w.Data.length ≤ 24
theorem fewC_of {c : api_Cycle} (h : fewC c = true) : FewC c := by
  unfold fewC fewL at h
  simp only [Bool.and_eq_true, decide_eq_true_eq] at h
  exact ⟨h.1, h.2.1, h.2.2⟩
theorem ref23_Few_ok {c : api_Cycle} {Φ : Bool → Prop} (hΦ : Φ (fewC c)) : ref23_Few_W c Φ := by
  refine ⟨fun q => ref22_Few_ok ?_, fun q => ?_⟩
  · unfold fewC at hΦ; rw [decide_eq_true (by omega), Bool.true_and] at hΦ; exact hΦ
  · unfold fewC at hΦ; rw [decide_eq_false (by omega), Bool.false_and] at hΦ; exact hΦ
def posE (l : List Int) : Int := firstN (fun k => if ix l (k : Int) < 0 ∨ 1073741824 < ix l (k : Int) then 2 else 0) l.length
def posR (least : Int) (l : List Int) : Int := if (l.length : Int) < least ∨ 8 < (l.length : Int) then 6 else posE l
theorem cycle_positions_ok {l : List Int} {least : Int} {Φ : Int → Prop} (hl : l.length ≤ 100000) (hΦ : Φ (posR least l)) : Z7 l least Φ := by
  refine cycle_in_ok ⟨fun q => ?_, fun q => ?_⟩
  · have := of_decide_eq_false (Bool.eq_false_iff.2 q)
    unfold posR at hΦ
    rw [if_pos (by omega)] at hΦ; exact hΦ
  · have := of_decide_eq_true (Classical.not_not.1 q)
    unfold posR at hΦ
    rw [if_neg (by omega)] at hΦ
    refine LoopW.errI l.length (fun k => (k : Int)) _ rfl hΦ (fun k rec hk _ h1 h2 => ?_) fun rec _ h0 => ⟨fun _ => by omega, fun _ => ⟨fun _ => by omega, fun _ => h0⟩⟩
    refine ⟨fun _ => ⟨iX (by omega) (by omega), cycle_in_ok ⟨fun r => ?_, fun r => ?_⟩⟩, fun _ => by omega⟩
    · have r := of_decide_eq_true r
      have r : ¬ (0 ≤ ix l (k : Int) ∧ ix l (k : Int) ≤ 1073741824) := fun t => r (decide_eq_true t)
      have c : ix l (k : Int) < 0 ∨ 1073741824 < ix l (k : Int) := by omega
      have := h1 (by rw [if_pos c]; omega)
      rw [if_pos c] at this
      exact ⟨fun _ => this, fun s => by omega⟩
    · have r : ¬ ¬ (decide (0 ≤ ix l (k : Int) ∧ ix l (k : Int) ≤ 1073741824) = true) := fun t => r (decide_eq_true t)
      have r := of_decide_eq_true (Classical.not_not.1 r)
      exact ⟨iI (by omega) (by omega), h2 (if_neg (by omega)) _ rfl⟩
def ordW (sizes : List Int) (l : List api_Write) (k : Nat) : Int :=
  if fitW sizes (ix l (k : Int)) ≠ 0 then fitW sizes (ix l (k : Int)) else if k = 0 then 0 else if (ix l (k : Int)).Volume < (ix l ((k : Int) - 1)).Volume ∨ ((ix l (k : Int)).Volume = (ix l ((k : Int) - 1)).Volume ∧ (ix l (k : Int)).Start ≤ (ix l ((k : Int) - 1)).Start + ((ix l ((k : Int) - 1)).Data.length : Int)) then 3 else 0
def wrsE (sizes : List Int) (l : List api_Write) : Int := firstN (ordW sizes l) l.length
theorem ordW_fit {sizes : List Int} {l : List api_Write} {k : Nat} (h : ordW sizes l k = 0) : fitW sizes (ix l (k : Int)) = 0 := by
  unfold ordW at h
  split at h
  · next q => exact absurd h q
  · next q => exact Classical.not_not.1 q
theorem coalesce_Check_ok {l : List api_Write} {sizes : List Int} {Φ : Int → Prop} (hl : l.length ≤ 100000) (hd : ∀ w ∈ l, w.Data.length ≤ 1000000) (h0 : sizesE sizes ≠ 0 → Φ (sizesE sizes)) (h1 : sizesE sizes = 0 → Φ (wrsE sizes l)) : Z53 l sizes Φ := by
  refine image_New_ok (fun hs => ⟨fun q => absurd rfl q, fun _ => ?_⟩) fun hs => ⟨fun _ => h0 hs, fun q => absurd hs q⟩
  have e := szs_zeroI hs
  refine LoopW.errI l.length (fun k => (k : Int)) _ rfl (h1 hs) (fun k rec hk hj g1 g2 => ⟨fun _ => ⟨iX (by omega) (by omega), ?_⟩, fun _ => by omega⟩) fun rec _ h0 => ⟨fun _ => by omega, fun _ => h0⟩
  have hmem := hd _ (ix_mem (iX (i := (k : Int)) (n := l.length) (by omega) (by omega)))
  refine image_Fits_ok hmem (by unfold imgE; rw [e]; exact hs) ?_
  rw [e]
  unfold ordW at g1 g2
  refine ⟨fun q => ?_, fun q => ?_⟩
  · rw [if_pos q] at g1; exact g1 q
  · rw [if_neg q] at g1 g2
    refine ⟨fun r => ?_, fun r => ?_⟩
    · rw [if_pos (by omega)] at g2
      exact ⟨iI (by omega) (by omega), g2 rfl _ rfl⟩
    · rw [if_neg (by omega)] at g1 g2
      have hp := ordW_fit (hj (k - 1) (by omega))
      obtain ⟨v, s, hf⟩ := fitW_of (by omega) hp
      have z1 := hf.le
      have z2 := hf.top
      have z3 := hf.start
      have ek : ((k - 1 : Nat) : Int) = (k : Int) - 1 := by omega
      rw [ek] at z1 z3
      refine ⟨iI (by omega) (by omega), iX (by omega) (by omega), fun t => ?_, fun t => ⟨fun u => ⟨iI (by omega) (by omega), fun x => ?_, fun x => ?_⟩, fun u => ?_⟩⟩
      · rw [if_pos (.inl t)] at g1; exact g1 (by omega)
      · rw [if_pos (.inr ⟨u, x⟩)] at g1; exact g1 (by omega)
      · rw [if_neg (by omega)] at g2; exact ⟨iI (by omega) (by omega), g2 rfl _ rfl⟩
      · rw [if_neg (by omega)] at g2; exact ⟨iI (by omega) (by omega), g2 rfl _ rfl⟩
def cycE (c : api_Cycle) (sizes : List Int) : Int :=
  if sizesE sizes ≠ 0 then sizesE sizes else if c.Base < 0 ∨ c.Number ≤ c.Base ∨ 1073741824 < c.Number then 2 else if c.Time < 0 ∨ 1073741824 < c.Time then 24 else if posR 0 c.Positions ≠ 0 then posR 0 c.Positions else wrsE sizes c.Writes
theorem cycle_Check_ok {c : api_Cycle} {sizes : List Int} {Φ : Int → Prop} (hp : c.Positions.length ≤ 100000) (hl : c.Writes.length ≤ 100000) (hd : ∀ w ∈ c.Writes, w.Data.length ≤ 1000000) (hΦ : Φ (cycE c sizes)) : cycle_Check_W c sizes Φ := by
  unfold cycE at hΦ
  refine image_New_ok (fun hs => ⟨fun q => absurd rfl q, fun _ => ?_⟩) fun hs => ⟨fun _ => by rw [if_pos hs] at hΦ; exact hΦ, fun q => absurd hs q⟩
  rw [if_neg (by omega)] at hΦ
  have J : ∀ b : Bool, (b = true ↔ c.Base < 0 ∨ c.Number ≤ c.Base ∨ 1073741824 < c.Number) → Z54 c sizes Φ b := fun b hb => by
    refine ⟨fun q => by rw [if_pos (hb.1 q)] at hΦ; exact hΦ, fun q => ?_⟩
    rw [if_neg fun r => q (hb.2 r)] at hΦ
    refine cycle_in_ok ⟨fun r => ?_, fun r => ?_⟩
    · have := of_decide_eq_false (Bool.eq_false_iff.2 r)
      rw [if_pos (by omega)] at hΦ; exact hΦ
    · have := of_decide_eq_true (Classical.not_not.1 r)
      rw [if_neg (by omega)] at hΦ
      refine cycle_positions_ok hp ⟨fun t => by rw [if_pos t] at hΦ; exact hΦ, fun t => ?_⟩
      rw [if_neg t] at hΦ
      exact coalesce_Check_ok hl hd (fun u => absurd hs u) fun _ => hΦ
  exact ⟨fun q => J true ⟨fun _ => .inl q, fun _ => rfl⟩, fun q => ⟨fun r => J true ⟨fun _ => .inr (.inl r), fun _ => rfl⟩, fun r => J _ (by simp; omega)⟩⟩
structure SmallC (c : api_Capture) : Prop where
  sizes : c.Sizes.length ≤ 20
  pos : c.Positions.length ≤ 20
  nodes : c.Nodes.length ≤ 60
  len : c.Writes.length ≤ 40
  data : ∀ w ∈ c.Writes, w.Data.length ≤ 24
theorem slices_Clone_int_ok {l : List Int} {Φ : List Int → Prop} (hl : l.length ≤ 1000000) (hΦ : Φ l) : Z3 l Φ :=
  ⟨fun h => (by subst h; exact hΦ), iL hl (by omega), hΦ⟩
def cap0 : api_Capture := ⟨0, [], [], [], []⟩
structure MidC (c : api_Capture) : Prop where
  sizes : c.Sizes.length ≤ 100000
  pos : c.Positions.length ≤ 100000
  nodes : c.Nodes.length ≤ 100000
  len : c.Writes.length ≤ 100000
  data : ∀ w ∈ c.Writes, w.Data.length ≤ 1000000
theorem SmallC.mid {c : api_Capture} (h : SmallC c) : MidC c := ⟨by have := h.sizes; omega, by have := h.pos; omega, by have := h.nodes; omega, by have := h.len; omega, fun w hw => by have := h.data w hw; omega⟩
theorem MidC.zero : MidC cap0 := ⟨Nat.zero_le _, Nat.zero_le _, Nat.zero_le _, Nat.zero_le _, fun _ hw => absurd hw List.not_mem_nil⟩
theorem mfindP {κ ν : Type} [DecidableEq κ] (k : κ) (v : ν) (c : κ) : ∀ m : List (κ × ν), mfind (mput m k v) c = if c = k then some v else mfind m c
  | [] => by unfold mput mfind mfind; rfl
  | p :: m => by
    unfold mput
    by_cases h : k = p.1
    · rw [if_pos h]
      unfold mfind
      by_cases hc : c = k
      · rw [if_pos (by rw [hc, h]), if_pos hc]
      · rw [if_neg (fun t => hc (t.trans h.symm)), if_neg hc, if_neg (fun t => hc (t.trans h.symm))]
    · rw [if_neg h]
      unfold mfind
      rw [mfindP k v c m]
      by_cases hc : c = k
      · rw [if_neg (fun t => h (hc.symm.trans t)), if_pos hc, if_pos hc]
      · rw [if_neg hc, if_neg hc]
theorem mkeys_mem {κ ν : Type} [DecidableEq κ] (c : κ) : ∀ m : List (κ × ν), c ∈ m.map (·.1) ↔ ∃ d, mfind m c = some d
  | [] => by simp [mfind]
  | p :: m => by
    unfold mfind
    by_cases h : c = p.1
    · rw [if_pos h]; simp [h]
    · rw [if_neg h, ← mkeys_mem c m, List.map_cons, List.mem_cons]
      exact ⟨fun q => q.resolve_left h, .inr⟩
theorem mput_keys {κ ν : Type} [DecidableEq κ] (k : κ) (v : ν) {m : List (κ × ν)} (c : κ) : c ∈ (mput m k v).map (·.1) ↔ c = k ∨ c ∈ m.map (·.1) := by
  rw [mkeys_mem, mkeys_mem, mfindP]
  by_cases h : c = k
  · rw [if_pos h]; exact ⟨fun _ => .inl h, fun _ => ⟨v, rfl⟩⟩
  · rw [if_neg h]; exact ⟨.inr, fun q => q.resolve_left h⟩
theorem mput_nodup {κ ν : Type} [DecidableEq κ] (k : κ) (v : ν) : ∀ {m : List (κ × ν)}, (m.map (·.1)).Nodup → ((mput m k v).map (·.1)).Nodup
  | [], _ => by simp [mput]
  | p :: m, h => by
    have h1 := List.nodup_cons.1 (show (p.1 :: m.map (·.1)).Nodup from h)
    unfold mput
    by_cases hk : k = p.1
    · rw [if_pos hk]; exact h
    · rw [if_neg hk]
      refine List.nodup_cons.2 ⟨fun q => ?_, mput_nodup k v h1.2⟩
      rcases (mput_keys k v p.1).1 q with q | q
      · exact hk q.symm
      · exact h1.1 q
theorem wrM_nodup {v : Int} : ∀ (l : List Sec) (m : List (coalesce_place × Sec)) (s : Int), (m.map (·.1)).Nodup → ((wrM m v s l).map (·.1)).Nodup
  | [], _, _, h => h
  | _ :: l, _, _, h => wrM_nodup l _ _ (mput_nodup _ _ h)
theorem effM_nodup (l : List api_Write) : ((effM l).map (·.1)).Nodup := by
  refine snocInd (P := fun l => ((effM l).map (·.1)).Nodup) List.nodup_nil (fun l w h => ?_) l
  rw [effM_snoc]; exact wrM_nodup _ _ _ h
theorem ix_cons {α : Type} [Dt α] (x : α) (l : List α) (i : Int) (h : 0 ≤ i) : ix (x :: l) i = if i = 0 then x else ix l (i - 1) := by
  obtain ⟨k, rfl⟩ := Int.eq_ofNat_of_zero_le h
  cases k with
  | zero => rfl
  | succ k => rw [if_neg (by omega), show ((k + 1 : Nat) : Int) - 1 = (k : Int) by omega]; rfl
theorem wrM_find {v : Int} (q : coalesce_place) : ∀ (l : List Sec) (m : List (coalesce_place × Sec)) (s : Int), mfind (wrM m v s l) q = if q.volume = v ∧ s ≤ q.sector ∧ q.sector < s + (l.length : Int) then some (ix l (q.sector - s)) else mfind m q
  | [], m, s => by rw [if_neg (by rw [List.length_nil]; omega)]; rfl
  | d :: l, m, s => by
    have el : ((d :: l).length : Int) = (l.length : Int) + 1 := by rw [List.length_cons]; rfl
    rw [wrM, wrM_find q l, mfindP, el]
    by_cases h : q.volume = v ∧ s ≤ q.sector ∧ q.sector < s + ((l.length : Int) + 1)
    · rw [if_pos h, ix_cons _ _ _ (by omega)]
      by_cases h0 : q.sector = s
      · rw [if_neg (by omega), if_pos (place_ext h.1 h0), if_pos (by omega)]
      · rw [if_pos (by omega), if_neg (by omega), show q.sector - (s + 1) = q.sector - s - 1 by omega]
    · rw [if_neg h, if_neg (by omega), if_neg (fun t => h (by rw [t]; exact ⟨rfl, Int.le_refl _, by show s < _; omega⟩))]
theorem wrM_sum {v : Int} (l : List Sec) (m : List (coalesce_place × Sec)) (s : Int) : (wrM m v s l).length ≤ m.length + l.length := wrM_len l m s
def secN (l : List api_Write) : Nat := (l.map (·.Data.length)).sum
theorem secN_append (a b : List api_Write) : secN (a ++ b) = secN a + secN b := by unfold secN; rw [List.map_append, List.sum_append_nat]
theorem secN_one (w : api_Write) : secN [w] = w.Data.length := by simp [secN]
theorem effM_sum (l : List api_Write) : (effM l).length ≤ secN l := by
  refine snocInd (P := fun l => (effM l).length ≤ secN l) (Nat.le_refl _) (fun l w h => ?_) l
  rw [effM_snoc, secN_append, secN_one]
  have := wrM_sum (v := w.Volume) w.Data (effM l) w.Start
  omega
theorem sec_eff {im : List (List Sec)} (hs : ¬ sizesE (szs im) ≠ 0) {v i : Nat} (l : List api_Write) : (∀ w ∈ l, fitW (szs im) w = 0) → sec (appL im l) v i = mget (effM l) ⟨(v : Int), (i : Int)⟩ (sec im v i) := by
  refine snocInd (P := fun l => (∀ w ∈ l, fitW (szs im) w = 0) → sec (appL im l) v i = mget (effM l) ⟨(v : Int), (i : Int)⟩ (sec im v i)) (fun _ => rfl) (fun l w ih h => ?_) l
  have hl : ∀ x ∈ l, fitW (szs im) x = 0 := fun x hx => h x (List.mem_append_left _ hx)
  have e := szs_appL hs hl
  obtain ⟨v0, s0, hw⟩ := fitW_of (sizes := szs (appL im l)) (w := w) (by rw [e]; exact hs) (by rw [e]; exact h w (by simp))
  rw [appL_snoc, effM_snoc, sec_apply1 hw, ih hl]
  unfold mget
  rw [wrM_find]
  by_cases hc : covW w v i
  · rw [if_pos hc, if_pos (by unfold covW at hc; exact ⟨hc.1.symm, hc.2.1, hc.2.2⟩)]
  · rw [if_neg hc, if_neg (fun t => hc (by unfold covW; exact ⟨t.1.symm, t.2.1, t.2.2⟩))]
def behW (w : api_Write) : coalesce_place := ⟨w.Volume, w.Start + (w.Data.length : Int)⟩
def stepR (m : List (coalesce_place × Sec)) (R : List api_Write) (p : coalesce_place) : List api_Write :=
  match R with
  | [] => [⟨p.volume, p.sector, [mget m p sec0]⟩]
  | w :: r => if p = behW w then ⟨w.Volume, w.Start, w.Data ++ [mget m p sec0]⟩ :: r else ⟨p.volume, p.sector, [mget m p sec0]⟩ :: w :: r
theorem clsW_snoc (xs : List api_Write) (w : api_Write) (ys : List Sec) : clsW (xs ++ [w]) ys = xs ++ [⟨w.Volume, w.Start, ys⟩] := by
  have e : (((xs ++ [w]).length : Nat) : Int) - 1 = (xs.length : Int) := by rw [len_snoc]; omega
  have g : ix (xs ++ [w]) (xs.length : Int) = w := by rw [ix_get (by rw [len_snoc]; omega)]; simp
  unfold clsW
  rw [e, g]
  show (xs ++ [w]).set xs.length _ = _
  rw [List.set_append_right _ _ (Nat.le_refl _), Nat.sub_self]; rfl
def InvG (st : coalesce_place × List api_Write × List Sec) : List api_Write → Prop
  | [] => st = (⟨-1, 0⟩, [], [])
  | w :: r => st.1 = behW w ∧ st.2.2 = w.Data ∧ ∃ d, st.2.1 = r.reverse ++ [⟨w.Volume, w.Start, d⟩]
theorem InvG.cls {st : coalesce_place × List api_Write × List Sec} : ∀ {R : List api_Write}, InvG st R → clsW st.2.1 st.2.2 = R.reverse
  | [], h => by rw [show st = (⟨-1, 0⟩, [], []) from h]; rfl
  | w :: r, ⟨_, h2, d, h3⟩ => by rw [h3, clsW_snoc, h2, List.reverse_cons]
theorem grpL_inv (m : List (coalesce_place × Sec)) (ps : List coalesce_place) : (∀ p ∈ ps, 0 ≤ p.volume) → InvG (grpL m ps) (ps.foldl (stepR m) []) := by
  refine snocInd (P := fun ps => (∀ p ∈ ps, 0 ≤ p.volume) → InvG (grpL m ps) (ps.foldl (stepR m) [])) (fun _ => rfl) (fun ps p ih h => ?_) ps
  have ih := ih fun q hq => h q (List.mem_append_left _ hq)
  have hp := h p (by simp)
  rw [grpL_snoc, List.foldl_append]
  show InvG (grpS m (grpL m ps) p) (stepR m (ps.foldl (stepR m) []) p)
  have hc := ih.cls
  generalize ps.foldl (stepR m) [] = R at ih hc ⊢
  generalize grpL m ps = st at ih hc ⊢
  unfold grpS
  cases R with
  | nil =>
    have e : st = (⟨-1, 0⟩, [], []) := ih
    rw [if_pos (by rw [e]; rintro rfl; exact absurd hp (by show ¬ ((0 : Int) ≤ -1); omega)), hc]
    exact ⟨rfl, rfl, [], rfl⟩
  | cons w r =>
    obtain ⟨h1, h2, d, h3⟩ := ih
    unfold stepR
    by_cases hb : p = behW w
    · simp only [if_pos hb]
      rw [if_neg (by rw [h1, hb]; exact fun t => t rfl)]
      refine ⟨?_, by show st.2.2 ++ _ = _; rw [h2], d, h3⟩
      show (⟨p.volume, p.sector + 1⟩ : coalesce_place) = behW ⟨w.Volume, w.Start, w.Data ++ [mget m p sec0]⟩
      unfold behW
      rw [hb, len_snoc]
      exact place_ext rfl (by show w.Start + (w.Data.length : Int) + 1 = w.Start + ((w.Data.length + 1 : Nat) : Int); omega)
    · simp only [if_neg hb]
      rw [if_pos (by rw [h1]; exact hb), hc]
      exact ⟨rfl, rfl, [], rfl⟩
def ltQ (a b : coalesce_place) : Prop := a.volume < b.volume ∨ a.volume = b.volume ∧ a.sector < b.sector
def gapW (y x : api_Write) : Prop := y.Volume < x.Volume ∨ y.Volume = x.Volume ∧ y.Start + (y.Data.length : Int) < x.Start
structure Grp (m : List (coalesce_place × Sec)) (ps : List coalesce_place) (R : List api_Write) : Prop where
  ne : ∀ w ∈ R, 0 < w.Data.length
  gap : R.Pairwise fun x y => gapW y x
  mem : ∀ w ∈ R, ∀ j : Nat, j < w.Data.length → (⟨w.Volume, w.Start + (j : Int)⟩ : coalesce_place) ∈ ps ∧ ix w.Data (j : Int) = mget m ⟨w.Volume, w.Start + (j : Int)⟩ sec0
  cov : ∀ p ∈ ps, ∃ w ∈ R, w.Volume = p.volume ∧ w.Start ≤ p.sector ∧ p.sector < w.Start + (w.Data.length : Int)
  sum : secN R = ps.length
theorem ix_snoc {α : Type} [Dt α] (xs : List α) (x : α) (j : Nat) (h : j < (xs ++ [x]).length) : ix (xs ++ [x]) (j : Int) = if j = xs.length then x else ix xs (j : Int) := by
  rw [len_snoc] at h
  by_cases e : j = xs.length
  · rw [if_pos e, ix_get (by rw [len_snoc]; omega)]; simp [e]
  · rw [if_neg e, ix_get (by rw [len_snoc]; omega), ix_get (by omega), List.getElem_append_left (by omega)]
theorem Grp.step {m : List (coalesce_place × Sec)} {ps : List coalesce_place} {R : List api_Write} (g : Grp m ps R) {p : coalesce_place} (hp : ∀ q ∈ ps, ltQ q p) : Grp m (ps ++ [p]) (stepR m R p) := by
  have one : ∀ (w : api_Write), w ∈ R → w.Volume < p.volume ∨ w.Volume = p.volume ∧ w.Start + (w.Data.length : Int) ≤ p.sector := fun w hw => by
    have h0 := g.ne w hw
    have h1 := hp _ (g.mem w hw (w.Data.length - 1) (by omega)).1
    unfold ltQ at h1
    simp only at h1
    omega
  have nw : ∀ j : Nat, j < [mget m p sec0].length → (⟨p.volume, p.sector + (j : Int)⟩ : coalesce_place) ∈ ps ++ [p] ∧ ix [mget m p sec0] (j : Int) = mget m ⟨p.volume, p.sector + (j : Int)⟩ sec0 := fun j hj => by
    obtain rfl : j = 0 := by simpa using hj
    have e : (⟨p.volume, p.sector + ((0 : Nat) : Int)⟩ : coalesce_place) = p := place_ext rfl (by show p.sector + ((0 : Nat) : Int) = p.sector; omega)
    rw [e]; exact ⟨by simp, rfl⟩
  have old : ∀ w ∈ R, ∀ j : Nat, j < w.Data.length → (⟨w.Volume, w.Start + (j : Int)⟩ : coalesce_place) ∈ ps ++ [p] ∧ ix w.Data (j : Int) = mget m ⟨w.Volume, w.Start + (j : Int)⟩ sec0 := fun w hw j hj => ⟨List.mem_append_left _ (g.mem w hw j hj).1, (g.mem w hw j hj).2⟩
  have push : (∀ w ∈ R, p ≠ behW w) → Grp m (ps ++ [p]) (⟨p.volume, p.sector, [mget m p sec0]⟩ :: R) := fun hb => by
    refine ⟨fun w hw => ?_, List.pairwise_cons.2 ⟨fun y hy => ?_, g.gap⟩, fun w hw => ?_, fun q hq => ?_, ?_⟩
    · rcases List.mem_cons.1 hw with rfl | hw
      · exact Nat.zero_lt_one
      · exact g.ne w hw
    · have h1 := one y hy
      have h2 := hb y hy
      unfold gapW
      rcases h1 with h1 | h1
      · exact .inl h1
      · refine .inr ⟨h1.1, ?_⟩
        show y.Start + (y.Data.length : Int) < p.sector
        have : y.Start + (y.Data.length : Int) ≠ p.sector := fun t => h2 (place_ext h1.1.symm t.symm)
        omega
    · rcases List.mem_cons.1 hw with rfl | hw
      · exact nw
      · exact old w hw
    · rcases List.mem_append.1 hq with hq | hq
      · obtain ⟨w, hw, h⟩ := g.cov q hq
        exact ⟨w, List.mem_cons_of_mem _ hw, h⟩
      · obtain rfl := List.mem_singleton.1 hq
        exact ⟨_, List.mem_cons_self .., rfl, Int.le_refl _, by show q.sector < q.sector + ((1 : Nat) : Int); omega⟩
    · have := g.sum
      unfold secN at *
      rw [List.map_cons, List.sum_cons, this, len_snoc]
      show 1 + ps.length = _
      omega
  cases R with
  | nil => exact push fun w hw => absurd hw List.not_mem_nil
  | cons w r =>
    have gp := List.pairwise_cons.1 g.gap
    unfold stepR
    by_cases hb : p = behW w
    · simp only [if_pos hb]
      have hv : w.Volume = p.volume := by rw [hb]; rfl
      have hsx : w.Start + (w.Data.length : Int) = p.sector := by rw [hb]; rfl
      refine ⟨fun x hx => ?_, List.pairwise_cons.2 ⟨fun y hy => gp.1 y hy, gp.2⟩, fun x hx => ?_, fun q hq => ?_, ?_⟩
      · rcases List.mem_cons.1 hx with rfl | hx
        · show 0 < (w.Data ++ _).length
          rw [len_snoc]; omega
        · exact g.ne x (List.mem_cons_of_mem _ hx)
      · rcases List.mem_cons.1 hx with rfl | hx
        · intro j hj
          have hj : j < (w.Data ++ [mget m p sec0]).length := hj
          show (⟨w.Volume, w.Start + (j : Int)⟩ : coalesce_place) ∈ ps ++ [p] ∧ ix (w.Data ++ [mget m p sec0]) (j : Int) = _
          rw [ix_snoc _ _ _ hj]
          rw [len_snoc] at hj
          by_cases e : j = w.Data.length
          · have ep : (⟨w.Volume, w.Start + (j : Int)⟩ : coalesce_place) = p := place_ext hv (by show w.Start + (j : Int) = _; omega)
            rw [if_pos e]
            exact ⟨by rw [ep]; simp, by show _ = mget m (⟨w.Volume, w.Start + (j : Int)⟩ : coalesce_place) sec0; rw [ep]⟩
          · rw [if_neg e]
            exact old w (List.mem_cons_self ..) j (by omega)
        · exact old x (List.mem_cons_of_mem _ hx)
      · rcases List.mem_append.1 hq with hq | hq
        · obtain ⟨x, hx, h1, h2, h3⟩ := g.cov q hq
          rcases List.mem_cons.1 hx with rfl | hx
          · exact ⟨_, List.mem_cons_self .., h1, h2, by show q.sector < x.Start + ((x.Data ++ [mget m p sec0]).length : Int); rw [len_snoc]; omega⟩
          · exact ⟨x, List.mem_cons_of_mem _ hx, h1, h2, h3⟩
        · obtain rfl := List.mem_singleton.1 hq
          exact ⟨_, List.mem_cons_self .., hv, by show w.Start ≤ _; omega, by show q.sector < w.Start + ((w.Data ++ [mget m q sec0]).length : Int); rw [len_snoc]; omega⟩
      · have := g.sum
        unfold secN at *
        rw [List.map_cons, List.sum_cons] at *
        rw [len_snoc, len_snoc]
        omega
    · simp only [if_neg hb]
      refine push fun y hy => ?_
      rcases List.mem_cons.1 hy with rfl | hy
      · exact hb
      · rintro rfl
        have h1 := gp.1 y hy
        have h2 := one w (List.mem_cons_self ..)
        have h3 := g.ne w (List.mem_cons_self ..)
        unfold gapW at h1
        unfold behW at h2
        simp only at h2
        omega
theorem grp_all (m : List (coalesce_place × Sec)) (ps : List coalesce_place) : ps.Pairwise ltQ → Grp m ps (ps.foldl (stepR m) []) := by
  refine snocInd (P := fun ps => ps.Pairwise ltQ → Grp m ps (ps.foldl (stepR m) [])) (fun _ => ⟨fun w hw => absurd hw List.not_mem_nil, List.Pairwise.nil, fun w hw => absurd hw List.not_mem_nil, fun p hp => absurd hp List.not_mem_nil, rfl⟩) (fun ps p ih h => ?_) ps
  rw [List.foldl_append]
  have h1 := List.pairwise_append.1 h
  exact (ih h1.1).step fun q hq => h1.2.2 q hq p (by simp)
theorem keys_sorted {m : List (coalesce_place × Sec)} (hn : (m.map (·.1)).Nodup) : (sortG pleB (m.map (·.1))).Pairwise ltQ := by
  have h1 := sortG_sorted ple_total ple_trans (m.map (·.1))
  have h2 : (sortG pleB (m.map (·.1))).Nodup := (sortG_perm pleB _).nodup_iff.2 hn
  refine (List.Pairwise.and h1 h2).imp fun {a b} h => ?_
  have := h.1
  unfold pleB at this
  simp only [decide_eq_true_eq] at this
  unfold ltQ
  have : ¬ (a.volume = b.volume ∧ a.sector = b.sector) := fun t => h.2 (place_ext t.1 t.2)
  omega
theorem canL_grp {m : List (coalesce_place × Sec)} (hn : (m.map (·.1)).Nodup) (hv : ∀ q ∈ m, 0 ≤ q.1.volume) : ∃ R, Grp m (sortG pleB (m.map (·.1))) R ∧ canL m = R.reverse := by
  refine ⟨_, grp_all m _ (keys_sorted hn), (grpL_inv m _ fun p hp => ?_).cls⟩
  obtain ⟨q, hq, rfl⟩ := List.mem_map.1 ((sortG_perm pleB _).mem_iff.1 hp)
  exact hv q hq
structure Can (m : List (coalesce_place × Sec)) (ws : List api_Write) : Prop where
  ne : ∀ w ∈ ws, 0 < w.Data.length
  gap : ws.Pairwise gapW
  mem : ∀ w ∈ ws, ∀ j : Nat, j < w.Data.length → mfind m ⟨w.Volume, w.Start + (j : Int)⟩ = some (ix w.Data (j : Int))
  cov : ∀ p d, mfind m p = some d → ∃ w ∈ ws, w.Volume = p.volume ∧ w.Start ≤ p.sector ∧ p.sector < w.Start + (w.Data.length : Int)
  sum : secN ws = m.length
theorem secN_reverse (l : List api_Write) : secN l.reverse = secN l := by
  unfold secN; rw [List.map_reverse, List.sum_reverse]
theorem canL_can {m : List (coalesce_place × Sec)} (hn : (m.map (·.1)).Nodup) (hv : ∀ q ∈ m, 0 ≤ q.1.volume) : Can m (canL m) := by
  obtain ⟨R, g, e⟩ := canL_grp hn hv
  have pm : ∀ p, p ∈ sortG pleB (m.map (·.1)) ↔ ∃ d, mfind m p = some d := fun p => ((sortG_perm pleB _).mem_iff).trans (mkeys_mem p m)
  rw [e]
  refine ⟨fun w hw => g.ne w (List.mem_reverse.1 hw), List.pairwise_reverse.2 g.gap, fun w hw j hj => ?_, fun p d h => ?_, ?_⟩
  · obtain ⟨h1, h2⟩ := g.mem w (List.mem_reverse.1 hw) j hj
    obtain ⟨d, hd⟩ := (pm _).1 h1
    unfold mget at h2
    rw [hd] at h2
    rw [hd, h2]
  · obtain ⟨w, hw, h⟩ := g.cov p ((pm p).2 ⟨d, h⟩)
    exact ⟨w, List.mem_reverse.2 hw, h⟩
  · rw [secN_reverse, g.sum, (sortG_perm pleB _).length_eq, List.length_map]
theorem eff_in {sizes : List Int} (hs : ¬ sizesE sizes ≠ 0) {l : List api_Write} (hf : ∀ w ∈ l, fitW sizes w = 0) : ∀ q ∈ effM l, 0 ≤ q.1.volume ∧ q.1.volume < (sizes.length : Int) ∧ 0 ≤ q.1.sector ∧ q.1.sector < ix sizes q.1.volume := by
  revert hf
  refine snocInd (P := fun l => (∀ w ∈ l, fitW sizes w = 0) → ∀ q ∈ effM l, 0 ≤ q.1.volume ∧ q.1.volume < (sizes.length : Int) ∧ 0 ≤ q.1.sector ∧ q.1.sector < ix sizes q.1.volume) (fun _ q hq => absurd hq List.not_mem_nil) (fun l w ih h => ?_) l
  have ih := ih fun x hx => h x (List.mem_append_left _ hx)
  obtain ⟨v, s, hw⟩ := fitW_of hs (h w (by simp))
  have e1 := hw.vol
  have e2 := hw.start
  have e3 := hw.hv
  have e4 := hw.le
  rw [effM_snoc]
  refine wrM_all (p := fun c => 0 ≤ c.volume ∧ c.volume < (sizes.length : Int) ∧ 0 ≤ c.sector ∧ c.sector < ix sizes c.volume) _ _ _ (fun j hj => ?_) ih
  rw [e1, e2]
  exact ⟨by show (0 : Int) ≤ (v : Int); omega, by show (v : Int) < _; omega, by show (0 : Int) ≤ (s : Int) + (j : Int); omega, by show (s : Int) + (j : Int) < ix sizes (v : Int); omega⟩
theorem mkey_of {m : List (coalesce_place × Sec)} {p : coalesce_place} {d : Sec} (h : mfind m p = some d) : ∃ q ∈ m, q.1 = p := by
  have := (mkeys_mem p m).2 ⟨d, h⟩
  obtain ⟨q, hq, e⟩ := List.mem_map.1 this
  exact ⟨q, hq, e⟩
theorem can_fit {sizes : List Int} {m : List (coalesce_place × Sec)} {ws : List api_Write} (c : Can m ws) (hm : ∀ q ∈ m, 0 ≤ q.1.volume ∧ q.1.volume < (sizes.length : Int) ∧ 0 ≤ q.1.sector ∧ q.1.sector < ix sizes q.1.volume) : ∀ w ∈ ws, fitW sizes w = 0 := fun w hw => by
  have h0 := c.ne w hw
  obtain ⟨q1, hq1, e1⟩ := mkey_of (c.mem w hw 0 h0)
  obtain ⟨q2, hq2, e2⟩ := mkey_of (c.mem w hw (w.Data.length - 1) (by omega))
  have b1 := hm q1 hq1
  have b2 := hm q2 hq2
  rw [e1] at b1
  rw [e2] at b2
  simp only at b1 b2
  unfold fitW
  rw [if_neg (by omega), if_neg (by omega), if_neg (by omega)]
theorem can_ord {sizes : List Int} {m : List (coalesce_place × Sec)} {ws : List api_Write} (c : Can m ws) (hf : ∀ w ∈ ws, fitW sizes w = 0) : wrsE sizes ws = 0 := by
  refine firstN_zero.2 fun k hk => ?_
  unfold ordW
  rw [if_neg (fun t => t (hf _ (ix_mem (iX (by omega) (by omega)))))]
  by_cases h0 : k = 0
  · rw [if_pos h0]
  · rw [if_neg h0]
    have g := List.pairwise_iff_getElem.1 c.gap (k - 1) k (by omega) hk (by omega)
    rw [← ix_get (by omega), ← ix_get hk, show ((k - 1 : Nat) : Int) = (k : Int) - 1 by omega] at g
    unfold gapW at g
    rw [if_neg (by omega)]
theorem sec_can {im : List (List Sec)} (hs : ¬ sizesE (szs im) ≠ 0) {m : List (coalesce_place × Sec)} {ws : List api_Write} (c : Can m ws) (hf : ∀ w ∈ ws, fitW (szs im) w = 0) (v i : Nat) : sec (appL im ws) v i = mget m ⟨(v : Int), (i : Int)⟩ (sec im v i) := by
  have hcv : ∀ w ∈ ws, covW w v i → mfind m ⟨(v : Int), (i : Int)⟩ = some (ix w.Data ((i : Int) - w.Start)) := fun w hw hc => by
    unfold covW at hc
    obtain ⟨j, hj⟩ := Int.eq_ofNat_of_zero_le (show 0 ≤ (i : Int) - w.Start by omega)
    have := c.mem w hw j (by omega)
    rw [hj, ← this]
    congr 1
    exact place_ext hc.1.symm (by show (i : Int) = w.Start + (j : Int); omega)
  unfold mget
  cases hm : mfind m ⟨(v : Int), (i : Int)⟩ with
  | none => exact sec_none hs hf fun w hw hc => by rw [hcv w hw hc] at hm; cases hm
  | some d =>
    have key : ∀ (l : List api_Write), (∀ w ∈ l, fitW (szs im) w = 0) → (∀ w ∈ l, covW w v i → ix w.Data ((i : Int) - w.Start) = d) → (∃ w ∈ l, covW w v i) → sec (appL im l) v i = d := by
      intro l
      refine snocInd (P := fun l => (∀ w ∈ l, fitW (szs im) w = 0) → (∀ w ∈ l, covW w v i → ix w.Data ((i : Int) - w.Start) = d) → (∃ w ∈ l, covW w v i) → sec (appL im l) v i = d) (fun _ _ h => ?_) (fun l w ih h1 h2 h3 => ?_) l
      · obtain ⟨w, hw, _⟩ := h; exact absurd hw List.not_mem_nil
      · have hl : ∀ x ∈ l, fitW (szs im) x = 0 := fun x hx => h1 x (List.mem_append_left _ hx)
        have e := szs_appL hs hl
        obtain ⟨v0, s0, hw⟩ := fitW_of (sizes := szs (appL im l)) (w := w) (by rw [e]; exact hs) (by rw [e]; exact h1 w (by simp))
        rw [appL_snoc, sec_apply1 hw]
        by_cases hc : covW w v i
        · rw [if_pos hc]; exact h2 w (by simp) hc
        · rw [if_neg hc]
          refine ih hl (fun x hx => h2 x (List.mem_append_left _ hx)) ?_
          obtain ⟨x, hx, hcx⟩ := h3
          rcases List.mem_append.1 hx with hx | hx
          · exact ⟨x, hx, hcx⟩
          · rw [List.mem_singleton.1 hx] at hcx; exact absurd hcx hc
    refine key ws hf (fun w hw hc => ?_) ?_
    · have := hcv w hw hc
      rw [hm] at this
      exact (Option.some.inj this).symm
    · obtain ⟨w, hw, h1, h2, h3⟩ := c.cov _ _ hm
      exact ⟨w, hw, h1, h2, h3⟩
theorem can_eff {sizes : List Int} (hs : ¬ sizesE sizes ≠ 0) {l : List api_Write} (hf : ∀ w ∈ l, fitW sizes w = 0) : Can (effM l) (canL (effM l)) := canL_can (effM_nodup l) fun q hq => (eff_in hs hf q hq).1
theorem appL_can {im : List (List Sec)} (hs : ¬ sizesE (szs im) ≠ 0) {l : List api_Write} (hf : ∀ w ∈ l, fitW (szs im) w = 0) : appL im (canL (effM l)) = appL im l := by
  have c := can_eff hs hf
  have cf := can_fit c (eff_in hs hf)
  refine im_ext (by rw [szs_appL hs cf, szs_appL hs hf]) fun v i _ _ => ?_
  rw [sec_can hs c cf, sec_eff hs l hf]
theorem appL_again {im : List (List Sec)} (hs : ¬ sizesE (szs im) ≠ 0) {a b : List api_Write} (hf : ∀ w ∈ a ++ b, fitW (szs im) w = 0) : appL (appL im a) (canL (effM (a ++ b))) = appL im (a ++ b) := by
  have ha : ∀ w ∈ a, fitW (szs im) w = 0 := fun w hw => hf w (List.mem_append_left _ hw)
  have e := szs_appL hs ha
  have hs' : ¬ sizesE (szs (appL im a)) ≠ 0 := by rw [e]; exact hs
  have hf' : ∀ w ∈ a ++ b, fitW (szs (appL im a)) w = 0 := by rw [e]; exact hf
  rw [appL_can hs' hf']
  refine im_ext (by rw [szs_appL hs' hf', e, szs_appL hs hf]) fun v i _ _ => ?_
  rw [sec_eff hs' _ hf', sec_eff hs _ hf, sec_eff hs _ ha]
  unfold mget
  cases hm : mfind (effM (a ++ b)) ⟨(v : Int), (i : Int)⟩ with
  | some d => rfl
  | none =>
    have : mfind (effM a) ⟨(v : Int), (i : Int)⟩ = none := by
      revert hm
      refine snocInd (P := fun b => mfind (effM (a ++ b)) ⟨(v : Int), (i : Int)⟩ = none → mfind (effM a) ⟨(v : Int), (i : Int)⟩ = none) (fun h => by rwa [List.append_nil] at h) (fun b w ih h => ?_) b
      rw [← List.append_assoc, effM_snoc, wrM_find] at h
      split at h
      · cases h
      · exact ih h
    rw [this]
end Go.Proofs.Ytbnfefbhalpceaa
