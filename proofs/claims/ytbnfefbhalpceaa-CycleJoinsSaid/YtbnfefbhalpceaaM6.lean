/- Proved: the tied card of the statement CycleJoins: for every argument that can be read the law returns true and leaves its arguments as they were. Conditions: the row's own alone. -/
import Derived.Lib.TrailingZeros
import Derived.Test.YtbnfefbhalpceaaM5
namespace Go.Proofs.Ytbnfefbhalpceaa
open Go.RowKit
def orK {S R : Type} (a : S → Prop) (b : R → Prop) : S ⊕ R → Prop
 | .inl s => a s
 | .inr r => b r
def loopS {S R : Type} (step : S → Option (S ⊕ R)) : Nat → S → Option R
 | 0, _ => none
 | n + 1, s => match step s with
  | none => none
  | some (.inl s') => loopS step n s'
  | some (.inr r) => some r
theorem LoopW.of_S {S R : Type} {step : S → (S → Prop) → Prop} {stepS : S → Option (S ⊕ R)} {K : R → Prop} (hs : ∀ s q rec, stepS s = some q → orK rec K q → step s rec) : ∀ (n : Nat) (s : S) {o : R}, loopS stepS n s = some o → K o → LoopW step s := by
  intro n s o h hK
  refine ⟨n, ?_⟩
  induction n generalizing s with
  | zero => cases h
  | succ n ih =>
    unfold loopS at h
    split at h
    · cases h
    · rename_i s' e
      exact hs s _ _ e (ih s' h)
    · rename_i r e
      cases h
      exact hs s _ _ e hK
theorem ofBind {α β : Type} {x : Option α} {f : α → Option β} {o : β} (h : Option.bind x f = some o) : ∃ v, x = some v ∧ f v = some o := Option.bind_eq_some_iff.1 h
theorem ofIf {α : Type} {p : Prop} [Decidable p] {x : Option α} {o : α} (h : (if p then x else none) = some o) : p ∧ x = some o := by
  by_cases hp : p
  · rw [if_pos hp] at h; exact ⟨hp, h⟩
  · rw [if_neg hp] at h; cases h
theorem ofT {α : Type} {p : Prop} [Decidable p] {x y : Option α} {o : α} (hp : p) (h : (if p then x else y) = some o) : x = some o := by rw [if_pos hp] at h; exact h
theorem ofF {α : Type} {p : Prop} [Decidable p] {x y : Option α} {o : α} (hp : ¬ p) (h : (if p then x else y) = some o) : y = some o := by rw [if_neg hp] at h; exact h
def bothS {α : Type} [DecidableEq α] (b : Bool) (x y : Option α) : Option α := if b = true then (if x = y then x else none) else y
theorem ofBoth {α : Type} [DecidableEq α] {b : Bool} {x y : Option α} {o : α} (h : bothS b x y = some o) : (b = true → x = some o) ∧ y = some o := by
  unfold bothS at h
  by_cases hb : b = true
  · rw [if_pos hb] at h
    by_cases he : x = y
    · rw [if_pos he] at h; exact ⟨fun _ => h, he ▸ h⟩
    · rw [if_neg he] at h; cases h
  · rw [if_neg hb] at h; exact ⟨fun q => absurd q hb, h⟩
theorem lfS {α : Type} {K : α → Prop} {a o : α} (h : some a = some o) (hK : K o) : K a := by
  cases h; exact hK
theorem adS {α : Type} {p : Prop} [Decidable p] {x : Option α} {o : α} {B : Prop} (h : (if p then x else none) = some o) (b : x = some o → B) : p ∧ B := ⟨(ofIf h).1, b (ofIf h).2⟩
theorem ifS {α : Type} {p : Prop} [Decidable p] {x y : Option α} {o : α} {A B : Prop} (h : (if p then x else y) = some o) (a : x = some o → A) (b : y = some o → B) : (p → A) ∧ (¬ p → B) := ⟨fun c => a (ofT c h), fun c => b (ofF c h)⟩
theorem mpS {α β : Type} {g : α → β} {x : Option α} {o : β} {G : Prop} (h : Option.map g x = some o) (k : ∀ v, x = some v → g v = o → G) : G := by
  obtain ⟨v, h1, h2⟩ := Option.map_eq_some_iff.1 h
  exact k v h1 h2
theorem blS {α β : Type} {x : Option α} {f : α → Option β} {o : β} {G : Prop} (h : Option.bind x f = some o) (k : ∀ v, x = some v → f v = some o → G) : G := by
  obtain ⟨v, h1, h2⟩ := ofBind h
  exact k v h1 h2
instance decI (x : Int) : Decidable (inI x) := inferInstanceAs (Decidable (_ ∧ _))
instance decX (i : Int) (n : Nat) : Decidable (inX i n) := inferInstanceAs (Decidable (_ ∧ _))
instance decS (a b : Int) (n : Nat) : Decidable (inS a b n) := inferInstanceAs (Decidable (_ ∧ _))
instance decL (n b : Nat) : Decidable (lenOk n b) := inferInstanceAs (Decidable (_ ∧ _))
theorem nl2S {α : Type} [DecidableEq α] {p : Prop} [Decidable p] {x y : Option α} {o : α} {A B : Prop} (h : bothS (decide p) x y = some o) (a : x = some o → A) (b : y = some o → B) : (p → A) ∧ B := ⟨fun c => a ((ofBoth h).1 (decide_eq_true c)), b (ofBoth h).2⟩
def genS {S Y R : Type} (step : S → Option (List Y × (S ⊕ R))) : Nat → S → Option (List Y × R)
 | 0, _ => none
 | n + 1, s => match step s with
  | none => none
  | some (ys, .inr o) => some (ys, o)
  | some (ys, .inl s') => (genS step n s').map fun q => (ys ++ q.1, q.2)
theorem LoopW.of_G {S Y R : Type} {step : (List Y × S) → ((List Y × S) → Prop) → Prop} {stepS : S → Option (List Y × (S ⊕ R))} {K : List Y → R → Prop} (hs : ∀ s ys q r rec, stepS s = some (ys, q) → orK (fun s => rec (r, s)) (K r) q → step (ys ++ r, s) rec) : ∀ (n : Nat) (s : S) {ys : List Y} {o : R} (r : List Y), genS stepS n s = some (ys, o) → K r o → LoopW step (ys ++ r, s) := by
  intro n s ys o r h hK
  refine ⟨n, ?_⟩
  induction n generalizing s ys with
  | zero => cases h
  | succ n ih =>
    unfold genS at h
    split at h
    · cases h
    · rename_i ys o e
      cases h
      exact hs s _ _ _ (LoopN step n) e hK
    · rename_i ys s' e
      obtain ⟨v, h1, h2⟩ := Option.map_eq_some_iff.1 h
      cases h2
      rw [List.append_assoc]
      exact hs s _ _ _ (LoopN step n) e (show LoopN step n (v.1 ++ r, s') from ih s' h1)
def Z86 (x0 : Int) : Option (Bool) :=
 if x0 < 1 then
  some (true)
 else
  some (decide (4096 < x0))
theorem image_checkSizes_1_sound (x0 : Int) {Φ : Bool → Prop} {o} (h : Z86 x0 = some o) (hK : Φ o) : Z0 x0 Φ := by
  unfold Z86 at h
  unfold Z0
  exact ifS h (fun h => have t := lfS h hK; t) fun h => have t := lfS h hK; t
def Z87 (x0 : List Int) : (Int) → Option ((Int) ⊕ (Int))
 | v1 =>
  if v1 < (x0.length : Int) then
   if inX v1 x0.length then
   Option.bind (Z86 (ix x0 v1)) fun v2 =>
   if v2 = true then
    if 0 ≤ v1 then
     some (.inr 2)
    else
     some (.inr 0)
   else
    if inI (v1 + 1) then
    some (.inl (v1 + 1))
    else none
   else none
  else
   if 0 ≤ ((-1) : Int) then
    some (.inr 2)
   else
    some (.inr 0)
theorem image_checkSizes_L1_sound (x0 : List Int) (s : Int) {Φ : Int → Prop} {rec1 : (Int) → Prop} {o} (h : Z87 x0 s = some o) (hK : (orK rec1 Φ) o) : Z1 x0 Φ s rec1 := by
  unfold Z87 at h
  unfold Z1
  exact ifS h (fun h => adS h fun h => blS h fun _ hv h => image_checkSizes_1_sound _ hv (ifS h (fun h => ifS h (fun h => have t := lfS h hK; t) fun h => have t := lfS h hK; t) fun h => adS h fun h => have t := lfS h hK; t)) fun h => ifS h (fun h => have t := lfS h hK; t) fun h => have t := lfS h hK; t
def Z88 (x0 : List Int) : Option (Int) :=
 if (x0.length : Int) < 1 then
  some (6)
 else
  if 8 < (x0.length : Int) then
   some (6)
  else
   loopS (Z87 x0) 100000 0
theorem image_checkSizes_sound (x0 : List Int) {Φ : Int → Prop} {o} (h : Z88 x0 = some o) (hK : Φ o) : Z2 x0 Φ := by
  unfold Z88 at h
  unfold Z2
  exact ifS h (fun h => have t := lfS h hK; t) fun h => ifS h (fun h => have t := lfS h hK; t) fun h => LoopW.of_S (fun s q rec hs hq => image_checkSizes_L1_sound _ s hs hq) _ _ h hK
def image_New_1_S (x0 : Int) : Option (List Sec) :=
 if 0 ≤ x0 then
 if lenOk x0.toNat 8 then
 some ((List.replicate x0.toNat (sec0 : Sec)))
 else none
 else none
theorem image_New_1_sound (x0 : Int) {Φ : List Sec → Prop} {o} (h : image_New_1_S x0 = some o) (hK : Φ o) : image_New_1_W x0 Φ := by
  unfold image_New_1_S at h
  unfold image_New_1_W
  exact adS h fun h => adS h fun h => have t := lfS h hK; t
def Z89 (x0 : List Int) : (Int × List (List Sec)) → Option ((Int × List (List Sec)) ⊕ (List (List Sec) × Int))
 | (v2, v3) =>
  if v2 < (x0.length : Int) then
   if inX v2 x0.length then
   Option.bind (image_New_1_S (ix x0 v2)) fun v4 =>
   if lenOk (v3 ++ ([v4] : List (List Sec))).length 24 then
   if inI (v2 + 1) then
   some (.inl ((v2 + 1), (v3 ++ ([v4] : List (List Sec)))))
   else none
   else none
   else none
  else
   some (.inr (v3, 0))
theorem image_New_L1_sound (x0 : List Int) (s : Int × List (List Sec)) {Φ : List (List Sec) × Int → Prop} {rec1 : (Int × List (List Sec)) → Prop} {o} (h : Z89 x0 s = some o) (hK : (orK rec1 Φ) o) : image_New_L1 x0 Φ s rec1 := by
  obtain ⟨v2, v3⟩ := s
  unfold Z89 at h
  unfold image_New_L1
  exact ifS h (fun h => adS h fun h => blS h fun _ hv h => image_New_1_sound _ hv (adS h fun h => adS h fun h => have t := lfS h hK; t)) fun h => have t := lfS h hK; t
def image_New_S (x0 : List Int) : Option (List (List Sec) × Int) :=
 Option.bind (Z88 x0) fun v1 =>
 if v1 ≠ 0 then
  some ((([] : List (List Sec)), v1))
 else
  if 0 ≤ (x0.length : Int) then
  if lenOk (x0.length : Int).toNat 24 then
  loopS (Z89 x0) 100000 (0, ([] : List (List Sec)))
  else none
  else none
theorem image_New_sound (x0 : List Int) {Φ : List (List Sec) × Int → Prop} {o} (h : image_New_S x0 = some o) (hK : Φ o) : image_New_W x0 Φ := by
  unfold image_New_S at h
  unfold image_New_W
  exact blS h fun _ hv h => image_checkSizes_sound _ hv (ifS h (fun h => have t := lfS h hK; t) fun h => adS h fun h => adS h fun h => LoopW.of_S (fun s q rec hs hq => image_New_L1_sound _ s hs hq) _ _ h hK)
def cycle_in_S (x0 : Int) (x1 : Int) (x2 : Int) : Option (Bool) :=
 if x1 ≤ x0 then
  some (decide (x0 ≤ x2))
 else
  some (false)
theorem cycle_in_sound (x0 : Int) (x1 : Int) (x2 : Int) {Φ : Bool → Prop} {o} (h : cycle_in_S x0 x1 x2 = some o) (hK : Φ o) : cycle_in_W x0 x1 x2 Φ := by
  unfold cycle_in_S at h
  unfold cycle_in_W
  exact ifS h (fun h => have t := lfS h hK; t) fun h => have t := lfS h hK; t
def Z90 (x0 : List Int) : Option (List Int) :=
 bothS (decide (x0 = [])) (
  some (([] : List Int))) (
  if lenOk (([] : List Int) ++ x0).length 8 then
  some ((([] : List Int) ++ x0))
  else none)
theorem slices_Clone_int_int_sound (x0 : List Int) {Φ : List Int → Prop} {o} (h : Z90 x0 = some o) (hK : Φ o) : Z3 x0 Φ := by
  unfold Z90 at h
  unfold Z3
  exact nl2S h (fun h => have t := lfS h hK; t) fun h => adS h fun h => have t := lfS h hK; t
def cycle_Open_S (x0 : List Int) (x1 : Int) (x2 : Int) : Option (api_Capture × Int) :=
 Option.bind (image_New_S x0) fun v1 =>
 if v1.2 ≠ 0 then
  some (((api_Capture.mk 0 ([] : List Int) ([] : List Int) ([] : List Int) ([] : List api_Write)), v1.2))
 else
  Option.bind (cycle_in_S x1 1 8) fun v2 =>
  if ¬ (v2 = true) then
   some (((api_Capture.mk 0 ([] : List Int) ([] : List Int) ([] : List Int) ([] : List api_Write)), 6))
  else
   Option.bind (cycle_in_S x2 0 1073741823) fun v3 =>
   if ¬ (v3 = true) then
    some (((api_Capture.mk 0 ([] : List Int) ([] : List Int) ([] : List Int) ([] : List api_Write)), 2))
   else
    Option.bind (Z90 x0) fun z =>
    let v4 : List Int × Unit := (z, ())
    if 0 ≤ x1 then
    if lenOk x1.toNat 8 then
    some (((api_Capture.mk x2 v4.1 (List.replicate x1.toNat (0 : Int)) ([] : List Int) ([] : List api_Write)), 0))
    else none
    else none
theorem cycle_Open_sound (x0 : List Int) (x1 : Int) (x2 : Int) {Φ : api_Capture × Int → Prop} {o} (h : cycle_Open_S x0 x1 x2 = some o) (hK : Φ o) : cycle_Open_W x0 x1 x2 Φ := by
  unfold cycle_Open_S at h
  unfold cycle_Open_W
  exact blS h fun _ hv h => image_New_sound _ hv (ifS h (fun h => have t := lfS h hK; t) fun h => blS h fun _ hv h => cycle_in_sound _ _ _ hv (ifS h (fun h => have t := lfS h hK; t) fun h => blS h fun _ hv h => cycle_in_sound _ _ _ hv (ifS h (fun h => have t := lfS h hK; t) fun h => blS h fun _ hv h => ⟨_, slices_Clone_int_int_sound _ hv rfl, adS h fun h => adS h fun h => have t := lfS h hK; t⟩)))
def Z91 (x0 : Int) (x1 : Int) (x2 : List (BitVec 8)) : (Int × List Sec) → Option ((Int × List Sec) ⊕ (api_Write))
 | (v1, v2) =>
  if v1 < (x2.length : Int) then
   if inX v1 x2.length then
   if lenOk (v2 ++ ([(Sec.mk (ix x2 v1) (0#8) (0#8) (0#8) (0#8) (0#8) (0#8) (0#8))] : List Sec)).length 8 then
   if inI (v1 + 1) then
   some (.inl ((v1 + 1), (v2 ++ ([(Sec.mk (ix x2 v1) (0#8) (0#8) (0#8) (0#8) (0#8) (0#8) (0#8))] : List Sec))))
   else none
   else none
   else none
  else
   some (.inr (api_Write.mk x0 x1 v2))
theorem law23_write_L1_sound (x0 : Int) (x1 : Int) (x2 : List (BitVec 8)) (s : Int × List Sec) {Φ : api_Write → Prop} {rec1 : (Int × List Sec) → Prop} {o} (h : Z91 x0 x1 x2 s = some o) (hK : (orK rec1 Φ) o) : Z4 x0 x1 x2 Φ s rec1 := by
  obtain ⟨v1, v2⟩ := s
  unfold Z91 at h
  unfold Z4
  exact ifS h (fun h => adS h fun h => adS h fun h => adS h fun h => have t := lfS h hK; t) fun h => have t := lfS h hK; t
def law23_write_S (x0 : Int) (x1 : Int) (x2 : List (BitVec 8)) : Option (api_Write) :=
 loopS (Z91 x0 x1 x2) 100000 (0, ([] : List Sec))
theorem law23_write_sound (x0 : Int) (x1 : Int) (x2 : List (BitVec 8)) {Φ : api_Write → Prop} {o} (h : law23_write_S x0 x1 x2 = some o) (hK : Φ o) : law23_write_W x0 x1 x2 Φ := by
  unfold law23_write_S at h
  unfold law23_write_W
  exact LoopW.of_S (fun s q rec hs hq => law23_write_L1_sound _ _ _ s hs hq) _ _ h hK
def Z92 (x0 : Int) : Option (Bool) :=
 Option.bind (cycle_in_S x0 0 1073741824) fun v1 =>
 some (decide (¬ (v1 = true)))
theorem cycle_positions_1_sound (x0 : Int) {Φ : Bool → Prop} {o} (h : Z92 x0 = some o) (hK : Φ o) : Z5 x0 Φ := by
  unfold Z92 at h
  unfold Z5
  exact blS h fun _ hv h => cycle_in_sound _ _ _ hv (have t := lfS h hK; t)
def Z93 (x0 : List Int) : (Int) → Option ((Int) ⊕ (Int))
 | v2 =>
  if v2 < (x0.length : Int) then
   if inX v2 x0.length then
   Option.bind (Z92 (ix x0 v2)) fun v3 =>
   if v3 = true then
    if 0 ≤ v2 then
     some (.inr 2)
    else
     some (.inr 0)
   else
    if inI (v2 + 1) then
    some (.inl (v2 + 1))
    else none
   else none
  else
   if 0 ≤ ((-1) : Int) then
    some (.inr 2)
   else
    some (.inr 0)
theorem cycle_positions_L1_sound (x0 : List Int) (s : Int) {Φ : Int → Prop} {rec1 : (Int) → Prop} {o} (h : Z93 x0 s = some o) (hK : (orK rec1 Φ) o) : Z6 x0 Φ s rec1 := by
  unfold Z93 at h
  unfold Z6
  exact ifS h (fun h => adS h fun h => blS h fun _ hv h => cycle_positions_1_sound _ hv (ifS h (fun h => ifS h (fun h => have t := lfS h hK; t) fun h => have t := lfS h hK; t) fun h => adS h fun h => have t := lfS h hK; t)) fun h => ifS h (fun h => have t := lfS h hK; t) fun h => have t := lfS h hK; t
def Z94 (x0 : List Int) (x1 : Int) : Option (Int) :=
 Option.bind (cycle_in_S (x0.length : Int) x1 8) fun v1 =>
 if ¬ (v1 = true) then
  some (6)
 else
  loopS (Z93 x0) 100000 0
theorem cycle_positions_sound (x0 : List Int) (x1 : Int) {Φ : Int → Prop} {o} (h : Z94 x0 x1 = some o) (hK : Φ o) : Z7 x0 x1 Φ := by
  unfold Z94 at h
  unfold Z7
  exact blS h fun _ hv h => cycle_in_sound _ _ _ hv (ifS h (fun h => have t := lfS h hK; t) fun h => LoopW.of_S (fun s q rec hs hq => cycle_positions_L1_sound _ s hs hq) _ _ h hK)
def Z95 (x0 : List Sec) : Option (Int) :=
 some ((x0.length : Int))
theorem image_sizes_1_sound (x0 : List Sec) {Φ : Int → Prop} {o} (h : Z95 x0 = some o) (hK : Φ o) : Z8 x0 Φ := by
  unfold Z95 at h
  unfold Z8
  exact have t := lfS h hK; t
def Z96 (x0 : List (List Sec)) : (Int × List Int) → Option ((Int × List Int) ⊕ (List Int))
 | (v1, v2) =>
  if v1 < (x0.length : Int) then
   if inX v1 x0.length then
   Option.bind (Z95 (ix x0 v1)) fun v3 =>
   if lenOk (v2 ++ ([v3] : List Int)).length 8 then
   if inI (v1 + 1) then
   some (.inl ((v1 + 1), (v2 ++ ([v3] : List Int))))
   else none
   else none
   else none
  else
   some (.inr v2)
theorem image_sizes_L1_sound (x0 : List (List Sec)) (s : Int × List Int) {Φ : List Int → Prop} {rec1 : (Int × List Int) → Prop} {o} (h : Z96 x0 s = some o) (hK : (orK rec1 Φ) o) : Z9 x0 Φ s rec1 := by
  obtain ⟨v1, v2⟩ := s
  unfold Z96 at h
  unfold Z9
  exact ifS h (fun h => adS h fun h => blS h fun _ hv h => image_sizes_1_sound _ hv (adS h fun h => adS h fun h => have t := lfS h hK; t)) fun h => have t := lfS h hK; t
def image_sizes_S (x0 : List (List Sec)) : Option (List Int) :=
 if 0 ≤ (x0.length : Int) then
 if lenOk (x0.length : Int).toNat 8 then
 loopS (Z96 x0) 100000 (0, ([] : List Int))
 else none
 else none
theorem image_sizes_sound (x0 : List (List Sec)) {Φ : List Int → Prop} {o} (h : image_sizes_S x0 = some o) (hK : Φ o) : image_sizes_W x0 Φ := by
  unfold image_sizes_S at h
  unfold image_sizes_W
  exact adS h fun h => adS h fun h => LoopW.of_S (fun s q rec hs hq => image_sizes_L1_sound _ s hs hq) _ _ h hK
def image_Check_S (x0 : List (List Sec)) : Option (Int) :=
 Option.bind (image_sizes_S x0) fun v1 =>
 Option.bind (Z88 v1) fun v2 =>
 some (v2)
theorem image_Check_sound (x0 : List (List Sec)) {Φ : Int → Prop} {o} (h : image_Check_S x0 = some o) (hK : Φ o) : image_Check_W x0 Φ := by
  unfold image_Check_S at h
  unfold image_Check_W
  exact blS h fun _ hv h => image_sizes_sound _ hv (blS h fun _ hv h => image_checkSizes_sound _ hv (have t := lfS h hK; t))
def Z97 (x0 : List (List Sec)) (x1 : api_Write) : (Bool) → Option (Int)
 | v1 =>
  if v1 = true then
   some (7)
  else
   if (x1.Data.length : Int) = 0 then
    some (1)
   else
    if x1.Start < 0 then
     some (2)
    else
     if inX x1.Volume x0.length then
     if inI (((ix x0 x1.Volume).length : Int) - (x1.Data.length : Int)) then
     if (((ix x0 x1.Volume).length : Int) - (x1.Data.length : Int)) < x1.Start then
      some (2)
     else
      some (0)
     else none
     else none
theorem image_fits_J1_sound (x0 : List (List Sec)) (x1 : api_Write) (s : Bool) {Φ : Int → Prop} {o} (h : Z97 x0 x1 s = some o) (hK : Φ o) : image_fits_J1 x0 x1 Φ s := by
  unfold Z97 at h
  unfold image_fits_J1
  exact ifS h (fun h => have t := lfS h hK; t) fun h => ifS h (fun h => have t := lfS h hK; t) fun h => ifS h (fun h => have t := lfS h hK; t) fun h => adS h fun h => adS h fun h => ifS h (fun h => have t := lfS h hK; t) fun h => have t := lfS h hK; t
def image_fits_S (x0 : List (List Sec)) (x1 : api_Write) : Option (Int) :=
 if x1.Volume < 0 then
  Z97 x0 x1 true
 else
  Z97 x0 x1 (decide ((x0.length : Int) ≤ x1.Volume))
theorem image_fits_sound (x0 : List (List Sec)) (x1 : api_Write) {Φ : Int → Prop} {o} (h : image_fits_S x0 x1 = some o) (hK : Φ o) : image_fits_W x0 x1 Φ := by
  unfold image_fits_S at h
  unfold image_fits_W
  exact ifS h (fun h => image_fits_J1_sound _ _ _ h hK) fun h => image_fits_J1_sound _ _ _ h hK
def image_Fits_S (x0 : List (List Sec)) (x1 : api_Write) : Option (Int) :=
 Option.bind (image_Check_S x0) fun v1 =>
 if v1 ≠ 0 then
  some (v1)
 else
  Option.bind (image_fits_S x0 x1) fun v2 =>
  some (v2)
theorem image_Fits_sound (x0 : List (List Sec)) (x1 : api_Write) {Φ : Int → Prop} {o} (h : image_Fits_S x0 x1 = some o) (hK : Φ o) : image_Fits_W x0 x1 Φ := by
  unfold image_Fits_S at h
  unfold image_Fits_W
  exact blS h fun _ hv h => image_Check_sound _ hv (ifS h (fun h => have t := lfS h hK; t) fun h => blS h fun _ hv h => image_fits_sound _ _ hv (have t := lfS h hK; t))
def Z98 (x0 : List Sec) : Option (List Sec) :=
 bothS (decide (x0 = [])) (
  some (([] : List Sec))) (
  if lenOk (([] : List Sec) ++ x0).length 8 then
  some ((([] : List Sec) ++ x0))
  else none)
theorem slices_Clone_api_Sector_api_Sector_sound (x0 : List Sec) {Φ : List Sec → Prop} {o} (h : Z98 x0 = some o) (hK : Φ o) : Z10 x0 Φ := by
  unfold Z98 at h
  unfold Z10
  exact nl2S h (fun h => have t := lfS h hK; t) fun h => adS h fun h => have t := lfS h hK; t
def Z99 (x0 : api_Write) : Option (api_Write) :=
 Option.bind (Z98 x0.Data) fun v1 =>
 some ((api_Write.mk x0.Volume x0.Start v1))
theorem cycle_copied_sound (x0 : api_Write) {Φ : api_Write → Prop} {o} (h : Z99 x0 = some o) (hK : Φ o) : Z11 x0 Φ := by
  unfold Z99 at h
  unfold Z11
  exact blS h fun _ hv h => slices_Clone_api_Sector_api_Sector_sound _ hv (have t := lfS h hK; t)
def Z100 (x0 : api_Capture) (v1 : List Int × Unit) (v2 : List Int × Unit) (v3 : List Int × Unit) : (Int × List api_Write) → Option ((Int × List api_Write) ⊕ (api_Capture))
 | (v4, v5) =>
  if v4 < (x0.Writes.length : Int) then
   if inX v4 x0.Writes.length then
   Option.bind (Z99 (ix x0.Writes v4)) fun v6 =>
   if lenOk (v5 ++ ([v6] : List api_Write)).length 40 then
   if inI (v4 + 1) then
   some (.inl ((v4 + 1), (v5 ++ ([v6] : List api_Write))))
   else none
   else none
   else none
  else
   some (.inr (api_Capture.mk x0.Number v1.1 v2.1 v3.1 v5))
theorem cycle_cloned_L1_sound (x0 : api_Capture) (v1 : List Int × Unit) (v2 : List Int × Unit) (v3 : List Int × Unit) (s : Int × List api_Write) {Φ : api_Capture → Prop} {rec1 : (Int × List api_Write) → Prop} {o} (h : Z100 x0 v1 v2 v3 s = some o) (hK : (orK rec1 Φ) o) : Z12 x0 v1 v2 v3 Φ s rec1 := by
  obtain ⟨v4, v5⟩ := s
  unfold Z100 at h
  unfold Z12
  exact ifS h (fun h => adS h fun h => blS h fun _ hv h => cycle_copied_sound _ hv (adS h fun h => adS h fun h => have t := lfS h hK; t)) fun h => have t := lfS h hK; t
def Z101 (x0 : api_Capture) : Option (api_Capture) :=
 Option.bind (Z90 x0.Sizes) fun z =>
 let v1 : List Int × Unit := (z, ())
 Option.bind (Z90 x0.Positions) fun z =>
 let v2 : List Int × Unit := (z, ())
 Option.bind (Z90 x0.Nodes) fun z =>
 let v3 : List Int × Unit := (z, ())
 loopS (Z100 x0 v1 v2 v3) 100000 (0, ([] : List api_Write))
theorem cycle_cloned_sound (x0 : api_Capture) {Φ : api_Capture → Prop} {o} (h : Z101 x0 = some o) (hK : Φ o) : Z13 x0 Φ := by
  unfold Z101 at h
  unfold Z13
  exact blS h fun _ hv h => ⟨_, slices_Clone_int_int_sound _ hv rfl, blS h fun _ hv h => ⟨_, slices_Clone_int_int_sound _ hv rfl, blS h fun _ hv h => ⟨_, slices_Clone_int_int_sound _ hv rfl, LoopW.of_S (fun s q rec hs hq => cycle_cloned_L1_sound _ _ _ _ s hs hq) _ _ h hK⟩⟩⟩
def Z102 (x0 : api_Capture) (x1 : Int) (x2 : api_Write) (v1 : List (List Sec) × Int) : (Int) → Option ((Int) ⊕ (api_Capture × Int))
 | v4 =>
  if v4 < (x0.Writes.length : Int) then
   if inX v4 x0.Writes.length then
   if inX v4 x0.Nodes.length then
   if inI ((x0.Positions.length : Int) - 1) then
   Option.bind (cycle_in_S (ix x0.Nodes v4) 0 ((x0.Positions.length : Int) - 1)) fun v5 =>
   if ¬ (v5 = true) then
    some (.inr ((api_Capture.mk 0 ([] : List Int) ([] : List Int) ([] : List Int) ([] : List api_Write)), 7))
   else
    Option.bind (image_Fits_S v1.1 (ix x0.Writes v4)) fun v6 =>
    if ¬ (v6 = 0) then
     some (.inr ((api_Capture.mk 0 ([] : List Int) ([] : List Int) ([] : List Int) ([] : List api_Write)), v6))
    else
     if inI (v4 + 1) then
     some (.inl (v4 + 1))
     else none
   else none
   else none
   else none
  else
   if inI ((x0.Positions.length : Int) - 1) then
   Option.bind (cycle_in_S x1 0 ((x0.Positions.length : Int) - 1)) fun v7 =>
   if ¬ (v7 = true) then
    some (.inr ((api_Capture.mk 0 ([] : List Int) ([] : List Int) ([] : List Int) ([] : List api_Write)), 7))
   else
    Option.bind (image_Fits_S v1.1 x2) fun v8 =>
    if ¬ (v8 = 0) then
     some (.inr ((api_Capture.mk 0 ([] : List Int) ([] : List Int) ([] : List Int) ([] : List api_Write)), v8))
    else
     if ¬ ((x0.Writes.length : Int) < 4096) then
      some (.inr ((api_Capture.mk 0 ([] : List Int) ([] : List Int) ([] : List Int) ([] : List api_Write)), 11))
     else
      Option.bind (Z101 x0) fun v9 =>
      if lenOk (v9.Nodes ++ ([x1] : List Int)).length 8 then
      Option.bind (Z99 x2) fun z =>
      let v10 : api_Write × Unit := (z, ())
      if lenOk (v9.Writes ++ ([v10.1] : List api_Write)).length 40 then
      some (.inr ((api_Capture.mk v9.Number v9.Sizes v9.Positions (v9.Nodes ++ ([x1] : List Int)) (v9.Writes ++ ([v10.1] : List api_Write))), 0))
      else none
      else none
   else none
theorem cycle_Add_L1_sound (x0 : api_Capture) (x1 : Int) (x2 : api_Write) (v1 : List (List Sec) × Int) (s : Int) {Φ : api_Capture × Int → Prop} {rec1 : (Int) → Prop} {o} (h : Z102 x0 x1 x2 v1 s = some o) (hK : (orK rec1 Φ) o) : cycle_Add_L1 x0 x1 x2 v1 Φ s rec1 := by
  unfold Z102 at h
  unfold cycle_Add_L1
  exact ifS h (fun h => adS h fun h => adS h fun h => adS h fun h => blS h fun _ hv h => cycle_in_sound _ _ _ hv (ifS h (fun h => have t := lfS h hK; t) fun h => blS h fun _ hv h => image_Fits_sound _ _ hv (ifS h (fun h => have t := lfS h hK; t) fun h => adS h fun h => have t := lfS h hK; t))) fun h => adS h fun h => blS h fun _ hv h => cycle_in_sound _ _ _ hv (ifS h (fun h => have t := lfS h hK; t) fun h => blS h fun _ hv h => image_Fits_sound _ _ hv (ifS h (fun h => have t := lfS h hK; t) fun h => ifS h (fun h => have t := lfS h hK; t) fun h => blS h fun _ hv h => cycle_cloned_sound _ hv (adS h fun h => blS h fun _ hv h => ⟨_, cycle_copied_sound _ hv rfl, adS h fun h => have t := lfS h hK; t⟩)))
def cycle_Add_S (x0 : api_Capture) (x1 : Int) (x2 : api_Write) : Option (api_Capture × Int) :=
 Option.bind (image_New_S x0.Sizes) fun v1 =>
 if ¬ (v1.2 = 0) then
  some (((api_Capture.mk 0 ([] : List Int) ([] : List Int) ([] : List Int) ([] : List api_Write)), v1.2))
 else
  Option.bind (cycle_in_S x0.Number 0 1073741823) fun v2 =>
  if ¬ (v2 = true) then
   some (((api_Capture.mk 0 ([] : List Int) ([] : List Int) ([] : List Int) ([] : List api_Write)), 2))
  else
   Option.bind (Z94 x0.Positions 1) fun v3 =>
   if ¬ (v3 = 0) then
    some (((api_Capture.mk 0 ([] : List Int) ([] : List Int) ([] : List Int) ([] : List api_Write)), v3))
   else
    if (x0.Nodes.length : Int) = (x0.Writes.length : Int) then
     if ¬ ((x0.Writes.length : Int) ≤ 4096) then
      some (((api_Capture.mk 0 ([] : List Int) ([] : List Int) ([] : List Int) ([] : List api_Write)), 6))
     else
      loopS (Z102 x0 x1 x2 v1) 100000 0
    else
     some (((api_Capture.mk 0 ([] : List Int) ([] : List Int) ([] : List Int) ([] : List api_Write)), 6))
theorem cycle_Add_sound (x0 : api_Capture) (x1 : Int) (x2 : api_Write) {Φ : api_Capture × Int → Prop} {o} (h : cycle_Add_S x0 x1 x2 = some o) (hK : Φ o) : cycle_Add_W x0 x1 x2 Φ := by
  unfold cycle_Add_S at h
  unfold cycle_Add_W
  exact blS h fun _ hv h => image_New_sound _ hv (ifS h (fun h => have t := lfS h hK; t) fun h => blS h fun _ hv h => cycle_in_sound _ _ _ hv (ifS h (fun h => have t := lfS h hK; t) fun h => blS h fun _ hv h => cycle_positions_sound _ _ hv (ifS h (fun h => have t := lfS h hK; t) fun h => ifS h (fun h => ifS h (fun h => have t := lfS h hK; t) fun h => LoopW.of_S (fun s q rec hs hq => cycle_Add_L1_sound _ _ _ _ s hs hq) _ _ h hK) fun h => have t := lfS h hK; t)))
def Z103 (x0 : Int) : Option (Bool) :=
 some (decide (0 < x0))
theorem cycle_divide_1_sound (x0 : Int) {Φ : Bool → Prop} {o} (h : Z103 x0 = some o) (hK : Φ o) : Z14 x0 Φ := by
  unfold Z103 at h
  unfold Z14
  exact have t := lfS h hK; t
def Z104 (x0 : cycle_division) (x1 : Bool) : (Int) → Option (List (Int × api_Write × Unit) × ((Int) ⊕ (Unit)))
 | v1 =>
  if v1 < (x0.c.Writes.length : Int) then
   if inX v1 x0.c.Writes.length then
   if inX v1 x0.part.length then
   if (ix x0.part v1) = x1 then
    Option.map (fun q => ((v1, (ix x0.c.Writes v1), ()) :: q.1, q.2)) (
     if inI (v1 + 1) then
     some ([], .inl (v1 + 1))
     else none)
   else
    if inI (v1 + 1) then
    some ([], .inl (v1 + 1))
    else none
   else none
   else none
  else
   some ([], .inr ())
theorem cycle_division_writes_1_L1_sound (x0 : cycle_division) (x1 : Bool) (s : Int) {ys : List (Int × api_Write × Unit)} {q} {r : List (Int × api_Write × Unit)} {rec1 : (List (Int × api_Write × Unit) × Int) → Prop} (h : Z104 x0 x1 s = some (ys, q)) (hr : (orK (fun s => rec1 (r, s)) (fun _ => r = [])) q) : Z15 x0 x1 (ys ++ r, s) rec1 := by
  unfold Z104 at h
  unfold Z15
  exact ifS h (fun h => adS h fun h => adS h fun h => ifS h (fun h => mpS h fun q_ h_ he => (by obtain ⟨_, _⟩ := q_; cases he; exact ⟨rfl, (have h := h_; adS h fun h => (by cases h; exact hr)), trivial⟩)) fun h => adS h fun h => (by cases h; exact hr)) fun h => (by cases h; exact hr)
def cycle_division_writes_1_S0 (x0 : cycle_division) (x1 : Bool) : Option (List (Int × api_Write × Unit) × Unit) :=
 genS (Z104 x0 x1) 100000 0
def Z105 (x0 : cycle_division) (x1 : Bool) : Option (List (Int × api_Write × Unit)) := Option.map Prod.fst (cycle_division_writes_1_S0 x0 x1)
theorem cycle_division_writes_1_sound (x0 : cycle_division) (x1 : Bool) {l : List (Int × api_Write × Unit)} (h : Z105 x0 x1 = some l) : cycle_division_writes_1_I x0 x1 l := by
  obtain ⟨⟨ys, q⟩, h0, h1⟩ := Option.map_eq_some_iff.1 h
  clear h
  have h := h0
  subst h1
  unfold cycle_division_writes_1_S0 at h
  unfold cycle_division_writes_1_I
  have hr : (fun _ => ([] : List (Int × api_Write × Unit)) = []) q := rfl
  rw [← List.append_nil ys]
  exact LoopW.of_G (K := fun r => (fun _ => r = [])) (fun s ys q r rec hs hr => cycle_division_writes_1_L1_sound _ _ s hs hr) _ _ _ h hr
def Z106 (v1 : api_Write) (v2 : List Sec) (v3 : Int × api_Write × Unit) (r4 : List (Int × api_Write × Unit)) : (Int × List Sec) → Option ((Int × List Sec) ⊕ ((List (Int × api_Write × Unit) × List Sec) ⊕ (api_Write)))
 | (v6, v7) =>
  if v6 < (v2.length : Int) then
   if inI (v1.Start + v6) then
   if inI ((v1.Start + v6) - v3.2.1.Start) then
   if inI ((v3.2.1.Data.length : Int) - 1) then
   Option.bind (cycle_in_S ((v1.Start + v6) - v3.2.1.Start) 0 ((v3.2.1.Data.length : Int) - 1)) fun v8 =>
   if v8 = true then
    if inX ((v1.Start + v6) - v3.2.1.Start) v3.2.1.Data.length then
    if inX v6 v7.length then
    if inI (v6 + 1) then
    some (.inl ((v6 + 1), (put v7 v6 (ix v3.2.1.Data ((v1.Start + v6) - v3.2.1.Start)))))
    else none
    else none
    else none
   else
    if inI (v6 + 1) then
    some (.inl ((v6 + 1), v7))
    else none
   else none
   else none
   else none
  else
   some (.inr (.inl (r4, v7)))
theorem cycle_division_later_L3_sound (v1 : api_Write) (v2 : List Sec) (v3 : Int × api_Write × Unit) (r4 : List (Int × api_Write × Unit)) (s : Int × List Sec) {Φ : api_Write → Prop} {rec1 : (List (Int × api_Write × Unit) × List Sec) → Prop} {rec3 : (Int × List Sec) → Prop} {o} (h : Z106 v1 v2 v3 r4 s = some o) (hK : (orK rec3 (orK rec1 Φ)) o) : Z30 v1 v2 rec1 v3 r4 Φ s rec3 := by
  obtain ⟨v6, v7⟩ := s
  unfold Z106 at h
  unfold Z30
  exact ifS h (fun h => adS h fun h => adS h fun h => adS h fun h => blS h fun _ hv h => cycle_in_sound _ _ _ hv (ifS h (fun h => adS h fun h => adS h fun h => adS h fun h => have t := lfS h hK; t) fun h => adS h fun h => have t := lfS h hK; t)) fun h => have t := lfS h hK; t
def Z107 (v1 : api_Write) (v2 : List Sec) (v3 : Int × api_Write × Unit) (r4 : List (Int × api_Write × Unit)) : (Bool) → Option ((List (Int × api_Write × Unit) × List Sec) ⊕ (api_Write))
 | v5 =>
  if v5 = true then
   some (.inl (r4, v2))
  else
   loopS (Z106 v1 v2 v3 r4) 100000 (0, v2)
theorem cycle_division_later_J2_sound (v1 : api_Write) (v2 : List Sec) (v3 : Int × api_Write × Unit) (r4 : List (Int × api_Write × Unit)) (s : Bool) {Φ : api_Write → Prop} {rec1 : (List (Int × api_Write × Unit) × List Sec) → Prop} {o} (h : Z107 v1 v2 v3 r4 s = some o) (hK : (orK rec1 Φ) o) : Z31 v1 v2 rec1 v3 r4 Φ s := by
  unfold Z107 at h
  unfold Z31
  exact ifS h (fun h => have t := lfS h hK; t) fun h => LoopW.of_S (fun s q rec hs hq => cycle_division_later_L3_sound _ _ _ _ s hs hq) _ _ h hK
def Z108 (x1 : Int) (v1 : api_Write) : (List (Int × api_Write × Unit) × List Sec) → Option ((List (Int × api_Write × Unit) × List Sec) ⊕ (api_Write))
 | (lst, v2) =>
  match lst with
  | [] =>
   some (.inr (api_Write.mk v1.Volume v1.Start v2))
  | v3 :: r4 =>
   if v3.1 < x1 then
    Z107 v1 v2 v3 r4 true
   else
    Z107 v1 v2 v3 r4 (decide (v3.2.1.Volume ≠ v1.Volume))
theorem cycle_division_later_L1_sound (x1 : Int) (v1 : api_Write) (s : List (Int × api_Write × Unit) × List Sec) {Φ : api_Write → Prop} {rec1 : (List (Int × api_Write × Unit) × List Sec) → Prop} {o} (h : Z108 x1 v1 s = some o) (hK : (orK rec1 Φ) o) : Z32 x1 v1 Φ s rec1 := by
  obtain ⟨lst, v2⟩ := s
  unfold Z108 at h
  unfold Z32
  cases lst with
  | nil => exact have t := lfS h hK; t
  | cons _ _ => exact ifS h (fun h => cycle_division_later_J2_sound _ _ _ _ _ h hK) fun h => cycle_division_later_J2_sound _ _ _ _ _ h hK
def Z109 (x0 : cycle_division) (x1 : Int) (x2 : api_Write) : Option (api_Write) :=
 Option.bind (Z99 x2) fun v1 =>
 Option.bind (Z105 x0 true) fun l9 =>
 loopS (Z108 x1 v1) 100000 (l9, v1.Data)
theorem cycle_division_later_sound (x0 : cycle_division) (x1 : Int) (x2 : api_Write) {Φ : api_Write → Prop} {o} (h : Z109 x0 x1 x2 = some o) (hK : Φ o) : Z33 x0 x1 x2 Φ := by
  unfold Z109 at h
  unfold Z33
  exact blS h fun _ hv h => cycle_copied_sound _ hv (blS h fun _ hv h => ⟨_, cycle_division_writes_1_sound _ _ hv, LoopW.of_S (fun s q rec hs hq => cycle_division_later_L1_sound _ _ s hs hq) _ _ h hK⟩)
def Z110 (x0 : api_Capture) (x1 : Int) (v12 : List Bool) (v18 : List api_Write × Int) (v19 : List Int × Unit) (v20 : List Int × Unit) (v21 : List Int × Unit) : (List (Int × api_Write × Unit) × (List Int × List api_Write)) → Option ((List (Int × api_Write × Unit) × (List Int × List api_Write)) ⊕ ((List (Int × api_Write × Unit) × List api_Write) ⊕ ((Int) ⊕ ((Int × List Int × List Bool) ⊕ ((Int × List Int) ⊕ ((Int) ⊕ (api_Capture × api_Cycle × Int)))))))
 | (lst, v22, v23) =>
  match lst with
  | [] =>
   some (.inr (.inr (.inr (.inr (.inr (.inr ((api_Capture.mk (x0.Number + 1) v20.1 v21.1 v22 v23), (api_Cycle.mk x0.Number (x0.Number + 1) x1 v19.1 v18.1), 0)))))))
  | v24 :: r25 =>
   if inX v24.1 x0.Nodes.length then
   if lenOk (v22 ++ ([(ix x0.Nodes v24.1)] : List Int)).length 8 then
   Option.bind (Z109 (cycle_division.mk x0 v12) v24.1 v24.2.1) fun z =>
   let v26 : api_Write × Unit := (z, ())
   if lenOk (v23 ++ ([v26.1] : List api_Write)).length 40 then
   some (.inl (r25, ((v22 ++ ([(ix x0.Nodes v24.1)] : List Int)), (v23 ++ ([v26.1] : List api_Write)))))
   else none
   else none
   else none
theorem cycle_Close_L6_sound (x0 : api_Capture) (x1 : Int) (v12 : List Bool) (v18 : List api_Write × Int) (v19 : List Int × Unit) (v20 : List Int × Unit) (v21 : List Int × Unit) (s : List (Int × api_Write × Unit) × (List Int × List api_Write)) {Φ : api_Capture × api_Cycle × Int → Prop} {rec1 : (Int) → Prop} {rec2 : (Int × List Int) → Prop} {rec3 : (Int × List Int × List Bool) → Prop} {rec4 : (Int) → Prop} {rec5 : (List (Int × api_Write × Unit) × List api_Write) → Prop} {rec6 : (List (Int × api_Write × Unit) × (List Int × List api_Write)) → Prop} {o} (h : Z110 x0 x1 v12 v18 v19 v20 v21 s = some o) (hK : (orK rec6 (orK rec5 (orK rec4 (orK rec3 (orK rec2 (orK rec1 Φ)))))) o) : Z34 x0 x1 v12 v18 v19 v20 v21 Φ s rec6 := by
  obtain ⟨lst, v22, v23⟩ := s
  unfold Z110 at h
  unfold Z34
  cases lst with
  | nil => exact have t := lfS h hK; t
  | cons _ _ => exact adS h fun h => adS h fun h => blS h fun _ hv h => ⟨_, cycle_division_later_sound _ _ _ hv rfl, adS h fun h => have t := lfS h hK; t⟩
def Z111 (x0 : api_Capture) (x1 : Int) (x2 : List Int) (v12 : List Bool) : (List (Int × api_Write × Unit) × List api_Write) → Option ((List (Int × api_Write × Unit) × List api_Write) ⊕ ((Int) ⊕ ((Int × List Int × List Bool) ⊕ ((Int × List Int) ⊕ ((Int) ⊕ (api_Capture × api_Cycle × Int))))))
 | (lst, v15) =>
  match lst with
  | [] =>
   Option.bind (Z84 v15) fun v18 =>
   if ¬ (v18.2 = 0) then
    some (.inr (.inr (.inr (.inr (.inr ((api_Capture.mk 0 ([] : List Int) ([] : List Int) ([] : List Int) ([] : List api_Write)), (api_Cycle.mk 0 0 0 ([] : List Int) ([] : List api_Write)), v18.2))))))
   else
    if inI (x0.Number + 1) then
    Option.bind (Z90 x2) fun z =>
    let v19 : List Int × Unit := (z, ())
    if inI (x0.Number + 1) then
    Option.bind (Z90 x0.Sizes) fun z =>
    let v20 : List Int × Unit := (z, ())
    Option.bind (Z90 x2) fun z =>
    let v21 : List Int × Unit := (z, ())
    Option.bind (Z105 (cycle_division.mk x0 v12) false) fun l27 =>
    loopS (Z110 x0 x1 v12 v18 v19 v20 v21) 100000 (l27, (([] : List Int), ([] : List api_Write)))
    else none
    else none
  | v16 :: r17 =>
   if lenOk (v15 ++ ([v16.2.1] : List api_Write)).length 40 then
   some (.inl (r17, (v15 ++ ([v16.2.1] : List api_Write))))
   else none
theorem cycle_Close_L5_sound (x0 : api_Capture) (x1 : Int) (x2 : List Int) (v12 : List Bool) (s : List (Int × api_Write × Unit) × List api_Write) {Φ : api_Capture × api_Cycle × Int → Prop} {rec1 : (Int) → Prop} {rec2 : (Int × List Int) → Prop} {rec3 : (Int × List Int × List Bool) → Prop} {rec4 : (Int) → Prop} {rec5 : (List (Int × api_Write × Unit) × List api_Write) → Prop} {o} (h : Z111 x0 x1 x2 v12 s = some o) (hK : (orK rec5 (orK rec4 (orK rec3 (orK rec2 (orK rec1 Φ))))) o) : Z35 x0 x1 x2 v12 Φ s rec5 := by
  obtain ⟨lst, v15⟩ := s
  unfold Z111 at h
  unfold Z35
  cases lst with
  | nil => exact blS h fun _ hv h => coalesce_Fold_sound _ hv (ifS h (fun h => have t := lfS h hK; t) fun h => adS h fun h => blS h fun _ hv h => ⟨_, slices_Clone_int_int_sound _ hv rfl, adS h fun h => blS h fun _ hv h => ⟨_, slices_Clone_int_int_sound _ hv rfl, blS h fun _ hv h => ⟨_, slices_Clone_int_int_sound _ hv rfl, blS h fun _ hv h => ⟨_, cycle_division_writes_1_sound _ _ hv, LoopW.of_S (fun s q rec hs hq => cycle_Close_L6_sound _ _ _ _ _ _ _ s hs hq) _ _ h hK⟩⟩⟩⟩)
  | cons _ _ => exact adS h fun h => have t := lfS h hK; t
def Z112 (x0 : api_Capture) (x1 : Int) (v12 : List Bool) (v32 : List api_Write × Int) (v33 : List Int × Unit) (v34 : List Int × Unit) (v35 : List Int × Unit) : (List (Int × api_Write × Unit) × (List Int × List api_Write)) → Option ((List (Int × api_Write × Unit) × (List Int × List api_Write)) ⊕ ((List (Int × api_Write × Unit) × List api_Write) ⊕ ((Int) ⊕ ((Int × List Int × List Bool) ⊕ ((Int × List Int) ⊕ ((Int) ⊕ (api_Capture × api_Cycle × Int)))))))
 | (lst, v36, v37) =>
  match lst with
  | [] =>
   some (.inr (.inr (.inr (.inr (.inr (.inr ((api_Capture.mk (x0.Number + 1) v34.1 v35.1 v36 v37), (api_Cycle.mk x0.Number (x0.Number + 1) x1 v33.1 v32.1), 0)))))))
  | v38 :: r39 =>
   if inX v38.1 x0.Nodes.length then
   if lenOk (v36 ++ ([(ix x0.Nodes v38.1)] : List Int)).length 8 then
   Option.bind (Z109 (cycle_division.mk x0 v12) v38.1 v38.2.1) fun z =>
   let v40 : api_Write × Unit := (z, ())
   if lenOk (v37 ++ ([v40.1] : List api_Write)).length 40 then
   some (.inl (r39, ((v36 ++ ([(ix x0.Nodes v38.1)] : List Int)), (v37 ++ ([v40.1] : List api_Write)))))
   else none
   else none
   else none
theorem cycle_Close_L8_sound (x0 : api_Capture) (x1 : Int) (v12 : List Bool) (v32 : List api_Write × Int) (v33 : List Int × Unit) (v34 : List Int × Unit) (v35 : List Int × Unit) (s : List (Int × api_Write × Unit) × (List Int × List api_Write)) {Φ : api_Capture × api_Cycle × Int → Prop} {rec1 : (Int) → Prop} {rec2 : (Int × List Int) → Prop} {rec3 : (Int × List Int × List Bool) → Prop} {rec4 : (Int) → Prop} {rec7 : (List (Int × api_Write × Unit) × List api_Write) → Prop} {rec8 : (List (Int × api_Write × Unit) × (List Int × List api_Write)) → Prop} {o} (h : Z112 x0 x1 v12 v32 v33 v34 v35 s = some o) (hK : (orK rec8 (orK rec7 (orK rec4 (orK rec3 (orK rec2 (orK rec1 Φ)))))) o) : Z36 x0 x1 v12 v32 v33 v34 v35 Φ s rec8 := by
  obtain ⟨lst, v36, v37⟩ := s
  unfold Z112 at h
  unfold Z36
  cases lst with
  | nil => exact have t := lfS h hK; t
  | cons _ _ => exact adS h fun h => adS h fun h => blS h fun _ hv h => ⟨_, cycle_division_later_sound _ _ _ hv rfl, adS h fun h => have t := lfS h hK; t⟩
def Z113 (x0 : api_Capture) (x1 : Int) (x2 : List Int) (v12 : List Bool) : (List (Int × api_Write × Unit) × List api_Write) → Option ((List (Int × api_Write × Unit) × List api_Write) ⊕ ((Int) ⊕ ((Int × List Int × List Bool) ⊕ ((Int × List Int) ⊕ ((Int) ⊕ (api_Capture × api_Cycle × Int))))))
 | (lst, v29) =>
  match lst with
  | [] =>
   Option.bind (Z84 v29) fun v32 =>
   if ¬ (v32.2 = 0) then
    some (.inr (.inr (.inr (.inr (.inr ((api_Capture.mk 0 ([] : List Int) ([] : List Int) ([] : List Int) ([] : List api_Write)), (api_Cycle.mk 0 0 0 ([] : List Int) ([] : List api_Write)), v32.2))))))
   else
    if inI (x0.Number + 1) then
    Option.bind (Z90 x2) fun z =>
    let v33 : List Int × Unit := (z, ())
    if inI (x0.Number + 1) then
    Option.bind (Z90 x0.Sizes) fun z =>
    let v34 : List Int × Unit := (z, ())
    Option.bind (Z90 x2) fun z =>
    let v35 : List Int × Unit := (z, ())
    Option.bind (Z105 (cycle_division.mk x0 v12) false) fun l41 =>
    loopS (Z112 x0 x1 v12 v32 v33 v34 v35) 100000 (l41, (([] : List Int), ([] : List api_Write)))
    else none
    else none
  | v30 :: r31 =>
   if lenOk (v29 ++ ([v30.2.1] : List api_Write)).length 40 then
   some (.inl (r31, (v29 ++ ([v30.2.1] : List api_Write))))
   else none
theorem cycle_Close_L7_sound (x0 : api_Capture) (x1 : Int) (x2 : List Int) (v12 : List Bool) (s : List (Int × api_Write × Unit) × List api_Write) {Φ : api_Capture × api_Cycle × Int → Prop} {rec1 : (Int) → Prop} {rec2 : (Int × List Int) → Prop} {rec3 : (Int × List Int × List Bool) → Prop} {rec4 : (Int) → Prop} {rec7 : (List (Int × api_Write × Unit) × List api_Write) → Prop} {o} (h : Z113 x0 x1 x2 v12 s = some o) (hK : (orK rec7 (orK rec4 (orK rec3 (orK rec2 (orK rec1 Φ))))) o) : Z37 x0 x1 x2 v12 Φ s rec7 := by
  obtain ⟨lst, v29⟩ := s
  unfold Z113 at h
  unfold Z37
  cases lst with
  | nil => exact blS h fun _ hv h => coalesce_Fold_sound _ hv (ifS h (fun h => have t := lfS h hK; t) fun h => adS h fun h => blS h fun _ hv h => ⟨_, slices_Clone_int_int_sound _ hv rfl, adS h fun h => blS h fun _ hv h => ⟨_, slices_Clone_int_int_sound _ hv rfl, blS h fun _ hv h => ⟨_, slices_Clone_int_int_sound _ hv rfl, blS h fun _ hv h => ⟨_, cycle_division_writes_1_sound _ _ hv, LoopW.of_S (fun s q rec hs hq => cycle_Close_L8_sound _ _ _ _ _ _ _ s hs hq) _ _ h hK⟩⟩⟩⟩)
  | cons _ _ => exact adS h fun h => have t := lfS h hK; t
def Z114 (x0 : api_Capture) (x1 : Int) (x2 : List Int) (v11 : List Int) (v12 : List Bool) : (Int) → Option ((Int) ⊕ ((Int × List Int × List Bool) ⊕ ((Int × List Int) ⊕ ((Int) ⊕ (api_Capture × api_Cycle × Int)))))
 | v13 =>
  if v13 < (v11.length : Int) then
   if inX v13 v11.length then
   Option.bind (Z103 (ix v11 v13)) fun v14 =>
   if v14 = true then
    if ¬ (¬ (0 ≤ v13)) then
     some (.inr (.inr (.inr (.inr ((api_Capture.mk 0 ([] : List Int) ([] : List Int) ([] : List Int) ([] : List api_Write)), (api_Cycle.mk 0 0 0 ([] : List Int) ([] : List api_Write)), 2)))))
    else
     Option.bind (Z105 (cycle_division.mk x0 v12) true) fun l28 =>
     loopS (Z111 x0 x1 x2 v12) 100000 (l28, ([] : List api_Write))
   else
    if inI (v13 + 1) then
    some (.inl (v13 + 1))
    else none
   else none
  else
   if ¬ (¬ (0 ≤ ((-1) : Int))) then
    some (.inr (.inr (.inr (.inr ((api_Capture.mk 0 ([] : List Int) ([] : List Int) ([] : List Int) ([] : List api_Write)), (api_Cycle.mk 0 0 0 ([] : List Int) ([] : List api_Write)), 2)))))
   else
    Option.bind (Z105 (cycle_division.mk x0 v12) true) fun l42 =>
    loopS (Z113 x0 x1 x2 v12) 100000 (l42, ([] : List api_Write))
theorem cycle_Close_L4_sound (x0 : api_Capture) (x1 : Int) (x2 : List Int) (v11 : List Int) (v12 : List Bool) (s : Int) {Φ : api_Capture × api_Cycle × Int → Prop} {rec1 : (Int) → Prop} {rec2 : (Int × List Int) → Prop} {rec3 : (Int × List Int × List Bool) → Prop} {rec4 : (Int) → Prop} {o} (h : Z114 x0 x1 x2 v11 v12 s = some o) (hK : (orK rec4 (orK rec3 (orK rec2 (orK rec1 Φ)))) o) : Z38 x0 x1 x2 v11 v12 Φ s rec4 := by
  unfold Z114 at h
  unfold Z38
  exact ifS h (fun h => adS h fun h => blS h fun _ hv h => cycle_divide_1_sound _ hv (ifS h (fun h => ifS h (fun h => have t := lfS h hK; t) fun h => blS h fun _ hv h => ⟨_, cycle_division_writes_1_sound _ _ hv, LoopW.of_S (fun s q rec hs hq => cycle_Close_L5_sound _ _ _ _ s hs hq) _ _ h hK⟩) fun h => adS h fun h => have t := lfS h hK; t)) fun h => ifS h (fun h => have t := lfS h hK; t) fun h => blS h fun _ hv h => ⟨_, cycle_division_writes_1_sound _ _ hv, LoopW.of_S (fun s q rec hs hq => cycle_Close_L7_sound _ _ _ _ s hs hq) _ _ h hK⟩
def Z115 (x0 : api_Capture) (x1 : Int) (x2 : List Int) : (Int × List Int × List Bool) → Option ((Int × List Int × List Bool) ⊕ ((Int × List Int) ⊕ ((Int) ⊕ (api_Capture × api_Cycle × Int))))
 | (v10, v11, v12) =>
  if v10 < (x0.Nodes.length : Int) then
   if inX v10 x0.Nodes.length then
   if inX (ix x0.Nodes v10) v11.length then
   if lenOk (v12 ++ ([decide (0 < (ix v11 (ix x0.Nodes v10)))] : List Bool)).length 1 then
   if inX (ix x0.Nodes v10) v11.length then
   if inI ((ix v11 (ix x0.Nodes v10)) - 1) then
   if inX (ix x0.Nodes v10) v11.length then
   if inI (v10 + 1) then
   some (.inl ((v10 + 1), (put v11 (ix x0.Nodes v10) (if ((ix v11 (ix x0.Nodes v10)) - 1) < 0 then 0 else ((ix v11 (ix x0.Nodes v10)) - 1))), (v12 ++ ([decide (0 < (ix v11 (ix x0.Nodes v10)))] : List Bool))))
   else none
   else none
   else none
   else none
   else none
   else none
   else none
  else
   loopS (Z114 x0 x1 x2 v11 v12) 100000 0
theorem cycle_Close_L3_sound (x0 : api_Capture) (x1 : Int) (x2 : List Int) (s : Int × List Int × List Bool) {Φ : api_Capture × api_Cycle × Int → Prop} {rec1 : (Int) → Prop} {rec2 : (Int × List Int) → Prop} {rec3 : (Int × List Int × List Bool) → Prop} {o} (h : Z115 x0 x1 x2 s = some o) (hK : (orK rec3 (orK rec2 (orK rec1 Φ))) o) : Z39 x0 x1 x2 Φ s rec3 := by
  obtain ⟨v10, v11, v12⟩ := s
  unfold Z115 at h
  unfold Z39
  exact ifS h (fun h => adS h fun h => adS h fun h => adS h fun h => adS h fun h => adS h fun h => adS h fun h => adS h fun h => have t := lfS h hK; t) fun h => LoopW.of_S (fun s q rec hs hq => cycle_Close_L4_sound _ _ _ _ _ s hs hq) _ _ h hK
def Z116 (x0 : api_Capture) (x1 : Int) (x2 : List Int) : (Int × List Int) → Option ((Int × List Int) ⊕ ((Int) ⊕ (api_Capture × api_Cycle × Int)))
 | (v8, v9) =>
  if v8 < (x2.length : Int) then
   if inX v8 x2.length then
   if inX v8 x0.Positions.length then
   if inI ((ix x2 v8) - (ix x0.Positions v8)) then
   if inX v8 v9.length then
   if inX v8 (put v9 v8 ((ix x2 v8) - (ix x0.Positions v8))).length then
   if ¬ (0 ≤ (ix (put v9 v8 ((ix x2 v8) - (ix x0.Positions v8))) v8)) then
    some (.inr (.inr ((api_Capture.mk 0 ([] : List Int) ([] : List Int) ([] : List Int) ([] : List api_Write)), (api_Cycle.mk 0 0 0 ([] : List Int) ([] : List api_Write)), 2)))
   else
    if inI (v8 + 1) then
    some (.inl ((v8 + 1), (put v9 v8 ((ix x2 v8) - (ix x0.Positions v8)))))
    else none
   else none
   else none
   else none
   else none
   else none
  else
   loopS (Z115 x0 x1 x2) 100000 (0, v9, ([] : List Bool))
theorem cycle_Close_L2_sound (x0 : api_Capture) (x1 : Int) (x2 : List Int) (s : Int × List Int) {Φ : api_Capture × api_Cycle × Int → Prop} {rec1 : (Int) → Prop} {rec2 : (Int × List Int) → Prop} {o} (h : Z116 x0 x1 x2 s = some o) (hK : (orK rec2 (orK rec1 Φ)) o) : Z40 x0 x1 x2 Φ s rec2 := by
  obtain ⟨v8, v9⟩ := s
  unfold Z116 at h
  unfold Z40
  exact ifS h (fun h => adS h fun h => adS h fun h => adS h fun h => adS h fun h => adS h fun h => ifS h (fun h => have t := lfS h hK; t) fun h => adS h fun h => have t := lfS h hK; t) fun h => LoopW.of_S (fun s q rec hs hq => cycle_Close_L3_sound _ _ _ s hs hq) _ _ h hK
def Z117 (x0 : api_Capture) (x1 : Int) (x2 : List Int) (v1 : List (List Sec) × Int) : (Int) → Option ((Int) ⊕ (api_Capture × api_Cycle × Int))
 | v4 =>
  if v4 < (x0.Writes.length : Int) then
   if inX v4 x0.Writes.length then
   if inX v4 x0.Nodes.length then
   if inI ((x0.Positions.length : Int) - 1) then
   Option.bind (cycle_in_S (ix x0.Nodes v4) 0 ((x0.Positions.length : Int) - 1)) fun v5 =>
   if ¬ (v5 = true) then
    some (.inr ((api_Capture.mk 0 ([] : List Int) ([] : List Int) ([] : List Int) ([] : List api_Write)), (api_Cycle.mk 0 0 0 ([] : List Int) ([] : List api_Write)), 7))
   else
    Option.bind (image_Fits_S v1.1 (ix x0.Writes v4)) fun v6 =>
    if ¬ (v6 = 0) then
     some (.inr ((api_Capture.mk 0 ([] : List Int) ([] : List Int) ([] : List Int) ([] : List api_Write)), (api_Cycle.mk 0 0 0 ([] : List Int) ([] : List api_Write)), v6))
    else
     if inI (v4 + 1) then
     some (.inl (v4 + 1))
     else none
   else none
   else none
   else none
  else
   Option.bind (cycle_in_S x1 0 1073741824) fun v7 =>
   if ¬ (v7 = true) then
    some (.inr ((api_Capture.mk 0 ([] : List Int) ([] : List Int) ([] : List Int) ([] : List api_Write)), (api_Cycle.mk 0 0 0 ([] : List Int) ([] : List api_Write)), 24))
   else
    if ¬ ((x2.length : Int) = (x0.Positions.length : Int)) then
     some (.inr ((api_Capture.mk 0 ([] : List Int) ([] : List Int) ([] : List Int) ([] : List api_Write)), (api_Cycle.mk 0 0 0 ([] : List Int) ([] : List api_Write)), 6))
    else
     if 0 ≤ (x2.length : Int) then
     if lenOk (x2.length : Int).toNat 8 then
     loopS (Z116 x0 x1 x2) 100000 (0, (List.replicate (x2.length : Int).toNat (0 : Int)))
     else none
     else none
theorem cycle_Close_L1_sound (x0 : api_Capture) (x1 : Int) (x2 : List Int) (v1 : List (List Sec) × Int) (s : Int) {Φ : api_Capture × api_Cycle × Int → Prop} {rec1 : (Int) → Prop} {o} (h : Z117 x0 x1 x2 v1 s = some o) (hK : (orK rec1 Φ) o) : Z41 x0 x1 x2 v1 Φ s rec1 := by
  unfold Z117 at h
  unfold Z41
  exact ifS h (fun h => adS h fun h => adS h fun h => adS h fun h => blS h fun _ hv h => cycle_in_sound _ _ _ hv (ifS h (fun h => have t := lfS h hK; t) fun h => blS h fun _ hv h => image_Fits_sound _ _ hv (ifS h (fun h => have t := lfS h hK; t) fun h => adS h fun h => have t := lfS h hK; t))) fun h => blS h fun _ hv h => cycle_in_sound _ _ _ hv (ifS h (fun h => have t := lfS h hK; t) fun h => ifS h (fun h => have t := lfS h hK; t) fun h => adS h fun h => adS h fun h => LoopW.of_S (fun s q rec hs hq => cycle_Close_L2_sound _ _ _ s hs hq) _ _ h hK)
def cycle_Close_S (x0 : api_Capture) (x1 : Int) (x2 : List Int) : Option (api_Capture × api_Cycle × Int) :=
 Option.bind (image_New_S x0.Sizes) fun v1 =>
 if ¬ (v1.2 = 0) then
  some (((api_Capture.mk 0 ([] : List Int) ([] : List Int) ([] : List Int) ([] : List api_Write)), (api_Cycle.mk 0 0 0 ([] : List Int) ([] : List api_Write)), v1.2))
 else
  Option.bind (cycle_in_S x0.Number 0 1073741823) fun v2 =>
  if ¬ (v2 = true) then
   some (((api_Capture.mk 0 ([] : List Int) ([] : List Int) ([] : List Int) ([] : List api_Write)), (api_Cycle.mk 0 0 0 ([] : List Int) ([] : List api_Write)), 2))
  else
   Option.bind (Z94 x0.Positions 1) fun v3 =>
   if ¬ (v3 = 0) then
    some (((api_Capture.mk 0 ([] : List Int) ([] : List Int) ([] : List Int) ([] : List api_Write)), (api_Cycle.mk 0 0 0 ([] : List Int) ([] : List api_Write)), v3))
   else
    if (x0.Nodes.length : Int) = (x0.Writes.length : Int) then
     if ¬ ((x0.Writes.length : Int) ≤ 4096) then
      some (((api_Capture.mk 0 ([] : List Int) ([] : List Int) ([] : List Int) ([] : List api_Write)), (api_Cycle.mk 0 0 0 ([] : List Int) ([] : List api_Write)), 6))
     else
      loopS (Z117 x0 x1 x2 v1) 100000 0
    else
     some (((api_Capture.mk 0 ([] : List Int) ([] : List Int) ([] : List Int) ([] : List api_Write)), (api_Cycle.mk 0 0 0 ([] : List Int) ([] : List api_Write)), 6))
theorem cycle_Close_sound (x0 : api_Capture) (x1 : Int) (x2 : List Int) {Φ : api_Capture × api_Cycle × Int → Prop} {o} (h : cycle_Close_S x0 x1 x2 = some o) (hK : Φ o) : cycle_Close_W x0 x1 x2 Φ := by
  unfold cycle_Close_S at h
  unfold cycle_Close_W
  exact blS h fun _ hv h => image_New_sound _ hv (ifS h (fun h => have t := lfS h hK; t) fun h => blS h fun _ hv h => cycle_in_sound _ _ _ hv (ifS h (fun h => have t := lfS h hK; t) fun h => blS h fun _ hv h => cycle_positions_sound _ _ hv (ifS h (fun h => have t := lfS h hK; t) fun h => ifS h (fun h => ifS h (fun h => have t := lfS h hK; t) fun h => LoopW.of_S (fun s q rec hs hq => cycle_Close_L1_sound _ _ _ _ s hs hq) _ _ h hK) fun h => have t := lfS h hK; t)))
def Z118 (x0 : List Sec) (x1 : List Sec) : (Int) → Option ((Int) ⊕ (Bool))
 | v1 =>
  if v1 < (x0.length : Int) then
   if inX v1 x0.length then
   if inX v1 x1.length then
   if (ix x0 v1) ≠ (ix x1 v1) then
    some (.inr false)
   else
    if inI (v1 + 1) then
    some (.inl (v1 + 1))
    else none
   else none
   else none
  else
   some (.inr true)
theorem ref03_SameSectors_L1_sound (x0 : List Sec) (x1 : List Sec) (s : Int) {Φ : Bool → Prop} {rec1 : (Int) → Prop} {o} (h : Z118 x0 x1 s = some o) (hK : (orK rec1 Φ) o) : Z42 x0 x1 Φ s rec1 := by
  unfold Z118 at h
  unfold Z42
  exact ifS h (fun h => adS h fun h => adS h fun h => ifS h (fun h => have t := lfS h hK; t) fun h => adS h fun h => have t := lfS h hK; t) fun h => have t := lfS h hK; t
def Z119 (x0 : List Sec) (x1 : List Sec) : Option (Bool) :=
 if (x0.length : Int) ≠ (x1.length : Int) then
  some (false)
 else
  loopS (Z118 x0 x1) 100000 0
theorem ref03_SameSectors_sound (x0 : List Sec) (x1 : List Sec) {Φ : Bool → Prop} {o} (h : Z119 x0 x1 = some o) (hK : Φ o) : Z43 x0 x1 Φ := by
  unfold Z119 at h
  unfold Z43
  exact ifS h (fun h => have t := lfS h hK; t) fun h => LoopW.of_S (fun s q rec hs hq => ref03_SameSectors_L1_sound _ _ s hs hq) _ _ h hK
def Z120 (x0 : List api_Write) (x1 : List api_Write) : (Int) → Option ((Int) ⊕ (Bool))
 | v1 =>
  if v1 < (x0.length : Int) then
   if inX v1 x0.length then
   if inX v1 x1.length then
   if ((ix x0 v1).Volume) ≠ ((ix x1 v1).Volume) then
    some (.inr false)
   else
    if inX v1 x0.length then
    if inX v1 x1.length then
    if ((ix x0 v1).Start) ≠ ((ix x1 v1).Start) then
     some (.inr false)
    else
     if inX v1 x0.length then
     if inX v1 x1.length then
     Option.bind (Z119 ((ix x0 v1).Data) ((ix x1 v1).Data)) fun z =>
     let v2 : Bool × Unit := (z, ())
     if ¬ (v2.1 = true) then
      some (.inr false)
     else
      if inI (v1 + 1) then
      some (.inl (v1 + 1))
      else none
     else none
     else none
    else none
    else none
   else none
   else none
  else
   some (.inr true)
theorem ref03_SameWrites_L1_sound (x0 : List api_Write) (x1 : List api_Write) (s : Int) {Φ : Bool → Prop} {rec1 : (Int) → Prop} {o} (h : Z120 x0 x1 s = some o) (hK : (orK rec1 Φ) o) : Z44 x0 x1 Φ s rec1 := by
  unfold Z120 at h
  unfold Z44
  exact ifS h (fun h => adS h fun h => adS h fun h => ifS h (fun h => have t := lfS h hK; t) fun h => adS h fun h => adS h fun h => ifS h (fun h => have t := lfS h hK; t) fun h => adS h fun h => adS h fun h => blS h fun _ hv h => ⟨_, ref03_SameSectors_sound _ _ hv rfl, ifS h (fun h => have t := lfS h hK; t) fun h => adS h fun h => have t := lfS h hK; t⟩) fun h => have t := lfS h hK; t
def Z121 (x0 : List api_Write) (x1 : List api_Write) : Option (Bool) :=
 if (x0.length : Int) ≠ (x1.length : Int) then
  some (false)
 else
  loopS (Z120 x0 x1) 100000 0
theorem ref03_SameWrites_sound (x0 : List api_Write) (x1 : List api_Write) {Φ : Bool → Prop} {o} (h : Z121 x0 x1 = some o) (hK : Φ o) : Z45 x0 x1 Φ := by
  unfold Z121 at h
  unfold Z45
  exact ifS h (fun h => have t := lfS h hK; t) fun h => LoopW.of_S (fun s q rec hs hq => ref03_SameWrites_L1_sound _ _ s hs hq) _ _ h hK
def ref22_Same_S (x0 : List api_Write) (x1 : List api_Write) : Option (Bool) :=
 Option.bind (Z121 x0 x1) fun v1 =>
 some (v1)
theorem ref22_Same_sound (x0 : List api_Write) (x1 : List api_Write) {Φ : Bool → Prop} {o} (h : ref22_Same_S x0 x1 = some o) (hK : Φ o) : ref22_Same_W x0 x1 Φ := by
  unfold ref22_Same_S at h
  unfold ref22_Same_W
  exact blS h fun _ hv h => ref03_SameWrites_sound _ _ hv (have t := lfS h hK; t)
def Z122 (x0 : BitVec 64) (x1 : BitVec 64) : Option (BitVec 64 × BitVec 64) :=
 some ((((((x0 >>> ((32#64).toNat : Int).toNat) * (x1 >>> ((32#64).toNat : Int).toNat)) + ((((x0 >>> ((32#64).toNat : Int).toNat) * (x1 &&& (4294967295#64))) + (((x0 &&& (4294967295#64)) * (x1 &&& (4294967295#64))) >>> ((32#64).toNat : Int).toNat)) >>> ((32#64).toNat : Int).toNat)) + ((((((x0 >>> ((32#64).toNat : Int).toNat) * (x1 &&& (4294967295#64))) + (((x0 &&& (4294967295#64)) * (x1 &&& (4294967295#64))) >>> ((32#64).toNat : Int).toNat)) &&& (4294967295#64)) + ((x0 &&& (4294967295#64)) * (x1 >>> ((32#64).toNat : Int).toNat))) >>> ((32#64).toNat : Int).toNat)), (x0 * x1)))
theorem math_bits_Mul64_sound (x0 : BitVec 64) (x1 : BitVec 64) {Φ : BitVec 64 × BitVec 64 → Prop} {o} (h : Z122 x0 x1 = some o) (hK : Φ o) : Z46 x0 x1 Φ := by
  unfold Z122 at h
  unfold Z46
  exact have t := lfS h hK; t
def Z123 (x0 : BitVec 64) (x1 : BitVec 64) : Option (BitVec 64 × BitVec 64) :=
 Option.bind (Z122 x0 x1) fun v1 =>
 some ((v1.1, v1.2))
theorem math_bits_Mul_sound (x0 : BitVec 64) (x1 : BitVec 64) {Φ : BitVec 64 × BitVec 64 → Prop} {o} (h : Z123 x0 x1 = some o) (hK : Φ o) : Z47 x0 x1 Φ := by
  unfold Z123 at h
  unfold Z47
  exact blS h fun _ hv h => math_bits_Mul64_sound _ _ hv (have t := lfS h hK; t)
def Z124 : (Int × List Int) → Option ((Int × List Int) ⊕ (List Int))
 | (v3, v4) =>
  if v3 < (v4.length : Int) then
   if inS v3 (v4.length : Int) v4.length then
   if inS 0 v3 v4.length then
   if inI (v3 + ((min (sub v4 0 v3).length (v4.length - (v3 : Int).toNat) : Nat) : Int)) then
   some (.inl ((v3 + ((min (sub v4 0 v3).length (v4.length - (v3 : Int).toNat) : Nat) : Int)), (paste v4 v3 (sub v4 0 v3))))
   else none
   else none
   else none
  else
   some (.inr v4)
theorem slices_Repeat_int_int_L2_sound (s : Int × List Int) {Φ : List Int → Prop} {rec2 : (Int × List Int) → Prop} {o} (h : Z124 s = some o) (hK : (orK rec2 Φ) o) : Z48 Φ s rec2 := by
  obtain ⟨v3, v4⟩ := s
  unfold Z124 at h
  unfold Z48
  exact ifS h (fun h => adS h fun h => adS h fun h => adS h fun h => have t := lfS h hK; t) fun h => have t := lfS h hK; t
def Z125 (x0 : List Int) (v1 : BitVec 64 × BitVec 64) : (Bool) → Option (List Int)
 | v2 =>
  if v2 = true then
   none
  else
   if 0 ≤ v1.2.toInt then
   if lenOk v1.2.toInt.toNat 8 then
   loopS (Z124) 100000 (((min x0.length ((List.replicate v1.2.toInt.toNat (0 : Int)).length - (0 : Int).toNat) : Nat) : Int), (paste (List.replicate v1.2.toInt.toNat (0 : Int)) 0 x0))
   else none
   else none
theorem slices_Repeat_int_int_J1_sound (x0 : List Int) (v1 : BitVec 64 × BitVec 64) (s : Bool) {Φ : List Int → Prop} {o} (h : Z125 x0 v1 s = some o) (hK : Φ o) : Z49 x0 v1 Φ s := by
  unfold Z125 at h
  unfold Z49
  exact ifS h (fun h => (by cases h)) fun h => adS h fun h => adS h fun h => LoopW.of_S (fun s q rec hs hq => slices_Repeat_int_int_L2_sound s hs hq) _ _ h hK
def Z126 (x0 : List Int) (x1 : Int) : Option (List Int) :=
 if x1 < 0 then
  none
 else
  Option.bind (Z123 (BitVec.ofInt 64 (x0.length : Int)) (BitVec.ofInt 64 x1)) fun v1 =>
  if (0#64) < v1.1 then
   Z125 x0 v1 true
  else
   Z125 x0 v1 (decide ((9223372036854775807#64) < v1.2))
theorem slices_Repeat_int_int_sound (x0 : List Int) (x1 : Int) {Φ : List Int → Prop} {o} (h : Z126 x0 x1 = some o) (hK : Φ o) : Z50 x0 x1 Φ := by
  unfold Z126 at h
  unfold Z50
  exact ifS h (fun h => (by cases h)) fun h => blS h fun _ hv h => math_bits_Mul_sound _ _ hv (ifS h (fun h => slices_Repeat_int_int_J1_sound _ _ _ h hK) fun h => slices_Repeat_int_int_J1_sound _ _ _ h hK)
def Z127 : Option (List Int) :=
 Option.bind (Z126 ([4096] : List Int) 8) fun v1 =>
 some (v1)
theorem cycle_largest_sound {Φ : List Int → Prop} {o} (h : Z127 = some o) (hK : Φ o) : Z51 Φ := by
  unfold Z127 at h
  unfold Z51
  exact blS h fun _ hv h => slices_Repeat_int_int_sound _ _ hv (have t := lfS h hK; t)
def Z128 (x0 : List api_Write) (v1 : List (List Sec) × Int) : (Int) → Option ((Int) ⊕ (Int))
 | v2 =>
  if v2 < (x0.length : Int) then
   if inX v2 x0.length then
   Option.bind (image_Fits_S v1.1 (ix x0 v2)) fun v3 =>
   if v3 ≠ 0 then
    some (.inr v3)
   else
    if v2 = 0 then
     if inI (v2 + 1) then
     some (.inl (v2 + 1))
     else none
    else
     if inI (v2 - 1) then
     if inX (v2 - 1) x0.length then
     if ((ix x0 v2).Volume) < ((ix x0 (v2 - 1)).Volume) then
      some (.inr 3)
     else
      if ((ix x0 v2).Volume) = ((ix x0 (v2 - 1)).Volume) then
       if inI (((ix x0 (v2 - 1)).Start) + (((ix x0 (v2 - 1)).Data).length : Int)) then
       if ((ix x0 v2).Start) ≤ (((ix x0 (v2 - 1)).Start) + (((ix x0 (v2 - 1)).Data).length : Int)) then
        some (.inr 3)
       else
        if inI (v2 + 1) then
        some (.inl (v2 + 1))
        else none
       else none
      else
       if inI (v2 + 1) then
       some (.inl (v2 + 1))
       else none
     else none
     else none
   else none
  else
   some (.inr 0)
theorem coalesce_Check_L1_sound (x0 : List api_Write) (v1 : List (List Sec) × Int) (s : Int) {Φ : Int → Prop} {rec1 : (Int) → Prop} {o} (h : Z128 x0 v1 s = some o) (hK : (orK rec1 Φ) o) : Z52 x0 v1 Φ s rec1 := by
  unfold Z128 at h
  unfold Z52
  exact ifS h (fun h => adS h fun h => blS h fun _ hv h => image_Fits_sound _ _ hv (ifS h (fun h => have t := lfS h hK; t) fun h => ifS h (fun h => adS h fun h => have t := lfS h hK; t) fun h => adS h fun h => adS h fun h => ifS h (fun h => have t := lfS h hK; t) fun h => ifS h (fun h => adS h fun h => ifS h (fun h => have t := lfS h hK; t) fun h => adS h fun h => have t := lfS h hK; t) fun h => adS h fun h => have t := lfS h hK; t)) fun h => have t := lfS h hK; t
def Z129 (x0 : List api_Write) (x1 : List Int) : Option (Int) :=
 Option.bind (image_New_S x1) fun v1 =>
 if v1.2 ≠ 0 then
  some (v1.2)
 else
  loopS (Z128 x0 v1) 100000 0
theorem coalesce_Check_sound (x0 : List api_Write) (x1 : List Int) {Φ : Int → Prop} {o} (h : Z129 x0 x1 = some o) (hK : Φ o) : Z53 x0 x1 Φ := by
  unfold Z129 at h
  unfold Z53
  exact blS h fun _ hv h => image_New_sound _ hv (ifS h (fun h => have t := lfS h hK; t) fun h => LoopW.of_S (fun s q rec hs hq => coalesce_Check_L1_sound _ _ s hs hq) _ _ h hK)
def Z130 (x0 : api_Cycle) (x1 : List Int) : (Bool) → Option (Int)
 | v2 =>
  if v2 = true then
   some (2)
  else
   Option.bind (cycle_in_S x0.Time 0 1073741824) fun v3 =>
   if ¬ (v3 = true) then
    some (24)
   else
    Option.bind (Z94 x0.Positions 0) fun v4 =>
    if v4 ≠ 0 then
     some (v4)
    else
     Option.bind (Z129 x0.Writes x1) fun v5 =>
     some (v5)
theorem cycle_Check_J1_sound (x0 : api_Cycle) (x1 : List Int) (s : Bool) {Φ : Int → Prop} {o} (h : Z130 x0 x1 s = some o) (hK : Φ o) : Z54 x0 x1 Φ s := by
  unfold Z130 at h
  unfold Z54
  exact ifS h (fun h => have t := lfS h hK; t) fun h => blS h fun _ hv h => cycle_in_sound _ _ _ hv (ifS h (fun h => have t := lfS h hK; t) fun h => blS h fun _ hv h => cycle_positions_sound _ _ hv (ifS h (fun h => have t := lfS h hK; t) fun h => blS h fun _ hv h => coalesce_Check_sound _ _ hv (have t := lfS h hK; t)))
def cycle_Check_S (x0 : api_Cycle) (x1 : List Int) : Option (Int) :=
 Option.bind (image_New_S x1) fun v1 =>
 if v1.2 ≠ 0 then
  some (v1.2)
 else
  if x0.Base < 0 then
   Z130 x0 x1 true
  else
   if x0.Number ≤ x0.Base then
    Z130 x0 x1 true
   else
    Z130 x0 x1 (decide (1073741824 < x0.Number))
theorem cycle_Check_sound (x0 : api_Cycle) (x1 : List Int) {Φ : Int → Prop} {o} (h : cycle_Check_S x0 x1 = some o) (hK : Φ o) : cycle_Check_W x0 x1 Φ := by
  unfold cycle_Check_S at h
  unfold cycle_Check_W
  exact blS h fun _ hv h => image_New_sound _ hv (ifS h (fun h => have t := lfS h hK; t) fun h => ifS h (fun h => cycle_Check_J1_sound _ _ _ h hK) fun h => ifS h (fun h => cycle_Check_J1_sound _ _ _ h hK) fun h => cycle_Check_J1_sound _ _ _ h hK)
def Z131 (x0 : api_Cycle) (x1 : api_Cycle) : (Int) → Option ((Int) ⊕ ((Int) ⊕ (api_Cycle × Int)))
 | v4 =>
  if v4 < (x0.Positions.length : Int) then
   if inX v4 x0.Positions.length then
   if inX v4 x1.Positions.length then
   if (ix x1.Positions v4) < (ix x0.Positions v4) then
    some (.inr (.inr ((api_Cycle.mk 0 0 0 ([] : List Int) ([] : List api_Write)), 2)))
   else
    if inI (v4 + 1) then
    some (.inl (v4 + 1))
    else none
   else none
   else none
  else
   Option.bind (Z85 x0.Writes x1.Writes) fun v5 =>
   if v5.2 ≠ 0 then
    some (.inr (.inr ((api_Cycle.mk 0 0 0 ([] : List Int) ([] : List api_Write)), v5.2)))
   else
    Option.bind (Z90 x1.Positions) fun z =>
    let v6 : List Int × Unit := (z, ())
    some (.inr (.inr ((api_Cycle.mk x0.Base x1.Number x1.Time v6.1 v5.1), 0)))
theorem cycle_Compose_L2_sound (x0 : api_Cycle) (x1 : api_Cycle) (s : Int) {Φ : api_Cycle × Int → Prop} {rec1 : (Int) → Prop} {rec2 : (Int) → Prop} {o} (h : Z131 x0 x1 s = some o) (hK : (orK rec2 (orK rec1 Φ)) o) : Z68 x0 x1 Φ s rec2 := by
  unfold Z131 at h
  unfold Z68
  exact ifS h (fun h => adS h fun h => adS h fun h => ifS h (fun h => have t := lfS h hK; t) fun h => adS h fun h => have t := lfS h hK; t) fun h => blS h fun _ hv h => coalesce_Merge_sound _ _ hv (ifS h (fun h => have t := lfS h hK; t) fun h => blS h fun _ hv h => ⟨_, slices_Clone_int_int_sound _ hv rfl, have t := lfS h hK; t⟩)
def Z132 (x0 : api_Cycle) (x1 : api_Cycle) : (Int) → Option ((Int) ⊕ (api_Cycle × Int))
 | v1 =>
  if v1 < (([x0, x1] : List api_Cycle).length : Int) then
   if inX v1 ([x0, x1] : List api_Cycle).length then
   Option.bind (Z127) fun z =>
   let v2 : List Int × Unit := (z, ())
   Option.bind (cycle_Check_S (ix ([x0, x1] : List api_Cycle) v1) v2.1) fun z =>
   let v3 : Int × Unit := (z, ())
   if v3.1 ≠ 0 then
    some (.inr ((api_Cycle.mk 0 0 0 ([] : List Int) ([] : List api_Write)), v3.1))
   else
    if inI (v1 + 1) then
    some (.inl (v1 + 1))
    else none
   else none
  else
   if x1.Base ≠ x0.Number then
    some (.inr ((api_Cycle.mk 0 0 0 ([] : List Int) ([] : List api_Write)), 15))
   else
    if (x0.Positions.length : Int) ≠ (x1.Positions.length : Int) then
     some (.inr ((api_Cycle.mk 0 0 0 ([] : List Int) ([] : List api_Write)), 6))
    else
     if x1.Time < x0.Time then
      some (.inr ((api_Cycle.mk 0 0 0 ([] : List Int) ([] : List api_Write)), 24))
     else
      loopS (Z131 x0 x1) 100000 0
theorem cycle_Compose_L1_sound (x0 : api_Cycle) (x1 : api_Cycle) (s : Int) {Φ : api_Cycle × Int → Prop} {rec1 : (Int) → Prop} {o} (h : Z132 x0 x1 s = some o) (hK : (orK rec1 Φ) o) : Z69 x0 x1 Φ s rec1 := by
  unfold Z132 at h
  unfold Z69
  exact ifS h (fun h => adS h fun h => blS h fun _ hv h => ⟨_, cycle_largest_sound hv rfl, blS h fun _ hv h => ⟨_, cycle_Check_sound _ _ hv rfl, ifS h (fun h => have t := lfS h hK; t) fun h => adS h fun h => have t := lfS h hK; t⟩⟩) fun h => ifS h (fun h => have t := lfS h hK; t) fun h => ifS h (fun h => have t := lfS h hK; t) fun h => ifS h (fun h => have t := lfS h hK; t) fun h => LoopW.of_S (fun s q rec hs hq => cycle_Compose_L2_sound _ _ s hs hq) _ _ h hK
def Z133 (x0 : api_Cycle) (x1 : api_Cycle) : Option (api_Cycle × Int) :=
 loopS (Z132 x0 x1) 100000 0
theorem cycle_Compose_sound (x0 : api_Cycle) (x1 : api_Cycle) {Φ : api_Cycle × Int → Prop} {o} (h : Z133 x0 x1 = some o) (hK : Φ o) : Z70 x0 x1 Φ := by
  unfold Z133 at h
  unfold Z70
  exact LoopW.of_S (fun s q rec hs hq => cycle_Compose_L1_sound _ _ s hs hq) _ _ h hK
def Z134 (v8 : api_Capture × api_Cycle × Int) : (Unit) → Option (Bool)
 | _ =>
  Option.bind (cycle_Close_S v8.1 6 ([2, 1] : List Int)) fun v9 =>
  Option.bind (Z133 v8.2.1 v9.2.1) fun v10 =>
  Option.bind (law23_write_S 0 1 ([98#8, 99#8] : List (BitVec 8))) fun v11 =>
  if v9.2.2 = 0 then
   if v10.2 = 0 then
    Option.bind (ref22_Same_S v9.2.1.Writes ([v11] : List api_Write)) fun v12 =>
    if v12 = true then
     if v10.1.Base = 0 then
      if v10.1.Number = 2 then
       Option.bind (ref22_Same_S v10.1.Writes ([v11] : List api_Write)) fun v13 =>
       some (v13)
      else
       some (false)
     else
      some (false)
    else
     some (false)
   else
    some (false)
  else
   some (false)
theorem law23_awake_J1_sound (v8 : api_Capture × api_Cycle × Int) (s : Unit) {Φ : Bool → Prop} {o} (h : Z134 v8 s = some o) (hK : Φ o) : Z71 v8 Φ s := by
  unfold Z134 at h
  unfold Z71
  exact blS h fun _ hv h => cycle_Close_sound _ _ _ hv (blS h fun _ hv h => cycle_Compose_sound _ _ hv (blS h fun _ hv h => law23_write_sound _ _ _ hv (ifS h (fun h => ifS h (fun h => blS h fun _ hv h => ref22_Same_sound _ _ hv (ifS h (fun h => ifS h (fun h => ifS h (fun h => blS h fun _ hv h => ref22_Same_sound _ _ hv (have t := lfS h hK; t)) fun h => have t := lfS h hK; t) fun h => have t := lfS h hK; t) fun h => have t := lfS h hK; t)) fun h => have t := lfS h hK; t) fun h => have t := lfS h hK; t)))
def law23_awake_S : Option (Bool) :=
 Option.bind (cycle_Open_S ([4] : List Int) 2 0) fun v1 =>
 Option.bind (law23_write_S 0 1 ([97#8] : List (BitVec 8))) fun z =>
 let v2 : api_Write × Unit := (z, ())
 Option.bind (cycle_Add_S v1.1 0 v2.1) fun z =>
 let v3 : api_Capture × Int × Unit := (z.1, z.2, ())
 Option.bind (law23_write_S 0 1 ([98#8] : List (BitVec 8))) fun z =>
 let v4 : api_Write × Unit := (z, ())
 Option.bind (cycle_Add_S v3.1 1 v4.1) fun z =>
 let v5 : api_Capture × Int × Unit := (z.1, z.2, ())
 Option.bind (law23_write_S 0 2 ([99#8] : List (BitVec 8))) fun z =>
 let v6 : api_Write × Unit := (z, ())
 Option.bind (cycle_Add_S v5.1 0 v6.1) fun z =>
 let v7 : api_Capture × Int × Unit := (z.1, z.2, ())
 Option.bind (cycle_Close_S v7.1 5 ([0, 1] : List Int)) fun v8 =>
 if inI (v1.2 + v3.2.1) then
 if inI ((v1.2 + v3.2.1) + v5.2.1) then
 if inI (((v1.2 + v3.2.1) + v5.2.1) + v7.2.1) then
 if inI ((((v1.2 + v3.2.1) + v5.2.1) + v7.2.1) + v8.2.2) then
 if ((((v1.2 + v3.2.1) + v5.2.1) + v7.2.1) + v8.2.2) ≠ 0 then
  some (false)
 else
  if v8.2.1.Base ≠ 0 then
   some (false)
  else
   if v8.2.1.Number ≠ 1 then
    some (false)
   else
    Option.bind (law23_write_S 0 1 ([98#8] : List (BitVec 8))) fun z =>
    let v14 : api_Write × Unit := (z, ())
    Option.bind (ref22_Same_S v8.2.1.Writes ([v14.1] : List api_Write)) fun z =>
    let v15 : Bool × Unit := (z, ())
    if ¬ (v15.1 = true) then
     some (false)
    else
     Option.bind (law23_write_S 0 1 ([98#8] : List (BitVec 8))) fun z =>
     let v16 : api_Write × Unit := (z, ())
     Option.bind (law23_write_S 0 2 ([99#8] : List (BitVec 8))) fun z =>
     let v17 : api_Write × Unit := (z, ())
     Option.bind (ref22_Same_S v8.1.Writes ([v16.1, v17.1] : List api_Write)) fun z =>
     let v18 : Bool × Unit := (z, ())
     if ¬ (v18.1 = true) then
      some (false)
     else
      Z134 v8 ()
 else none
 else none
 else none
 else none
theorem law23_awake_sound {Φ : Bool → Prop} {o} (h : law23_awake_S = some o) (hK : Φ o) : law23_awake_W Φ := by
  unfold law23_awake_S at h
  unfold law23_awake_W
  exact blS h fun _ hv h => cycle_Open_sound _ _ _ hv (blS h fun _ hv h => ⟨_, law23_write_sound _ _ _ hv rfl, blS h fun _ hv h => ⟨_, cycle_Add_sound _ _ _ hv rfl, blS h fun _ hv h => ⟨_, law23_write_sound _ _ _ hv rfl, blS h fun _ hv h => ⟨_, cycle_Add_sound _ _ _ hv rfl, blS h fun _ hv h => ⟨_, law23_write_sound _ _ _ hv rfl, blS h fun _ hv h => ⟨_, cycle_Add_sound _ _ _ hv rfl, blS h fun _ hv h => cycle_Close_sound _ _ _ hv (adS h fun h => adS h fun h => adS h fun h => adS h fun h => ifS h (fun h => have t := lfS h hK; t) fun h => ifS h (fun h => have t := lfS h hK; t) fun h => ifS h (fun h => have t := lfS h hK; t) fun h => blS h fun _ hv h => ⟨_, law23_write_sound _ _ _ hv rfl, blS h fun _ hv h => ⟨_, ref22_Same_sound _ _ hv rfl, ifS h (fun h => have t := lfS h hK; t) fun h => blS h fun _ hv h => ⟨_, law23_write_sound _ _ _ hv rfl, blS h fun _ hv h => ⟨_, law23_write_sound _ _ _ hv rfl, blS h fun _ hv h => ⟨_, ref22_Same_sound _ _ hv rfl, ifS h (fun h => have t := lfS h hK; t) fun h => law23_awake_J1_sound _ _ h hK⟩⟩⟩⟩⟩)⟩⟩⟩⟩⟩⟩)
theorem law23_awake_ok {Φ : Bool → Prop} (h : Φ true) : law23_awake_W Φ := law23_awake_sound (o := true) (by kernel_rfl) h
def mostL : List Int := List.replicate 8 4096
def cyc0 : api_Cycle := ⟨0, 0, 0, [], []⟩
def backE (a b : api_Cycle) : Int := firstN (fun k => if ix b.Positions (k : Int) < ix a.Positions (k : Int) then 2 else 0) a.Positions.length
def comE (a b : api_Cycle) : Int :=
  if cycE a mostL ≠ 0 then cycE a mostL else if cycE b mostL ≠ 0 then cycE b mostL else if b.Base ≠ a.Number then 15 else if a.Positions.length ≠ b.Positions.length then 6 else if b.Time < a.Time then 24 else if backE a b ≠ 0 then backE a b else (mergeR a.Writes b.Writes).2
def comR (a b : api_Cycle) : api_Cycle × Int := if comE a b ≠ 0 then (cyc0, comE a b) else (⟨a.Base, b.Number, b.Time, b.Positions, (mergeR a.Writes b.Writes).1⟩, 0)
theorem cycle_largest_ok {Φ : List Int → Prop} (hΦ : Φ mostL) : Z51 Φ := cycle_largest_sound (o := mostL) (by kernel_rfl) hΦ
theorem comE_a {a b : api_Cycle} (h : comE a b = 0) : cycE a mostL = 0 := Classical.byContradiction fun t => by unfold comE at h; rw [if_pos t] at h; exact t h
theorem comE_b {a b : api_Cycle} (h : comE a b = 0) : cycE b mostL = 0 := Classical.byContradiction fun t => by unfold comE at h; rw [if_neg (fun q => q (comE_a h)), if_pos t] at h; exact t h
theorem FewC.small {c : api_Cycle} (h : FewC c) : ∀ w ∈ c.Writes, w.Data.length ≤ 1000000 := fun w hw => by have := h.data w hw; omega
theorem cycle_Compose_ok {a b : api_Cycle} {Φ : api_Cycle × Int → Prop} (ha : FewC a) (hb : FewC b) (hΦ : Φ (comR a b)) : Z70 a b Φ := by
  have a1 := ha.pos
  have a2 := ha.len
  have b1 := hb.pos
  have b2 := hb.len
  have er : ∀ e, comE a b = e → e ≠ 0 → Φ (cyc0, e) := fun e h1 h2 => by unfold comR at hΦ; rw [h1, if_pos h2] at hΦ; exact hΦ
  refine LoopW.upI 2 (fun k => (k : Int)) (fun k => (0 < k → cycE a mostL = 0) ∧ (1 < k → cycE b mostL = 0)) rfl ⟨fun h => absurd h (Nat.lt_irrefl 0), fun h => absurd h (by omega)⟩ (fun k rec hk hI hr => ⟨fun _ => ⟨iX (by omega) (by show (k : Int) < ((2 : Nat) : Int); omega), (mostL, ()), cycle_largest_ok rfl, ?_⟩, fun q => absurd (show (k : Int) < ((2 : Nat) : Int) by omega) q⟩) fun rec hI => ⟨fun q => absurd q (by show ¬ (((2 : Nat) : Int) < ((2 : Nat) : Int)); omega), fun _ => ?_⟩
  · rcases Nat.lt_or_ge k 1 with q | q
    · obtain rfl : k = 0 := by omega
      exact ⟨(cycE a mostL, ()), cycle_Check_ok (c := a) (by omega) (by omega) ha.small rfl, fun t => er _ (by unfold comE; rw [if_pos t]) t, fun t => ⟨iI (by omega) (by omega), hr ⟨fun _ => Classical.not_not.1 t, fun h => absurd h (by omega)⟩ _ rfl⟩⟩
    · obtain rfl : k = 1 := by omega
      have h0 := hI.1 (by omega)
      exact ⟨(cycE b mostL, ()), cycle_Check_ok (c := b) (by omega) (by omega) hb.small rfl, fun t => er _ (by unfold comE; rw [if_neg (fun q => q h0), if_pos t]) t, fun t => ⟨iI (by omega) (by omega), hr ⟨fun _ => h0, fun _ => Classical.not_not.1 t⟩ _ rfl⟩⟩
  · have e1 := hI.1 (by omega)
    have e2 := hI.2 (by omega)
    have ce : comE a b = if b.Base ≠ a.Number then 15 else if a.Positions.length ≠ b.Positions.length then 6 else if b.Time < a.Time then 24 else if backE a b ≠ 0 then backE a b else (mergeR a.Writes b.Writes).2 := by unfold comE; rw [if_neg (fun q => q e1), if_neg (fun q => q e2)]
    refine ⟨fun q => er 15 (by rw [ce, if_pos q]) (by omega), fun q => ⟨fun r => er 6 (by rw [ce, if_neg q, if_pos (by omega)]) (by omega), fun r => ⟨fun s => er 24 (by rw [ce, if_neg q, if_neg (by omega), if_pos s]) (by omega), fun s => ?_⟩⟩⟩
    rw [if_neg q, if_neg (by omega), if_neg s] at ce
    refine LoopW.errI a.Positions.length (fun k => (k : Int)) (fun k => if ix b.Positions (k : Int) < ix a.Positions (k : Int) then 2 else 0) (Ψ := fun o => o = backE a b) rfl rfl (fun k rec hk hj g1 g2 => ⟨fun _ => ⟨iX (by omega) (by omega), iX (by omega) (by omega), fun t => ?_, fun t => ⟨iI (by omega) (by omega), g2 (if_neg t) _ rfl⟩⟩, fun _ => by omega⟩) fun rec _ c0 => ⟨fun _ => by omega, fun _ => ?_⟩
    · rw [if_pos t] at g1
      have := g1 (by omega)
      exact er 2 (by rw [ce, ← this, if_pos (by omega)]) (by omega)
    · rw [← c0, if_neg (fun t => t rfl)] at ce
      refine coalesce_Merge_ok (by omega) (by omega) ha.small hb.small ⟨fun t => er _ ce t, fun t => ⟨(b.Positions, ()), slices_Clone_int_ok (by omega) rfl, ?_⟩⟩
      unfold comR at hΦ
      rw [if_neg (by rw [ce]; exact t)] at hΦ
      exact hΦ
def appR (im : List (List Sec)) (c : api_Cycle) : List (List Sec) × Int := if imgE im ≠ 0 then ([], imgE im) else if cycE c (szs im) ≠ 0 then ([], cycE c (szs im)) else (appL im c.Writes, 0)
theorem cycE_wrs {c : api_Cycle} {sizes : List Int} (h : cycE c sizes = 0) : wrsE sizes c.Writes = 0 := by
  unfold cycE at h
  split at h
  · next q => exact absurd h q
  split at h
  · omega
  split at h
  · omega
  split at h
  · next q => exact absurd h q
  exact h
theorem wrs_fit {sizes : List Int} {l : List api_Write} (h : wrsE sizes l = 0) : ∀ w ∈ l, fitW sizes w = 0 := fun w hw => by
  obtain ⟨k, hk, rfl⟩ := List.getElem_of_mem hw
  have := ordW_fit (firstN_zero.1 h k hk)
  rwa [ix_get hk] at this
theorem cycle_Apply_ok {im : List (List Sec)} {c : api_Cycle} {Φ : List (List Sec) × Int → Prop} (hi : im.length ≤ 100000) (hp : c.Positions.length ≤ 100000) (hl : c.Writes.length ≤ 100000) (hd : ∀ w ∈ c.Writes, w.Data.length ≤ 1000000) (hΦ : Φ (appR im c)) : cycle_Apply_W im c Φ := by
  unfold appR at hΦ
  refine image_Check_ok hi ⟨fun q => by rw [if_pos q] at hΦ; exact hΦ, fun q => ?_⟩
  rw [if_neg q] at hΦ
  refine LoopW.upT im.length (fun k => ((k : Int), (im.take k).map fun v => (v.length : Int))) rfl (fun k rec hk hr => ⟨fun _ => ⟨iX (by omega) (by omega), iL (by rw [len_snoc, List.length_map, lenT (by omega)]; omega) (by omega), iI (by omega) (by omega), hr _ (by rw [map_take_snoc _ hk]; rfl)⟩, fun _ => by omega⟩) fun rec => ⟨fun _ => by omega, fun _ => ?_⟩
  rw [take_all]
  show cycle_Check_W c (szs im) _
  refine cycle_Check_ok hp hl hd ⟨fun t => by rw [if_pos t] at hΦ; exact hΦ, fun t => ?_⟩
  rw [if_neg t] at hΦ
  exact image_Apply_ok (by omega) (Classical.not_not.1 q) (wrs_fit (cycE_wrs (Classical.not_not.1 t))) hΦ
theorem ref07_Few_by {im : List (List Sec)} {Φ : Bool → Prop} (h0 : Φ false) (h1 : im.length ≤ 9 → Φ true) : ref07_Few_W im Φ := by
  refine ⟨fun _ => h0, fun q => LoopW.upT im.length (fun k => (k : Int)) rfl (fun k rec hk hr => ⟨fun _ => ⟨iX (by omega) (by omega), fun _ => h0, fun _ => ⟨iI (by omega) (by omega), hr _ rfl⟩⟩, fun _ => by omega⟩) fun rec => ⟨fun _ => by omega, fun _ => h1 (by omega)⟩⟩
theorem ref07_SameVolume_refl {l : List Sec} {Φ : Bool → Prop} (hl : l.length ≤ 1000000) (hΦ : Φ true) : Z78 l l Φ :=
  ⟨fun h => absurd rfl h, fun _ => LoopW.upT l.length (fun k => (k : Int)) rfl (fun k rec hk hr => ⟨fun hlt => ⟨iX (by omega) hlt, iX (by omega) hlt, fun q => absurd rfl q, fun _ => ⟨iI (by omega) (by omega), hr _ rfl⟩⟩, fun q => absurd (show (k : Int) < (l.length : Int) by omega) q⟩) fun rec => ⟨fun q => absurd q (by omega), fun _ => hΦ⟩⟩
theorem ref07_Same_refl {im : List (List Sec)} {Φ : Bool → Prop} (hi : im = [] ∨ imgE im = 0) (hΦ : Φ true) : ref07_Same_W im im Φ := by
  have hs : im.length ≤ 1000000 ∧ ∀ k : Nat, k < im.length → (ix im (k : Int)).length ≤ 1000000 := by
    rcases hi with rfl | hi
    · exact ⟨Nat.zero_le _, fun k hk => absurd hk (Nat.not_lt_zero k)⟩
    · have := sizesE_len hi
      rw [szs_len] at this
      exact ⟨by omega, fun k hk => by have := szs_small hi k hk; omega⟩
  have h1 := hs.1
  exact ⟨fun h => absurd rfl h, fun _ => LoopW.upT im.length (fun k => (k : Int)) rfl (fun k rec hk hr => ⟨fun hlt => ⟨iX (by omega) hlt, iX (by omega) hlt, (true, ()), ref07_SameVolume_refl (hs.2 k hk) rfl, fun q => absurd rfl q, fun _ => ⟨iI (by omega) (by omega), hr _ rfl⟩⟩, fun q => absurd (show (k : Int) < (im.length : Int) by omega) q⟩) fun rec => ⟨fun q => absurd q (by omega), fun _ => hΦ⟩⟩
theorem secN_take {l : List api_Write} {k : Nat} (h : k < l.length) : secN (l.take (k + 1)) = secN (l.take k) + (ix l (k : Int)).Data.length := by rw [take_ix h, secN_append, secN_one]
theorem secN_take_le (l : List api_Write) (k : Nat) : secN (l.take k) ≤ secN l := by
  have := secN_append (l.take k) (l.drop k)
  rw [List.take_append_drop] at this
  omega
theorem ref22_Sectors_ok {l : List api_Write} {Φ : Int → Prop} (hl : l.length ≤ 1000000) (hn : secN l ≤ 1000000000) (hΦ : Φ (secN l : Int)) : Z80 l Φ := by
  refine LoopW.upT l.length (fun k => ((secN (l.take k) : Int), (k : Int))) rfl (fun k rec hk hr => ⟨fun _ => ⟨iX (by omega) (by omega), ?_⟩, fun _ => by omega⟩) fun rec => ⟨fun _ => by omega, fun _ => by rw [take_all]; exact hΦ⟩
  have h1 := secN_take hk
  have h2 := secN_take_le l (k + 1)
  exact ⟨iI (by omega) (by omega), iI (by omega) (by omega), hr _ (by rw [h1]; rfl)⟩
theorem secN_bound {c : Nat} : ∀ l : List api_Write, (∀ w ∈ l, w.Data.length ≤ c) → secN l ≤ l.length * c
  | [], _ => Nat.zero_le _
  | w :: l, h => by
    have h1 := secN_bound l fun x hx => h x (List.mem_cons_of_mem _ hx)
    have h2 := h w (List.mem_cons_self ..)
    have : secN (w :: l) = w.Data.length + secN l := by simp [secN]
    rw [this, List.length_cons, Nat.succ_mul]; omega
theorem secN_each {l : List api_Write} : ∀ w ∈ l, w.Data.length ≤ secN l := fun w hw => by
  obtain ⟨a, b, rfl⟩ := List.append_of_mem hw
  rw [secN_append, show w :: b = [w] ++ b from rfl, secN_append, secN_one]; omega
theorem FewC.secs {c : api_Cycle} (h : FewC c) : secN c.Writes ≤ 1000 := by
  have h1 := secN_bound c.Writes h.data
  have h2 := Nat.mul_le_mul_right 24 h.len
  omega
theorem can_len {m : List (coalesce_place × Sec)} {ws : List api_Write} (c : Can m ws) : ws.length ≤ m.length := by
  rw [← c.sum]
  have : ∀ l : List api_Write, (∀ w ∈ l, 0 < w.Data.length) → l.length ≤ secN l := by
    intro l
    induction l with
    | nil => intro _; exact Nat.zero_le _
    | cons w l ih =>
      intro h
      have h1 := ih fun x hx => h x (List.mem_cons_of_mem _ hx)
      have h2 := h w (List.mem_cons_self ..)
      have : secN (w :: l) = w.Data.length + secN l := by simp [secN]
      rw [this, List.length_cons]; omega
  exact this ws c.ne
theorem cyc_parts {c : api_Cycle} {sizes : List Int} (h : cycE c sizes = 0) : 0 ≤ c.Base ∧ c.Base < c.Number ∧ c.Number ≤ 1073741824 ∧ 0 ≤ c.Time ∧ c.Time ≤ 1073741824 ∧ posR 0 c.Positions = 0 := by
  unfold cycE at h
  split at h
  · next q => exact absurd h q
  split at h
  · omega
  split at h
  · omega
  split at h
  · next q => exact absurd h q
  next q3 q4 q5 => exact ⟨by omega, by omega, by omega, by omega, by omega, Classical.not_not.1 q5⟩
theorem com_parts {a b : api_Cycle} (h : comE a b = 0) : comR a b = (⟨a.Base, b.Number, b.Time, b.Positions, canL (effM (a.Writes ++ b.Writes))⟩, 0) ∧ b.Base = a.Number := by
  have h1 := comE_a h
  have h2 := comE_b h
  refine ⟨?_, ?_⟩
  · unfold comR
    rw [if_neg (fun t => t h)]
    unfold comE at h
    rw [if_neg (fun q => q h1), if_neg (fun q => q h2)] at h
    split at h
    · omega
    split at h
    · omega
    split at h
    · omega
    split at h
    · next q => exact absurd h q
    unfold mergeR at h ⊢
    split at h
    · next q => exact absurd h q
    split at h
    · next q => exact absurd h q
    next q1 q2 => rw [if_neg q1, if_neg q2]
  · unfold comE at h
    rw [if_neg (fun q => q h1), if_neg (fun q => q h2)] at h
    split at h
    · omega
    · next q => exact Classical.not_not.1 q
theorem cycleJoins_law (a b : api_Cycle) (im : List (List Sec)) (_ : Rg.rg a) (_ : Rg.rg b) (_ : Rg.rg im) : Z83 a b im fun y => y = true := by
  have j1 : Z82 a b im (fun y => y = true) true := ⟨fun _ => law23_awake_ok rfl, fun q => absurd rfl q⟩
  refine ref23_Few_ok ⟨fun _ => j1, fun fa => ref23_Few_ok ⟨fun _ => j1, fun fb => ref07_Few_by j1 fun hi => ?_⟩⟩
  have fa := fewC_of (Classical.not_not.1 fa)
  have fb := fewC_of (Classical.not_not.1 fb)
  have a1 := fa.pos
  have a2 := fa.len
  have b1 := fb.pos
  have b2 := fb.len
  refine ⟨fun q => absurd rfl (of_decide_eq_true q), fun _ => cycle_Compose_ok fa fb (cycle_Apply_ok (by omega) (by omega) (by omega) fa.small ?_)⟩
  have j2 : Z81 a b im (comR a b) (appR im a) (fun y => y = true) true := ⟨fun _ => law23_awake_ok rfl, fun q => absurd rfl q⟩
  refine ⟨fun _ => j2, fun q => ?_⟩
  by_cases r : (appR im a).2 ≠ 0
  · rw [decide_eq_true r]; exact j2
  rw [decide_eq_false r]
  have ce : comE a b = 0 := Classical.byContradiction fun t => q (by unfold comR; rw [if_pos t]; exact t)
  have hi0 : imgE im = 0 := Classical.byContradiction fun t => r (by unfold appR; rw [if_pos t]; exact t)
  have ca : cycE a (szs im) = 0 := Classical.byContradiction fun t => r (by unfold appR; rw [if_neg (fun u => u hi0), if_pos t]; exact t)
  obtain ⟨cp, hbn⟩ := com_parts ce
  have ea : appR im a = (appL im a.Writes, 0) := by unfold appR; rw [if_neg (fun u => u hi0), if_neg (fun u => u ca)]
  rw [cp, ea]
  have hs : ¬ sizesE (szs im) ≠ 0 := fun t => t hi0
  have hfa := wrs_fit (cycE_wrs ca)
  have e1 := szs_appL hs hfa
  have hl1 : (appL im a.Writes).length = im.length := by rw [← szs_len, e1, szs_len]
  refine ⟨fun t => Bool.noConfusion t, fun _ => cycle_Apply_ok (by show (appL im a.Writes).length ≤ _; omega) (by omega) (by omega) fb.small ⟨fun _ => law23_awake_ok rfl, fun s => ?_⟩⟩
  have hi1 : imgE (appL im a.Writes) = 0 := by unfold imgE; rw [e1]; exact hi0
  have cb : cycE b (szs (appL im a.Writes)) = 0 := Classical.byContradiction fun t => s (by unfold appR; rw [if_neg (fun u => u hi1), if_pos t]; exact t)
  have eb : appR (appL im a.Writes) b = (appL im (a.Writes ++ b.Writes), 0) := by
    unfold appR; rw [if_neg (fun u => u hi1), if_neg (fun u => u cb)]; unfold appL; rw [List.foldl_append]
  rw [eb]
  rw [e1] at cb
  have hfb := wrs_fit (cycE_wrs cb)
  have hf : ∀ w ∈ a.Writes ++ b.Writes, fitW (szs im) w = 0 := fun w hw => (List.mem_append.1 hw).elim (hfa w) (hfb w)
  have c := can_eff hs hf
  have cf := can_fit c (eff_in hs hf)
  have co := can_ord c cf
  have sa := fa.secs
  have sb := fb.secs
  have se := effM_sum (a.Writes ++ b.Writes)
  rw [secN_append] at se
  have cl := can_len c
  have cs := c.sum
  obtain ⟨p1, p2, p3, p4, p5, p6⟩ := cyc_parts ca
  obtain ⟨q1, q2, q3, q4, q5, q6⟩ := cyc_parts cb
  have hx : cycE ⟨a.Base, b.Number, b.Time, b.Positions, canL (effM (a.Writes ++ b.Writes))⟩ (szs im) = 0 := by
    unfold cycE
    rw [if_neg hs, if_neg (by show ¬ (a.Base < 0 ∨ b.Number ≤ a.Base ∨ 1073741824 < b.Number); omega), if_neg (by show ¬ (b.Time < 0 ∨ 1073741824 < b.Time); omega), if_neg (fun t => t q6)]
    exact co
  have hd : ∀ w ∈ canL (effM (a.Writes ++ b.Writes)), w.Data.length ≤ 1000000 := fun w hw => by
    have := secN_each w hw; omega
  generalize hxx : (⟨a.Base, b.Number, b.Time, b.Positions, canL (effM (a.Writes ++ b.Writes))⟩ : api_Cycle) = x at hx
  have x1 : x.Writes = canL (effM (a.Writes ++ b.Writes)) := by rw [← hxx]
  have x2 : x.Positions = b.Positions := by rw [← hxx]
  have x3 : x.Base = a.Base := by rw [← hxx]
  have x4 : x.Number = b.Number := by rw [← hxx]
  have r1 : appR im x = (appL im (a.Writes ++ b.Writes), 0) := by
    unfold appR; rw [if_neg (fun u => u hi0), if_neg (fun u => u hx), x1, appL_can hs hf]
  have r2 : appR (appL im a.Writes) x = (appL im (a.Writes ++ b.Writes), 0) := by
    unfold appR; rw [if_neg (fun u => u hi1), e1, if_neg (fun u => u hx), x1, appL_again hs hf]
  have hr : imgE (appL im (a.Writes ++ b.Writes)) = 0 := by unfold imgE; rw [szs_appL hs hf]; exact hi0
  refine cycle_Apply_ok (by omega) (by rw [x2]; omega) (by rw [x1]; omega) (by rw [x1]; exact hd) (cycle_Apply_ok (by show (appL im a.Writes).length ≤ _; omega) (by rw [x2]; omega) (by rw [x1]; omega) (by rw [x1]; exact hd) ?_)
  rw [r1, r2]
  refine ⟨(true, ()), law23_awake_ok rfl, fun _ => ⟨fun _ => ⟨fun _ => ⟨(true, ()), ref07_Same_refl (.inr hr) rfl, fun _ => ⟨(true, ()), ref07_Same_refl (.inr hr) rfl, fun _ => ⟨fun _ => ⟨fun _ => ?_, fun t => absurd x4 t⟩, fun t => absurd x3 t⟩, fun t => absurd rfl t⟩, fun t => absurd rfl t⟩, fun t => absurd rfl t⟩, fun t => absurd rfl t⟩, fun t => absurd rfl t⟩
  refine ⟨((secN x.Writes : Int), ()), ref22_Sectors_ok (by rw [x1]; omega) (by rw [x1]; omega) rfl, ((secN a.Writes : Int), ()), ref22_Sectors_ok (by omega) (by omega) rfl, ((secN b.Writes : Int), ()), ref22_Sectors_ok (by omega) (by omega) rfl, iI (by show _ ≤ (secN a.Writes : Int) + (secN b.Writes : Int); omega) (by show (secN a.Writes : Int) + (secN b.Writes : Int) ≤ _; omega), decide_eq_true ?_⟩
  show (secN x.Writes : Int) ≤ (secN a.Writes : Int) + (secN b.Writes : Int)
  rw [x1, cs]; omega
end Go.Proofs.Ytbnfefbhalpceaa
namespace Go.Proofs.Ytbnfefbhalpceaa
open Go.RowKit Go.ChangeShapes Go.WideShapes Go.ChangeAt
set_option maxRecDepth 100000 in
theorem cycleJoins_lifted (os : Os) (started : os.Started) (H : Type) (enc : TypeId × Value → H) :
    ReturnsInHanded {} Try.checked os 6 .any (Rows.cycleJoinsSpec.pre6 enc Try.prog Try.f6 Rows.cycleJoinsRow.domain false) (Rows.cycleJoinsSpec.post enc Try.prog Try.f6 false true false false) := by
  refine returnsInHanded_of_change (C := Try.checked) Try.own started (by kernel_rfl) Try.func6
    (ChangeSpec.witness6 (enc := enc) (C := Try.checked) false ⟨#[], #[.agg #[.int .i64 (0), .int .i64 (0), .int .i64 (0), .slice none 0 0, .slice none 0 0], .agg #[.int .i64 (0), .int .i64 (0), .int .i64 (0), .slice none 0 0, .slice none 0 0], .slice none 0 0], []⟩ 8 (by kernel_rfl) (by kernel_rfl) (by kernel_rfl) (by kernel_rfl)) ?_
  intro W base args ds gs before hval0 hW _ _
  have hval : ∀ (j : Nat) t v, Try.f6.params[j]? = some t → args[j]? = some v → Value.okWide Try.prog W .any base t v := hval0
  have hW' := hW
  obtain ⟨p, q, hA0, hV, hpq, _, _⟩ := hW
  have hA : DataW.TrodAll enc Try.prog W 0 (fun _ => true) true Try.f6.params.toList args.toList ds p := hA0
  rw [Try.params6] at hA hval
  obtain ⟨v0, v1, v2, d0, d1, d2, p0, p1, p2, rfl, rfl, rfl, h0, h1, h2⟩ := trodAll_three hA
  obtain ⟨rfl, rfl⟩ := trodVars_none hV
  obtain ⟨ks0, x0, rfl, hr0, hg0⟩ := open_strD Try.underlying25 rd25 (hval 0 25 v0 rfl rfl) h0
  obtain ⟨ks1, x1, rfl, hr1, hg1⟩ := open_strD Try.underlying25 rd25 (hval 1 25 v1 rfl rfl) h1
  obtain ⟨Az2, nz2, cz2, sz2, x2, rfl, hz2, hg2⟩ := open_slD Try.underlying49 rd49 (hval 2 49 v2 rfl rfl) h2
  refine Calls.mono ((RetP.toV (y := true) (F := fun z => .bool z) (RetP.mono (ok6 (x0, x1, x2, ()) (fun y => y.1 = true) (cycleJoins_law x0 x1 x2 hg0 hg1 hg2) (HW W) [.agg ks0.toArray, .agg ks1.toArray, .slice Az2 nz2 cz2] trivial ⟨_, ks0, _, rfl, by rw [pkw25], (show Dt.rd (α := api_Cycle) (HW W) _ _ from hr0), ⟨_, ks1, _, rfl, by rw [pkw25], (show Dt.rd (α := api_Cycle) (HW W) _ _ from hr1), ⟨_, [.slice Az2 nz2 cz2], _, rfl, by rw [pkw49], (show Dt.rd (α := List (List Sec)) (HW W) _ _ from ⟨Az2, nz2, cz2, sz2, rfl, hz2⟩), rfl⟩⟩⟩) fun _ _ _ _ ⟨y, hy, hr⟩ => lawRes y hy hr)) W fun b o e => e) ?_
  rintro e W' ⟨v, _, rfl, _, _, _, hb, rfl⟩
  exact ⟨_, rfl, post_law Try.laidOut Try.underlying4 rfl (by kernel_rfl) hW' rfl rfl hb⟩
theorem cycleJoins_holds : Rows.CycleJoinsSaid :=
  OpenClaim.holds_of_wide 6 Try.f6 rfl rfl rfl rfl rfl rfl rfl ⟨rfl, rfl, rfl, rfl, rfl⟩ rfl rfl rfl rfl rfl (by kernel_rfl) Try.func6 (by kernel_rfl)
    (of_decide_eq_true (by kernel_rfl)) (by unfold Func.isWrapper; first | (rw [if_pos (by decide +kernel)]; kernel_rfl) | (rw [if_neg (by decide +kernel)]; exact ⟨rfl, rfl⟩))
    (fun os started H enc _ => cycleJoins_lifted os started H enc)
end Go.Proofs.Ytbnfefbhalpceaa
