/- Proved: the tied card of the statement CycleCloses: for every argument that can be read the law returns true and leaves its arguments as they were. Conditions: the row's own alone. -/
import Derived.Lib.TrailingZeros
import Derived.Test.YtbnfefbhalpceaaGreatM5
namespace Go.Proofs.YtbnfefbhalpceaaGreat
open Go.RowKit
def orK {S R : Type} (a : S → Prop) (b : R → Prop) : S ⊕ R → Prop
 | .inl s => a s
 | .inr r => b r
def loopS {S R : Type} (step : S → Option (S ⊕ R)) : Nat → S → Option R
 | 0, _ => none
 | n + 1, s => match step s with
  | none => none
  | some (.inl s') => loopS step n s'
  | some (.inr r) => some r
theorem LoopW.of_S {S R : Type} {step : S → (S → Prop) → Prop} {stepS : S → Option (S ⊕ R)} {K : R → Prop} (hs : ∀ s q rec, stepS s = some q → orK rec K q → step s rec) : ∀ (n : Nat) (s : S) {o : R}, loopS stepS n s = some o → K o → LoopW step s := by
  intro n s o h hK
  refine ⟨n, ?_⟩
  induction n generalizing s with
  | zero => cases h
  | succ n ih =>
    unfold loopS at h
    split at h
    · cases h
    · rename_i s' e
      exact hs s _ _ e (ih s' h)
    · rename_i r e
      cases h
      exact hs s _ _ e hK
theorem ofBind {α β : Type} {x : Option α} {f : α → Option β} {o : β} (h : Option.bind x f = some o) : ∃ v, x = some v ∧ f v = some o := Option.bind_eq_some_iff.1 h
theorem ofIf {α : Type} {p : Prop} [Decidable p] {x : Option α} {o : α} (h : (if p then x else none) = some o) : p ∧ x = some o := by
  by_cases hp : p
  · rw [if_pos hp] at h; exact ⟨hp, h⟩
  · rw [if_neg hp] at h; cases h
theorem ofT {α : Type} {p : Prop} [Decidable p] {x y : Option α} {o : α} (hp : p) (h : (if p then x else y) = some o) : x = some o := by rw [if_pos hp] at h; exact h
theorem ofF {α : Type} {p : Prop} [Decidable p] {x y : Option α} {o : α} (hp : ¬ p) (h : (if p then x else y) = some o) : y = some o := by rw [if_neg hp] at h; exact h
def bothS {α : Type} [DecidableEq α] (b : Bool) (x y : Option α) : Option α := if b = true then (if x = y then x else none) else y
theorem ofBoth {α : Type} [DecidableEq α] {b : Bool} {x y : Option α} {o : α} (h : bothS b x y = some o) : (b = true → x = some o) ∧ y = some o := by
  unfold bothS at h
  by_cases hb : b = true
  · rw [if_pos hb] at h
    by_cases he : x = y
    · rw [if_pos he] at h; exact ⟨fun _ => h, he ▸ h⟩
    · rw [if_neg he] at h; cases h
  · rw [if_neg hb] at h; exact ⟨fun q => absurd q hb, h⟩
theorem lfS {α : Type} {K : α → Prop} {a o : α} (h : some a = some o) (hK : K o) : K a := by
  cases h; exact hK
theorem adS {α : Type} {p : Prop} [Decidable p] {x : Option α} {o : α} {B : Prop} (h : (if p then x else none) = some o) (b : x = some o → B) : p ∧ B := ⟨(ofIf h).1, b (ofIf h).2⟩
theorem ifS {α : Type} {p : Prop} [Decidable p] {x y : Option α} {o : α} {A B : Prop} (h : (if p then x else y) = some o) (a : x = some o → A) (b : y = some o → B) : (p → A) ∧ (¬ p → B) := ⟨fun c => a (ofT c h), fun c => b (ofF c h)⟩
theorem mpS {α β : Type} {g : α → β} {x : Option α} {o : β} {G : Prop} (h : Option.map g x = some o) (k : ∀ v, x = some v → g v = o → G) : G := by
  obtain ⟨v, h1, h2⟩ := Option.map_eq_some_iff.1 h
  exact k v h1 h2
theorem blS {α β : Type} {x : Option α} {f : α → Option β} {o : β} {G : Prop} (h : Option.bind x f = some o) (k : ∀ v, x = some v → f v = some o → G) : G := by
  obtain ⟨v, h1, h2⟩ := ofBind h
  exact k v h1 h2
instance decI (x : Int) : Decidable (inI x) := inferInstanceAs (Decidable (_ ∧ _))
instance decX (i : Int) (n : Nat) : Decidable (inX i n) := inferInstanceAs (Decidable (_ ∧ _))
instance decS (a b : Int) (n : Nat) : Decidable (inS a b n) := inferInstanceAs (Decidable (_ ∧ _))
instance decL (n b : Nat) : Decidable (lenOk n b) := inferInstanceAs (Decidable (_ ∧ _))
theorem nl2S {α : Type} [DecidableEq α] {p : Prop} [Decidable p] {x y : Option α} {o : α} {A B : Prop} (h : bothS (decide p) x y = some o) (a : x = some o → A) (b : y = some o → B) : (p → A) ∧ B := ⟨fun c => a ((ofBoth h).1 (decide_eq_true c)), b (ofBoth h).2⟩
def genS {S Y R : Type} (step : S → Option (List Y × (S ⊕ R))) : Nat → S → Option (List Y × R)
 | 0, _ => none
 | n + 1, s => match step s with
  | none => none
  | some (ys, .inr o) => some (ys, o)
  | some (ys, .inl s') => (genS step n s').map fun q => (ys ++ q.1, q.2)
theorem LoopW.of_G {S Y R : Type} {step : (List Y × S) → ((List Y × S) → Prop) → Prop} {stepS : S → Option (List Y × (S ⊕ R))} {K : List Y → R → Prop} (hs : ∀ s ys q r rec, stepS s = some (ys, q) → orK (fun s => rec (r, s)) (K r) q → step (ys ++ r, s) rec) : ∀ (n : Nat) (s : S) {ys : List Y} {o : R} (r : List Y), genS stepS n s = some (ys, o) → K r o → LoopW step (ys ++ r, s) := by
  intro n s ys o r h hK
  refine ⟨n, ?_⟩
  induction n generalizing s ys with
  | zero => cases h
  | succ n ih =>
    unfold genS at h
    split at h
    · cases h
    · rename_i ys o e
      cases h
      exact hs s _ _ _ (LoopN step n) e hK
    · rename_i ys s' e
      obtain ⟨v, h1, h2⟩ := Option.map_eq_some_iff.1 h
      cases h2
      rw [List.append_assoc]
      exact hs s _ _ _ (LoopN step n) e (show LoopN step n (v.1 ++ r, s') from ih s' h1)
def Z103 (x0 : Int) : Option (Bool) :=
 if x0 < 1 then
  some (true)
 else
  some (decide (4096 < x0))
theorem image_checkSizes_1_sound (x0 : Int) {Φ : Bool → Prop} {o} (h : Z103 x0 = some o) (hK : Φ o) : Z1 x0 Φ := by
  unfold Z103 at h
  unfold Z1
  exact ifS h (fun h => have t := lfS h hK; t) fun h => have t := lfS h hK; t
def Z104 (x0 : List Int) : (Int) → Option ((Int) ⊕ (Int))
 | v1 =>
  if v1 < (x0.length : Int) then
   if inX v1 x0.length then
   Option.bind (Z103 (ix x0 v1)) fun v2 =>
   if v2 = true then
    if 0 ≤ v1 then
     some (.inr 2)
    else
     some (.inr 0)
   else
    if inI (v1 + 1) then
    some (.inl (v1 + 1))
    else none
   else none
  else
   if 0 ≤ ((-1) : Int) then
    some (.inr 2)
   else
    some (.inr 0)
theorem image_checkSizes_L1_sound (x0 : List Int) (s : Int) {Φ : Int → Prop} {rec1 : (Int) → Prop} {o} (h : Z104 x0 s = some o) (hK : (orK rec1 Φ) o) : Z2 x0 Φ s rec1 := by
  unfold Z104 at h
  unfold Z2
  exact ifS h (fun h => adS h fun h => blS h fun _ hv h => image_checkSizes_1_sound _ hv (ifS h (fun h => ifS h (fun h => have t := lfS h hK; t) fun h => have t := lfS h hK; t) fun h => adS h fun h => have t := lfS h hK; t)) fun h => ifS h (fun h => have t := lfS h hK; t) fun h => have t := lfS h hK; t
def Z105 (x0 : List Int) : Option (Int) :=
 if (x0.length : Int) < 1 then
  some (6)
 else
  if 8 < (x0.length : Int) then
   some (6)
  else
   loopS (Z104 x0) 100000 0
theorem image_checkSizes_sound (x0 : List Int) {Φ : Int → Prop} {o} (h : Z105 x0 = some o) (hK : Φ o) : Z3 x0 Φ := by
  unfold Z105 at h
  unfold Z3
  exact ifS h (fun h => have t := lfS h hK; t) fun h => ifS h (fun h => have t := lfS h hK; t) fun h => LoopW.of_S (fun s q rec hs hq => image_checkSizes_L1_sound _ s hs hq) _ _ h hK
def image_New_1_S (x0 : Int) : Option (List Sec) :=
 if 0 ≤ x0 then
 if lenOk x0.toNat 8 then
 some ((List.replicate x0.toNat (sec0 : Sec)))
 else none
 else none
theorem image_New_1_sound (x0 : Int) {Φ : List Sec → Prop} {o} (h : image_New_1_S x0 = some o) (hK : Φ o) : image_New_1_W x0 Φ := by
  unfold image_New_1_S at h
  unfold image_New_1_W
  exact adS h fun h => adS h fun h => have t := lfS h hK; t
def Z106 (x0 : List Int) : (Int × List (List Sec)) → Option ((Int × List (List Sec)) ⊕ (List (List Sec) × Int))
 | (v2, v3) =>
  if v2 < (x0.length : Int) then
   if inX v2 x0.length then
   Option.bind (image_New_1_S (ix x0 v2)) fun v4 =>
   if lenOk (v3 ++ ([v4] : List (List Sec))).length 24 then
   if inI (v2 + 1) then
   some (.inl ((v2 + 1), (v3 ++ ([v4] : List (List Sec)))))
   else none
   else none
   else none
  else
   some (.inr (v3, 0))
theorem image_New_L1_sound (x0 : List Int) (s : Int × List (List Sec)) {Φ : List (List Sec) × Int → Prop} {rec1 : (Int × List (List Sec)) → Prop} {o} (h : Z106 x0 s = some o) (hK : (orK rec1 Φ) o) : image_New_L1 x0 Φ s rec1 := by
  obtain ⟨v2, v3⟩ := s
  unfold Z106 at h
  unfold image_New_L1
  exact ifS h (fun h => adS h fun h => blS h fun _ hv h => image_New_1_sound _ hv (adS h fun h => adS h fun h => have t := lfS h hK; t)) fun h => have t := lfS h hK; t
def image_New_S (x0 : List Int) : Option (List (List Sec) × Int) :=
 Option.bind (Z105 x0) fun v1 =>
 if v1 ≠ 0 then
  some ((([] : List (List Sec)), v1))
 else
  if 0 ≤ (x0.length : Int) then
  if lenOk (x0.length : Int).toNat 24 then
  loopS (Z106 x0) 100000 (0, ([] : List (List Sec)))
  else none
  else none
theorem image_New_sound (x0 : List Int) {Φ : List (List Sec) × Int → Prop} {o} (h : image_New_S x0 = some o) (hK : Φ o) : image_New_W x0 Φ := by
  unfold image_New_S at h
  unfold image_New_W
  exact blS h fun _ hv h => image_checkSizes_sound _ hv (ifS h (fun h => have t := lfS h hK; t) fun h => adS h fun h => adS h fun h => LoopW.of_S (fun s q rec hs hq => image_New_L1_sound _ s hs hq) _ _ h hK)
def cycle_in_S (x0 : Int) (x1 : Int) (x2 : Int) : Option (Bool) :=
 if x1 ≤ x0 then
  some (decide (x0 ≤ x2))
 else
  some (false)
theorem cycle_in_sound (x0 : Int) (x1 : Int) (x2 : Int) {Φ : Bool → Prop} {o} (h : cycle_in_S x0 x1 x2 = some o) (hK : Φ o) : cycle_in_W x0 x1 x2 Φ := by
  unfold cycle_in_S at h
  unfold cycle_in_W
  exact ifS h (fun h => have t := lfS h hK; t) fun h => have t := lfS h hK; t
def Z107 (x0 : List Int) : Option (List Int) :=
 bothS (decide (x0 = [])) (
  some (([] : List Int))) (
  if lenOk (([] : List Int) ++ x0).length 8 then
  some ((([] : List Int) ++ x0))
  else none)
theorem slices_Clone_int_int_sound (x0 : List Int) {Φ : List Int → Prop} {o} (h : Z107 x0 = some o) (hK : Φ o) : Z4 x0 Φ := by
  unfold Z107 at h
  unfold Z4
  exact nl2S h (fun h => have t := lfS h hK; t) fun h => adS h fun h => have t := lfS h hK; t
def cycle_Open_S (x0 : List Int) (x1 : Int) (x2 : Int) : Option (api_Capture × Int) :=
 Option.bind (image_New_S x0) fun v1 =>
 if v1.2 ≠ 0 then
  some (((api_Capture.mk 0 ([] : List Int) ([] : List Int) ([] : List Int) ([] : List api_Write)), v1.2))
 else
  Option.bind (cycle_in_S x1 1 8) fun v2 =>
  if ¬ (v2 = true) then
   some (((api_Capture.mk 0 ([] : List Int) ([] : List Int) ([] : List Int) ([] : List api_Write)), 6))
  else
   Option.bind (cycle_in_S x2 0 1073741823) fun v3 =>
   if ¬ (v3 = true) then
    some (((api_Capture.mk 0 ([] : List Int) ([] : List Int) ([] : List Int) ([] : List api_Write)), 2))
   else
    Option.bind (Z107 x0) fun z =>
    let v4 : List Int × Unit := (z, ())
    if 0 ≤ x1 then
    if lenOk x1.toNat 8 then
    some (((api_Capture.mk x2 v4.1 (List.replicate x1.toNat (0 : Int)) ([] : List Int) ([] : List api_Write)), 0))
    else none
    else none
theorem cycle_Open_sound (x0 : List Int) (x1 : Int) (x2 : Int) {Φ : api_Capture × Int → Prop} {o} (h : cycle_Open_S x0 x1 x2 = some o) (hK : Φ o) : cycle_Open_W x0 x1 x2 Φ := by
  unfold cycle_Open_S at h
  unfold cycle_Open_W
  exact blS h fun _ hv h => image_New_sound _ hv (ifS h (fun h => have t := lfS h hK; t) fun h => blS h fun _ hv h => cycle_in_sound _ _ _ hv (ifS h (fun h => have t := lfS h hK; t) fun h => blS h fun _ hv h => cycle_in_sound _ _ _ hv (ifS h (fun h => have t := lfS h hK; t) fun h => blS h fun _ hv h => ⟨_, slices_Clone_int_int_sound _ hv rfl, adS h fun h => adS h fun h => have t := lfS h hK; t⟩)))
def Z108 (x0 : Int) (x1 : Int) (x2 : List (BitVec 8)) : (Int × List Sec) → Option ((Int × List Sec) ⊕ (api_Write))
 | (v1, v2) =>
  if v1 < (x2.length : Int) then
   if inX v1 x2.length then
   if lenOk (v2 ++ ([(Sec.mk (ix x2 v1) (0#8) (0#8) (0#8) (0#8) (0#8) (0#8) (0#8))] : List Sec)).length 8 then
   if inI (v1 + 1) then
   some (.inl ((v1 + 1), (v2 ++ ([(Sec.mk (ix x2 v1) (0#8) (0#8) (0#8) (0#8) (0#8) (0#8) (0#8))] : List Sec))))
   else none
   else none
   else none
  else
   some (.inr (api_Write.mk x0 x1 v2))
theorem law23_write_L1_sound (x0 : Int) (x1 : Int) (x2 : List (BitVec 8)) (s : Int × List Sec) {Φ : api_Write → Prop} {rec1 : (Int × List Sec) → Prop} {o} (h : Z108 x0 x1 x2 s = some o) (hK : (orK rec1 Φ) o) : Z5 x0 x1 x2 Φ s rec1 := by
  obtain ⟨v1, v2⟩ := s
  unfold Z108 at h
  unfold Z5
  exact ifS h (fun h => adS h fun h => adS h fun h => adS h fun h => have t := lfS h hK; t) fun h => have t := lfS h hK; t
def law23_write_S (x0 : Int) (x1 : Int) (x2 : List (BitVec 8)) : Option (api_Write) :=
 loopS (Z108 x0 x1 x2) 100000 (0, ([] : List Sec))
theorem law23_write_sound (x0 : Int) (x1 : Int) (x2 : List (BitVec 8)) {Φ : api_Write → Prop} {o} (h : law23_write_S x0 x1 x2 = some o) (hK : Φ o) : law23_write_W x0 x1 x2 Φ := by
  unfold law23_write_S at h
  unfold law23_write_W
  exact LoopW.of_S (fun s q rec hs hq => law23_write_L1_sound _ _ _ s hs hq) _ _ h hK
def Z109 (x0 : Int) : Option (Bool) :=
 Option.bind (cycle_in_S x0 0 1073741824) fun v1 =>
 some (decide (¬ (v1 = true)))
theorem cycle_positions_1_sound (x0 : Int) {Φ : Bool → Prop} {o} (h : Z109 x0 = some o) (hK : Φ o) : Z6 x0 Φ := by
  unfold Z109 at h
  unfold Z6
  exact blS h fun _ hv h => cycle_in_sound _ _ _ hv (have t := lfS h hK; t)
def Z110 (x0 : List Int) : (Int) → Option ((Int) ⊕ (Int))
 | v2 =>
  if v2 < (x0.length : Int) then
   if inX v2 x0.length then
   Option.bind (Z109 (ix x0 v2)) fun v3 =>
   if v3 = true then
    if 0 ≤ v2 then
     some (.inr 2)
    else
     some (.inr 0)
   else
    if inI (v2 + 1) then
    some (.inl (v2 + 1))
    else none
   else none
  else
   if 0 ≤ ((-1) : Int) then
    some (.inr 2)
   else
    some (.inr 0)
theorem cycle_positions_L1_sound (x0 : List Int) (s : Int) {Φ : Int → Prop} {rec1 : (Int) → Prop} {o} (h : Z110 x0 s = some o) (hK : (orK rec1 Φ) o) : Z7 x0 Φ s rec1 := by
  unfold Z110 at h
  unfold Z7
  exact ifS h (fun h => adS h fun h => blS h fun _ hv h => cycle_positions_1_sound _ hv (ifS h (fun h => ifS h (fun h => have t := lfS h hK; t) fun h => have t := lfS h hK; t) fun h => adS h fun h => have t := lfS h hK; t)) fun h => ifS h (fun h => have t := lfS h hK; t) fun h => have t := lfS h hK; t
def Z111 (x0 : List Int) (x1 : Int) : Option (Int) :=
 Option.bind (cycle_in_S (x0.length : Int) x1 8) fun v1 =>
 if ¬ (v1 = true) then
  some (6)
 else
  loopS (Z110 x0) 100000 0
theorem cycle_positions_sound (x0 : List Int) (x1 : Int) {Φ : Int → Prop} {o} (h : Z111 x0 x1 = some o) (hK : Φ o) : Z8 x0 x1 Φ := by
  unfold Z111 at h
  unfold Z8
  exact blS h fun _ hv h => cycle_in_sound _ _ _ hv (ifS h (fun h => have t := lfS h hK; t) fun h => LoopW.of_S (fun s q rec hs hq => cycle_positions_L1_sound _ s hs hq) _ _ h hK)
def Z112 (x0 : List Sec) : Option (Int) :=
 some ((x0.length : Int))
theorem image_sizes_1_sound (x0 : List Sec) {Φ : Int → Prop} {o} (h : Z112 x0 = some o) (hK : Φ o) : Z9 x0 Φ := by
  unfold Z112 at h
  unfold Z9
  exact have t := lfS h hK; t
def Z113 (x0 : List (List Sec)) : (Int × List Int) → Option ((Int × List Int) ⊕ (List Int))
 | (v1, v2) =>
  if v1 < (x0.length : Int) then
   if inX v1 x0.length then
   Option.bind (Z112 (ix x0 v1)) fun v3 =>
   if lenOk (v2 ++ ([v3] : List Int)).length 8 then
   if inI (v1 + 1) then
   some (.inl ((v1 + 1), (v2 ++ ([v3] : List Int))))
   else none
   else none
   else none
  else
   some (.inr v2)
theorem image_sizes_L1_sound (x0 : List (List Sec)) (s : Int × List Int) {Φ : List Int → Prop} {rec1 : (Int × List Int) → Prop} {o} (h : Z113 x0 s = some o) (hK : (orK rec1 Φ) o) : Z10 x0 Φ s rec1 := by
  obtain ⟨v1, v2⟩ := s
  unfold Z113 at h
  unfold Z10
  exact ifS h (fun h => adS h fun h => blS h fun _ hv h => image_sizes_1_sound _ hv (adS h fun h => adS h fun h => have t := lfS h hK; t)) fun h => have t := lfS h hK; t
def image_sizes_S (x0 : List (List Sec)) : Option (List Int) :=
 if 0 ≤ (x0.length : Int) then
 if lenOk (x0.length : Int).toNat 8 then
 loopS (Z113 x0) 100000 (0, ([] : List Int))
 else none
 else none
theorem image_sizes_sound (x0 : List (List Sec)) {Φ : List Int → Prop} {o} (h : image_sizes_S x0 = some o) (hK : Φ o) : image_sizes_W x0 Φ := by
  unfold image_sizes_S at h
  unfold image_sizes_W
  exact adS h fun h => adS h fun h => LoopW.of_S (fun s q rec hs hq => image_sizes_L1_sound _ s hs hq) _ _ h hK
def image_Check_S (x0 : List (List Sec)) : Option (Int) :=
 Option.bind (image_sizes_S x0) fun v1 =>
 Option.bind (Z105 v1) fun v2 =>
 some (v2)
theorem image_Check_sound (x0 : List (List Sec)) {Φ : Int → Prop} {o} (h : image_Check_S x0 = some o) (hK : Φ o) : image_Check_W x0 Φ := by
  unfold image_Check_S at h
  unfold image_Check_W
  exact blS h fun _ hv h => image_sizes_sound _ hv (blS h fun _ hv h => image_checkSizes_sound _ hv (have t := lfS h hK; t))
def Z114 (x0 : List (List Sec)) (x1 : api_Write) : (Bool) → Option (Int)
 | v1 =>
  if v1 = true then
   some (7)
  else
   if (x1.Data.length : Int) = 0 then
    some (1)
   else
    if x1.Start < 0 then
     some (2)
    else
     if inX x1.Volume x0.length then
     if inI (((ix x0 x1.Volume).length : Int) - (x1.Data.length : Int)) then
     if (((ix x0 x1.Volume).length : Int) - (x1.Data.length : Int)) < x1.Start then
      some (2)
     else
      some (0)
     else none
     else none
theorem image_fits_J1_sound (x0 : List (List Sec)) (x1 : api_Write) (s : Bool) {Φ : Int → Prop} {o} (h : Z114 x0 x1 s = some o) (hK : Φ o) : image_fits_J1 x0 x1 Φ s := by
  unfold Z114 at h
  unfold image_fits_J1
  exact ifS h (fun h => have t := lfS h hK; t) fun h => ifS h (fun h => have t := lfS h hK; t) fun h => ifS h (fun h => have t := lfS h hK; t) fun h => adS h fun h => adS h fun h => ifS h (fun h => have t := lfS h hK; t) fun h => have t := lfS h hK; t
def image_fits_S (x0 : List (List Sec)) (x1 : api_Write) : Option (Int) :=
 if x1.Volume < 0 then
  Z114 x0 x1 true
 else
  Z114 x0 x1 (decide ((x0.length : Int) ≤ x1.Volume))
theorem image_fits_sound (x0 : List (List Sec)) (x1 : api_Write) {Φ : Int → Prop} {o} (h : image_fits_S x0 x1 = some o) (hK : Φ o) : image_fits_W x0 x1 Φ := by
  unfold image_fits_S at h
  unfold image_fits_W
  exact ifS h (fun h => image_fits_J1_sound _ _ _ h hK) fun h => image_fits_J1_sound _ _ _ h hK
def image_Fits_S (x0 : List (List Sec)) (x1 : api_Write) : Option (Int) :=
 Option.bind (image_Check_S x0) fun v1 =>
 if v1 ≠ 0 then
  some (v1)
 else
  Option.bind (image_fits_S x0 x1) fun v2 =>
  some (v2)
theorem image_Fits_sound (x0 : List (List Sec)) (x1 : api_Write) {Φ : Int → Prop} {o} (h : image_Fits_S x0 x1 = some o) (hK : Φ o) : image_Fits_W x0 x1 Φ := by
  unfold image_Fits_S at h
  unfold image_Fits_W
  exact blS h fun _ hv h => image_Check_sound _ hv (ifS h (fun h => have t := lfS h hK; t) fun h => blS h fun _ hv h => image_fits_sound _ _ hv (have t := lfS h hK; t))
def Z115 (x0 : List Sec) : Option (List Sec) :=
 bothS (decide (x0 = [])) (
  some (([] : List Sec))) (
  if lenOk (([] : List Sec) ++ x0).length 8 then
  some ((([] : List Sec) ++ x0))
  else none)
theorem slices_Clone_api_Sector_api_Sector_sound (x0 : List Sec) {Φ : List Sec → Prop} {o} (h : Z115 x0 = some o) (hK : Φ o) : Z11 x0 Φ := by
  unfold Z115 at h
  unfold Z11
  exact nl2S h (fun h => have t := lfS h hK; t) fun h => adS h fun h => have t := lfS h hK; t
def Z116 (x0 : api_Write) : Option (api_Write) :=
 Option.bind (Z115 x0.Data) fun v1 =>
 some ((api_Write.mk x0.Volume x0.Start v1))
theorem cycle_copied_sound (x0 : api_Write) {Φ : api_Write → Prop} {o} (h : Z116 x0 = some o) (hK : Φ o) : Z12 x0 Φ := by
  unfold Z116 at h
  unfold Z12
  exact blS h fun _ hv h => slices_Clone_api_Sector_api_Sector_sound _ hv (have t := lfS h hK; t)
def Z117 (x0 : api_Capture) (v1 : List Int × Unit) (v2 : List Int × Unit) (v3 : List Int × Unit) : (Int × List api_Write) → Option ((Int × List api_Write) ⊕ (api_Capture))
 | (v4, v5) =>
  if v4 < (x0.Writes.length : Int) then
   if inX v4 x0.Writes.length then
   Option.bind (Z116 (ix x0.Writes v4)) fun v6 =>
   if lenOk (v5 ++ ([v6] : List api_Write)).length 40 then
   if inI (v4 + 1) then
   some (.inl ((v4 + 1), (v5 ++ ([v6] : List api_Write))))
   else none
   else none
   else none
  else
   some (.inr (api_Capture.mk x0.Number v1.1 v2.1 v3.1 v5))
theorem cycle_cloned_L1_sound (x0 : api_Capture) (v1 : List Int × Unit) (v2 : List Int × Unit) (v3 : List Int × Unit) (s : Int × List api_Write) {Φ : api_Capture → Prop} {rec1 : (Int × List api_Write) → Prop} {o} (h : Z117 x0 v1 v2 v3 s = some o) (hK : (orK rec1 Φ) o) : Z13 x0 v1 v2 v3 Φ s rec1 := by
  obtain ⟨v4, v5⟩ := s
  unfold Z117 at h
  unfold Z13
  exact ifS h (fun h => adS h fun h => blS h fun _ hv h => cycle_copied_sound _ hv (adS h fun h => adS h fun h => have t := lfS h hK; t)) fun h => have t := lfS h hK; t
def Z118 (x0 : api_Capture) : Option (api_Capture) :=
 Option.bind (Z107 x0.Sizes) fun z =>
 let v1 : List Int × Unit := (z, ())
 Option.bind (Z107 x0.Positions) fun z =>
 let v2 : List Int × Unit := (z, ())
 Option.bind (Z107 x0.Nodes) fun z =>
 let v3 : List Int × Unit := (z, ())
 loopS (Z117 x0 v1 v2 v3) 100000 (0, ([] : List api_Write))
theorem cycle_cloned_sound (x0 : api_Capture) {Φ : api_Capture → Prop} {o} (h : Z118 x0 = some o) (hK : Φ o) : Z14 x0 Φ := by
  unfold Z118 at h
  unfold Z14
  exact blS h fun _ hv h => ⟨_, slices_Clone_int_int_sound _ hv rfl, blS h fun _ hv h => ⟨_, slices_Clone_int_int_sound _ hv rfl, blS h fun _ hv h => ⟨_, slices_Clone_int_int_sound _ hv rfl, LoopW.of_S (fun s q rec hs hq => cycle_cloned_L1_sound _ _ _ _ s hs hq) _ _ h hK⟩⟩⟩
def Z119 (x0 : api_Capture) (x1 : Int) (x2 : api_Write) (v1 : List (List Sec) × Int) : (Int) → Option ((Int) ⊕ (api_Capture × Int))
 | v4 =>
  if v4 < (x0.Writes.length : Int) then
   if inX v4 x0.Writes.length then
   if inX v4 x0.Nodes.length then
   if inI ((x0.Positions.length : Int) - 1) then
   Option.bind (cycle_in_S (ix x0.Nodes v4) 0 ((x0.Positions.length : Int) - 1)) fun v5 =>
   if ¬ (v5 = true) then
    some (.inr ((api_Capture.mk 0 ([] : List Int) ([] : List Int) ([] : List Int) ([] : List api_Write)), 7))
   else
    Option.bind (image_Fits_S v1.1 (ix x0.Writes v4)) fun v6 =>
    if ¬ (v6 = 0) then
     some (.inr ((api_Capture.mk 0 ([] : List Int) ([] : List Int) ([] : List Int) ([] : List api_Write)), v6))
    else
     if inI (v4 + 1) then
     some (.inl (v4 + 1))
     else none
   else none
   else none
   else none
  else
   if inI ((x0.Positions.length : Int) - 1) then
   Option.bind (cycle_in_S x1 0 ((x0.Positions.length : Int) - 1)) fun v7 =>
   if ¬ (v7 = true) then
    some (.inr ((api_Capture.mk 0 ([] : List Int) ([] : List Int) ([] : List Int) ([] : List api_Write)), 7))
   else
    Option.bind (image_Fits_S v1.1 x2) fun v8 =>
    if ¬ (v8 = 0) then
     some (.inr ((api_Capture.mk 0 ([] : List Int) ([] : List Int) ([] : List Int) ([] : List api_Write)), v8))
    else
     if ¬ ((x0.Writes.length : Int) < 4096) then
      some (.inr ((api_Capture.mk 0 ([] : List Int) ([] : List Int) ([] : List Int) ([] : List api_Write)), 11))
     else
      Option.bind (Z118 x0) fun v9 =>
      if lenOk (v9.Nodes ++ ([x1] : List Int)).length 8 then
      Option.bind (Z116 x2) fun z =>
      let v10 : api_Write × Unit := (z, ())
      if lenOk (v9.Writes ++ ([v10.1] : List api_Write)).length 40 then
      some (.inr ((api_Capture.mk v9.Number v9.Sizes v9.Positions (v9.Nodes ++ ([x1] : List Int)) (v9.Writes ++ ([v10.1] : List api_Write))), 0))
      else none
      else none
   else none
theorem cycle_Add_L1_sound (x0 : api_Capture) (x1 : Int) (x2 : api_Write) (v1 : List (List Sec) × Int) (s : Int) {Φ : api_Capture × Int → Prop} {rec1 : (Int) → Prop} {o} (h : Z119 x0 x1 x2 v1 s = some o) (hK : (orK rec1 Φ) o) : cycle_Add_L1 x0 x1 x2 v1 Φ s rec1 := by
  unfold Z119 at h
  unfold cycle_Add_L1
  exact ifS h (fun h => adS h fun h => adS h fun h => adS h fun h => blS h fun _ hv h => cycle_in_sound _ _ _ hv (ifS h (fun h => have t := lfS h hK; t) fun h => blS h fun _ hv h => image_Fits_sound _ _ hv (ifS h (fun h => have t := lfS h hK; t) fun h => adS h fun h => have t := lfS h hK; t))) fun h => adS h fun h => blS h fun _ hv h => cycle_in_sound _ _ _ hv (ifS h (fun h => have t := lfS h hK; t) fun h => blS h fun _ hv h => image_Fits_sound _ _ hv (ifS h (fun h => have t := lfS h hK; t) fun h => ifS h (fun h => have t := lfS h hK; t) fun h => blS h fun _ hv h => cycle_cloned_sound _ hv (adS h fun h => blS h fun _ hv h => ⟨_, cycle_copied_sound _ hv rfl, adS h fun h => have t := lfS h hK; t⟩)))
def cycle_Add_S (x0 : api_Capture) (x1 : Int) (x2 : api_Write) : Option (api_Capture × Int) :=
 Option.bind (image_New_S x0.Sizes) fun v1 =>
 if ¬ (v1.2 = 0) then
  some (((api_Capture.mk 0 ([] : List Int) ([] : List Int) ([] : List Int) ([] : List api_Write)), v1.2))
 else
  Option.bind (cycle_in_S x0.Number 0 1073741823) fun v2 =>
  if ¬ (v2 = true) then
   some (((api_Capture.mk 0 ([] : List Int) ([] : List Int) ([] : List Int) ([] : List api_Write)), 2))
  else
   Option.bind (Z111 x0.Positions 1) fun v3 =>
   if ¬ (v3 = 0) then
    some (((api_Capture.mk 0 ([] : List Int) ([] : List Int) ([] : List Int) ([] : List api_Write)), v3))
   else
    if (x0.Nodes.length : Int) = (x0.Writes.length : Int) then
     if ¬ ((x0.Writes.length : Int) ≤ 4096) then
      some (((api_Capture.mk 0 ([] : List Int) ([] : List Int) ([] : List Int) ([] : List api_Write)), 6))
     else
      loopS (Z119 x0 x1 x2 v1) 100000 0
    else
     some (((api_Capture.mk 0 ([] : List Int) ([] : List Int) ([] : List Int) ([] : List api_Write)), 6))
theorem cycle_Add_sound (x0 : api_Capture) (x1 : Int) (x2 : api_Write) {Φ : api_Capture × Int → Prop} {o} (h : cycle_Add_S x0 x1 x2 = some o) (hK : Φ o) : cycle_Add_W x0 x1 x2 Φ := by
  unfold cycle_Add_S at h
  unfold cycle_Add_W
  exact blS h fun _ hv h => image_New_sound _ hv (ifS h (fun h => have t := lfS h hK; t) fun h => blS h fun _ hv h => cycle_in_sound _ _ _ hv (ifS h (fun h => have t := lfS h hK; t) fun h => blS h fun _ hv h => cycle_positions_sound _ _ hv (ifS h (fun h => have t := lfS h hK; t) fun h => ifS h (fun h => ifS h (fun h => have t := lfS h hK; t) fun h => LoopW.of_S (fun s q rec hs hq => cycle_Add_L1_sound _ _ _ _ s hs hq) _ _ h hK) fun h => have t := lfS h hK; t)))
def Z120 (x0 : Int) : Option (Bool) :=
 some (decide (0 < x0))
theorem cycle_divide_1_sound (x0 : Int) {Φ : Bool → Prop} {o} (h : Z120 x0 = some o) (hK : Φ o) : Z15 x0 Φ := by
  unfold Z120 at h
  unfold Z15
  exact have t := lfS h hK; t
def Z121 (x0 : cycle_division) (x1 : Bool) : (Int) → Option (List (Int × api_Write × Unit) × ((Int) ⊕ (Unit)))
 | v1 =>
  if v1 < (x0.c.Writes.length : Int) then
   if inX v1 x0.c.Writes.length then
   if inX v1 x0.part.length then
   if (ix x0.part v1) = x1 then
    Option.map (fun q => ((v1, (ix x0.c.Writes v1), ()) :: q.1, q.2)) (
     if inI (v1 + 1) then
     some ([], .inl (v1 + 1))
     else none)
   else
    if inI (v1 + 1) then
    some ([], .inl (v1 + 1))
    else none
   else none
   else none
  else
   some ([], .inr ())
theorem cycle_division_writes_1_L1_sound (x0 : cycle_division) (x1 : Bool) (s : Int) {ys : List (Int × api_Write × Unit)} {q} {r : List (Int × api_Write × Unit)} {rec1 : (List (Int × api_Write × Unit) × Int) → Prop} (h : Z121 x0 x1 s = some (ys, q)) (hr : (orK (fun s => rec1 (r, s)) (fun _ => r = [])) q) : Z16 x0 x1 (ys ++ r, s) rec1 := by
  unfold Z121 at h
  unfold Z16
  exact ifS h (fun h => adS h fun h => adS h fun h => ifS h (fun h => mpS h fun q_ h_ he => (by obtain ⟨_, _⟩ := q_; cases he; exact ⟨rfl, (have h := h_; adS h fun h => (by cases h; exact hr)), trivial⟩)) fun h => adS h fun h => (by cases h; exact hr)) fun h => (by cases h; exact hr)
def cycle_division_writes_1_S0 (x0 : cycle_division) (x1 : Bool) : Option (List (Int × api_Write × Unit) × Unit) :=
 genS (Z121 x0 x1) 100000 0
def Z122 (x0 : cycle_division) (x1 : Bool) : Option (List (Int × api_Write × Unit)) := Option.map Prod.fst (cycle_division_writes_1_S0 x0 x1)
theorem cycle_division_writes_1_sound (x0 : cycle_division) (x1 : Bool) {l : List (Int × api_Write × Unit)} (h : Z122 x0 x1 = some l) : cycle_division_writes_1_I x0 x1 l := by
  obtain ⟨⟨ys, q⟩, h0, h1⟩ := Option.map_eq_some_iff.1 h
  clear h
  have h := h0
  subst h1
  unfold cycle_division_writes_1_S0 at h
  unfold cycle_division_writes_1_I
  have hr : (fun _ => ([] : List (Int × api_Write × Unit)) = []) q := rfl
  rw [← List.append_nil ys]
  exact LoopW.of_G (K := fun r => (fun _ => r = [])) (fun s ys q r rec hs hr => cycle_division_writes_1_L1_sound _ _ s hs hr) _ _ _ h hr
def Z123 (v1 : api_Write) (v2 : List Sec) (v3 : Int × api_Write × Unit) (r4 : List (Int × api_Write × Unit)) : (Int × List Sec) → Option ((Int × List Sec) ⊕ ((List (Int × api_Write × Unit) × List Sec) ⊕ (api_Write)))
 | (v6, v7) =>
  if v6 < (v2.length : Int) then
   if inI (v1.Start + v6) then
   if inI ((v1.Start + v6) - v3.2.1.Start) then
   if inI ((v3.2.1.Data.length : Int) - 1) then
   Option.bind (cycle_in_S ((v1.Start + v6) - v3.2.1.Start) 0 ((v3.2.1.Data.length : Int) - 1)) fun v8 =>
   if v8 = true then
    if inX ((v1.Start + v6) - v3.2.1.Start) v3.2.1.Data.length then
    if inX v6 v7.length then
    if inI (v6 + 1) then
    some (.inl ((v6 + 1), (put v7 v6 (ix v3.2.1.Data ((v1.Start + v6) - v3.2.1.Start)))))
    else none
    else none
    else none
   else
    if inI (v6 + 1) then
    some (.inl ((v6 + 1), v7))
    else none
   else none
   else none
   else none
  else
   some (.inr (.inl (r4, v7)))
theorem cycle_division_later_L3_sound (v1 : api_Write) (v2 : List Sec) (v3 : Int × api_Write × Unit) (r4 : List (Int × api_Write × Unit)) (s : Int × List Sec) {Φ : api_Write → Prop} {rec1 : (List (Int × api_Write × Unit) × List Sec) → Prop} {rec3 : (Int × List Sec) → Prop} {o} (h : Z123 v1 v2 v3 r4 s = some o) (hK : (orK rec3 (orK rec1 Φ)) o) : Z31 v1 v2 rec1 v3 r4 Φ s rec3 := by
  obtain ⟨v6, v7⟩ := s
  unfold Z123 at h
  unfold Z31
  exact ifS h (fun h => adS h fun h => adS h fun h => adS h fun h => blS h fun _ hv h => cycle_in_sound _ _ _ hv (ifS h (fun h => adS h fun h => adS h fun h => adS h fun h => have t := lfS h hK; t) fun h => adS h fun h => have t := lfS h hK; t)) fun h => have t := lfS h hK; t
def Z124 (v1 : api_Write) (v2 : List Sec) (v3 : Int × api_Write × Unit) (r4 : List (Int × api_Write × Unit)) : (Bool) → Option ((List (Int × api_Write × Unit) × List Sec) ⊕ (api_Write))
 | v5 =>
  if v5 = true then
   some (.inl (r4, v2))
  else
   loopS (Z123 v1 v2 v3 r4) 100000 (0, v2)
theorem cycle_division_later_J2_sound (v1 : api_Write) (v2 : List Sec) (v3 : Int × api_Write × Unit) (r4 : List (Int × api_Write × Unit)) (s : Bool) {Φ : api_Write → Prop} {rec1 : (List (Int × api_Write × Unit) × List Sec) → Prop} {o} (h : Z124 v1 v2 v3 r4 s = some o) (hK : (orK rec1 Φ) o) : Z32 v1 v2 rec1 v3 r4 Φ s := by
  unfold Z124 at h
  unfold Z32
  exact ifS h (fun h => have t := lfS h hK; t) fun h => LoopW.of_S (fun s q rec hs hq => cycle_division_later_L3_sound _ _ _ _ s hs hq) _ _ h hK
def Z125 (x1 : Int) (v1 : api_Write) : (List (Int × api_Write × Unit) × List Sec) → Option ((List (Int × api_Write × Unit) × List Sec) ⊕ (api_Write))
 | (lst, v2) =>
  match lst with
  | [] =>
   some (.inr (api_Write.mk v1.Volume v1.Start v2))
  | v3 :: r4 =>
   if v3.1 < x1 then
    Z124 v1 v2 v3 r4 true
   else
    Z124 v1 v2 v3 r4 (decide (v3.2.1.Volume ≠ v1.Volume))
theorem cycle_division_later_L1_sound (x1 : Int) (v1 : api_Write) (s : List (Int × api_Write × Unit) × List Sec) {Φ : api_Write → Prop} {rec1 : (List (Int × api_Write × Unit) × List Sec) → Prop} {o} (h : Z125 x1 v1 s = some o) (hK : (orK rec1 Φ) o) : Z33 x1 v1 Φ s rec1 := by
  obtain ⟨lst, v2⟩ := s
  unfold Z125 at h
  unfold Z33
  cases lst with
  | nil => exact have t := lfS h hK; t
  | cons _ _ => exact ifS h (fun h => cycle_division_later_J2_sound _ _ _ _ _ h hK) fun h => cycle_division_later_J2_sound _ _ _ _ _ h hK
def Z126 (x0 : cycle_division) (x1 : Int) (x2 : api_Write) : Option (api_Write) :=
 Option.bind (Z116 x2) fun v1 =>
 Option.bind (Z122 x0 true) fun l9 =>
 loopS (Z125 x1 v1) 100000 (l9, v1.Data)
theorem cycle_division_later_sound (x0 : cycle_division) (x1 : Int) (x2 : api_Write) {Φ : api_Write → Prop} {o} (h : Z126 x0 x1 x2 = some o) (hK : Φ o) : Z34 x0 x1 x2 Φ := by
  unfold Z126 at h
  unfold Z34
  exact blS h fun _ hv h => cycle_copied_sound _ hv (blS h fun _ hv h => ⟨_, cycle_division_writes_1_sound _ _ hv, LoopW.of_S (fun s q rec hs hq => cycle_division_later_L1_sound _ _ s hs hq) _ _ h hK⟩)
def Z127 (x0 : api_Capture) (x1 : Int) (v12 : List Bool) (v18 : List api_Write × Int) (v19 : List Int × Unit) (v20 : List Int × Unit) (v21 : List Int × Unit) : (List (Int × api_Write × Unit) × (List Int × List api_Write)) → Option ((List (Int × api_Write × Unit) × (List Int × List api_Write)) ⊕ ((List (Int × api_Write × Unit) × List api_Write) ⊕ ((Int) ⊕ ((Int × List Int × List Bool) ⊕ ((Int × List Int) ⊕ ((Int) ⊕ (api_Capture × api_Cycle × Int)))))))
 | (lst, v22, v23) =>
  match lst with
  | [] =>
   some (.inr (.inr (.inr (.inr (.inr (.inr ((api_Capture.mk (x0.Number + 1) v20.1 v21.1 v22 v23), (api_Cycle.mk x0.Number (x0.Number + 1) x1 v19.1 v18.1), 0)))))))
  | v24 :: r25 =>
   if inX v24.1 x0.Nodes.length then
   if lenOk (v22 ++ ([(ix x0.Nodes v24.1)] : List Int)).length 8 then
   Option.bind (Z126 (cycle_division.mk x0 v12) v24.1 v24.2.1) fun z =>
   let v26 : api_Write × Unit := (z, ())
   if lenOk (v23 ++ ([v26.1] : List api_Write)).length 40 then
   some (.inl (r25, ((v22 ++ ([(ix x0.Nodes v24.1)] : List Int)), (v23 ++ ([v26.1] : List api_Write)))))
   else none
   else none
   else none
theorem cycle_Close_L6_sound (x0 : api_Capture) (x1 : Int) (v12 : List Bool) (v18 : List api_Write × Int) (v19 : List Int × Unit) (v20 : List Int × Unit) (v21 : List Int × Unit) (s : List (Int × api_Write × Unit) × (List Int × List api_Write)) {Φ : api_Capture × api_Cycle × Int → Prop} {rec1 : (Int) → Prop} {rec2 : (Int × List Int) → Prop} {rec3 : (Int × List Int × List Bool) → Prop} {rec4 : (Int) → Prop} {rec5 : (List (Int × api_Write × Unit) × List api_Write) → Prop} {rec6 : (List (Int × api_Write × Unit) × (List Int × List api_Write)) → Prop} {o} (h : Z127 x0 x1 v12 v18 v19 v20 v21 s = some o) (hK : (orK rec6 (orK rec5 (orK rec4 (orK rec3 (orK rec2 (orK rec1 Φ)))))) o) : Z35 x0 x1 v12 v18 v19 v20 v21 Φ s rec6 := by
  obtain ⟨lst, v22, v23⟩ := s
  unfold Z127 at h
  unfold Z35
  cases lst with
  | nil => exact have t := lfS h hK; t
  | cons _ _ => exact adS h fun h => adS h fun h => blS h fun _ hv h => ⟨_, cycle_division_later_sound _ _ _ hv rfl, adS h fun h => have t := lfS h hK; t⟩
def Z128 (x0 : api_Capture) (x1 : Int) (x2 : List Int) (v12 : List Bool) : (List (Int × api_Write × Unit) × List api_Write) → Option ((List (Int × api_Write × Unit) × List api_Write) ⊕ ((Int) ⊕ ((Int × List Int × List Bool) ⊕ ((Int × List Int) ⊕ ((Int) ⊕ (api_Capture × api_Cycle × Int))))))
 | (lst, v15) =>
  match lst with
  | [] =>
   Option.bind (Z101 v15) fun v18 =>
   if ¬ (v18.2 = 0) then
    some (.inr (.inr (.inr (.inr (.inr ((api_Capture.mk 0 ([] : List Int) ([] : List Int) ([] : List Int) ([] : List api_Write)), (api_Cycle.mk 0 0 0 ([] : List Int) ([] : List api_Write)), v18.2))))))
   else
    if inI (x0.Number + 1) then
    Option.bind (Z107 x2) fun z =>
    let v19 : List Int × Unit := (z, ())
    if inI (x0.Number + 1) then
    Option.bind (Z107 x0.Sizes) fun z =>
    let v20 : List Int × Unit := (z, ())
    Option.bind (Z107 x2) fun z =>
    let v21 : List Int × Unit := (z, ())
    Option.bind (Z122 (cycle_division.mk x0 v12) false) fun l27 =>
    loopS (Z127 x0 x1 v12 v18 v19 v20 v21) 100000 (l27, (([] : List Int), ([] : List api_Write)))
    else none
    else none
  | v16 :: r17 =>
   if lenOk (v15 ++ ([v16.2.1] : List api_Write)).length 40 then
   some (.inl (r17, (v15 ++ ([v16.2.1] : List api_Write))))
   else none
theorem cycle_Close_L5_sound (x0 : api_Capture) (x1 : Int) (x2 : List Int) (v12 : List Bool) (s : List (Int × api_Write × Unit) × List api_Write) {Φ : api_Capture × api_Cycle × Int → Prop} {rec1 : (Int) → Prop} {rec2 : (Int × List Int) → Prop} {rec3 : (Int × List Int × List Bool) → Prop} {rec4 : (Int) → Prop} {rec5 : (List (Int × api_Write × Unit) × List api_Write) → Prop} {o} (h : Z128 x0 x1 x2 v12 s = some o) (hK : (orK rec5 (orK rec4 (orK rec3 (orK rec2 (orK rec1 Φ))))) o) : Z36 x0 x1 x2 v12 Φ s rec5 := by
  obtain ⟨lst, v15⟩ := s
  unfold Z128 at h
  unfold Z36
  cases lst with
  | nil => exact blS h fun _ hv h => coalesce_Fold_sound _ hv (ifS h (fun h => have t := lfS h hK; t) fun h => adS h fun h => blS h fun _ hv h => ⟨_, slices_Clone_int_int_sound _ hv rfl, adS h fun h => blS h fun _ hv h => ⟨_, slices_Clone_int_int_sound _ hv rfl, blS h fun _ hv h => ⟨_, slices_Clone_int_int_sound _ hv rfl, blS h fun _ hv h => ⟨_, cycle_division_writes_1_sound _ _ hv, LoopW.of_S (fun s q rec hs hq => cycle_Close_L6_sound _ _ _ _ _ _ _ s hs hq) _ _ h hK⟩⟩⟩⟩)
  | cons _ _ => exact adS h fun h => have t := lfS h hK; t
def Z129 (x0 : api_Capture) (x1 : Int) (v12 : List Bool) (v32 : List api_Write × Int) (v33 : List Int × Unit) (v34 : List Int × Unit) (v35 : List Int × Unit) : (List (Int × api_Write × Unit) × (List Int × List api_Write)) → Option ((List (Int × api_Write × Unit) × (List Int × List api_Write)) ⊕ ((List (Int × api_Write × Unit) × List api_Write) ⊕ ((Int) ⊕ ((Int × List Int × List Bool) ⊕ ((Int × List Int) ⊕ ((Int) ⊕ (api_Capture × api_Cycle × Int)))))))
 | (lst, v36, v37) =>
  match lst with
  | [] =>
   some (.inr (.inr (.inr (.inr (.inr (.inr ((api_Capture.mk (x0.Number + 1) v34.1 v35.1 v36 v37), (api_Cycle.mk x0.Number (x0.Number + 1) x1 v33.1 v32.1), 0)))))))
  | v38 :: r39 =>
   if inX v38.1 x0.Nodes.length then
   if lenOk (v36 ++ ([(ix x0.Nodes v38.1)] : List Int)).length 8 then
   Option.bind (Z126 (cycle_division.mk x0 v12) v38.1 v38.2.1) fun z =>
   let v40 : api_Write × Unit := (z, ())
   if lenOk (v37 ++ ([v40.1] : List api_Write)).length 40 then
   some (.inl (r39, ((v36 ++ ([(ix x0.Nodes v38.1)] : List Int)), (v37 ++ ([v40.1] : List api_Write)))))
   else none
   else none
   else none
theorem cycle_Close_L8_sound (x0 : api_Capture) (x1 : Int) (v12 : List Bool) (v32 : List api_Write × Int) (v33 : List Int × Unit) (v34 : List Int × Unit) (v35 : List Int × Unit) (s : List (Int × api_Write × Unit) × (List Int × List api_Write)) {Φ : api_Capture × api_Cycle × Int → Prop} {rec1 : (Int) → Prop} {rec2 : (Int × List Int) → Prop} {rec3 : (Int × List Int × List Bool) → Prop} {rec4 : (Int) → Prop} {rec7 : (List (Int × api_Write × Unit) × List api_Write) → Prop} {rec8 : (List (Int × api_Write × Unit) × (List Int × List api_Write)) → Prop} {o} (h : Z129 x0 x1 v12 v32 v33 v34 v35 s = some o) (hK : (orK rec8 (orK rec7 (orK rec4 (orK rec3 (orK rec2 (orK rec1 Φ)))))) o) : Z37 x0 x1 v12 v32 v33 v34 v35 Φ s rec8 := by
  obtain ⟨lst, v36, v37⟩ := s
  unfold Z129 at h
  unfold Z37
  cases lst with
  | nil => exact have t := lfS h hK; t
  | cons _ _ => exact adS h fun h => adS h fun h => blS h fun _ hv h => ⟨_, cycle_division_later_sound _ _ _ hv rfl, adS h fun h => have t := lfS h hK; t⟩
def Z130 (x0 : api_Capture) (x1 : Int) (x2 : List Int) (v12 : List Bool) : (List (Int × api_Write × Unit) × List api_Write) → Option ((List (Int × api_Write × Unit) × List api_Write) ⊕ ((Int) ⊕ ((Int × List Int × List Bool) ⊕ ((Int × List Int) ⊕ ((Int) ⊕ (api_Capture × api_Cycle × Int))))))
 | (lst, v29) =>
  match lst with
  | [] =>
   Option.bind (Z101 v29) fun v32 =>
   if ¬ (v32.2 = 0) then
    some (.inr (.inr (.inr (.inr (.inr ((api_Capture.mk 0 ([] : List Int) ([] : List Int) ([] : List Int) ([] : List api_Write)), (api_Cycle.mk 0 0 0 ([] : List Int) ([] : List api_Write)), v32.2))))))
   else
    if inI (x0.Number + 1) then
    Option.bind (Z107 x2) fun z =>
    let v33 : List Int × Unit := (z, ())
    if inI (x0.Number + 1) then
    Option.bind (Z107 x0.Sizes) fun z =>
    let v34 : List Int × Unit := (z, ())
    Option.bind (Z107 x2) fun z =>
    let v35 : List Int × Unit := (z, ())
    Option.bind (Z122 (cycle_division.mk x0 v12) false) fun l41 =>
    loopS (Z129 x0 x1 v12 v32 v33 v34 v35) 100000 (l41, (([] : List Int), ([] : List api_Write)))
    else none
    else none
  | v30 :: r31 =>
   if lenOk (v29 ++ ([v30.2.1] : List api_Write)).length 40 then
   some (.inl (r31, (v29 ++ ([v30.2.1] : List api_Write))))
   else none
theorem cycle_Close_L7_sound (x0 : api_Capture) (x1 : Int) (x2 : List Int) (v12 : List Bool) (s : List (Int × api_Write × Unit) × List api_Write) {Φ : api_Capture × api_Cycle × Int → Prop} {rec1 : (Int) → Prop} {rec2 : (Int × List Int) → Prop} {rec3 : (Int × List Int × List Bool) → Prop} {rec4 : (Int) → Prop} {rec7 : (List (Int × api_Write × Unit) × List api_Write) → Prop} {o} (h : Z130 x0 x1 x2 v12 s = some o) (hK : (orK rec7 (orK rec4 (orK rec3 (orK rec2 (orK rec1 Φ))))) o) : Z38 x0 x1 x2 v12 Φ s rec7 := by
  obtain ⟨lst, v29⟩ := s
  unfold Z130 at h
  unfold Z38
  cases lst with
  | nil => exact blS h fun _ hv h => coalesce_Fold_sound _ hv (ifS h (fun h => have t := lfS h hK; t) fun h => adS h fun h => blS h fun _ hv h => ⟨_, slices_Clone_int_int_sound _ hv rfl, adS h fun h => blS h fun _ hv h => ⟨_, slices_Clone_int_int_sound _ hv rfl, blS h fun _ hv h => ⟨_, slices_Clone_int_int_sound _ hv rfl, blS h fun _ hv h => ⟨_, cycle_division_writes_1_sound _ _ hv, LoopW.of_S (fun s q rec hs hq => cycle_Close_L8_sound _ _ _ _ _ _ _ s hs hq) _ _ h hK⟩⟩⟩⟩)
  | cons _ _ => exact adS h fun h => have t := lfS h hK; t
def Z131 (x0 : api_Capture) (x1 : Int) (x2 : List Int) (v11 : List Int) (v12 : List Bool) : (Int) → Option ((Int) ⊕ ((Int × List Int × List Bool) ⊕ ((Int × List Int) ⊕ ((Int) ⊕ (api_Capture × api_Cycle × Int)))))
 | v13 =>
  if v13 < (v11.length : Int) then
   if inX v13 v11.length then
   Option.bind (Z120 (ix v11 v13)) fun v14 =>
   if v14 = true then
    if ¬ (¬ (0 ≤ v13)) then
     some (.inr (.inr (.inr (.inr ((api_Capture.mk 0 ([] : List Int) ([] : List Int) ([] : List Int) ([] : List api_Write)), (api_Cycle.mk 0 0 0 ([] : List Int) ([] : List api_Write)), 2)))))
    else
     Option.bind (Z122 (cycle_division.mk x0 v12) true) fun l28 =>
     loopS (Z128 x0 x1 x2 v12) 100000 (l28, ([] : List api_Write))
   else
    if inI (v13 + 1) then
    some (.inl (v13 + 1))
    else none
   else none
  else
   if ¬ (¬ (0 ≤ ((-1) : Int))) then
    some (.inr (.inr (.inr (.inr ((api_Capture.mk 0 ([] : List Int) ([] : List Int) ([] : List Int) ([] : List api_Write)), (api_Cycle.mk 0 0 0 ([] : List Int) ([] : List api_Write)), 2)))))
   else
    Option.bind (Z122 (cycle_division.mk x0 v12) true) fun l42 =>
    loopS (Z130 x0 x1 x2 v12) 100000 (l42, ([] : List api_Write))
theorem cycle_Close_L4_sound (x0 : api_Capture) (x1 : Int) (x2 : List Int) (v11 : List Int) (v12 : List Bool) (s : Int) {Φ : api_Capture × api_Cycle × Int → Prop} {rec1 : (Int) → Prop} {rec2 : (Int × List Int) → Prop} {rec3 : (Int × List Int × List Bool) → Prop} {rec4 : (Int) → Prop} {o} (h : Z131 x0 x1 x2 v11 v12 s = some o) (hK : (orK rec4 (orK rec3 (orK rec2 (orK rec1 Φ)))) o) : Z39 x0 x1 x2 v11 v12 Φ s rec4 := by
  unfold Z131 at h
  unfold Z39
  exact ifS h (fun h => adS h fun h => blS h fun _ hv h => cycle_divide_1_sound _ hv (ifS h (fun h => ifS h (fun h => have t := lfS h hK; t) fun h => blS h fun _ hv h => ⟨_, cycle_division_writes_1_sound _ _ hv, LoopW.of_S (fun s q rec hs hq => cycle_Close_L5_sound _ _ _ _ s hs hq) _ _ h hK⟩) fun h => adS h fun h => have t := lfS h hK; t)) fun h => ifS h (fun h => have t := lfS h hK; t) fun h => blS h fun _ hv h => ⟨_, cycle_division_writes_1_sound _ _ hv, LoopW.of_S (fun s q rec hs hq => cycle_Close_L7_sound _ _ _ _ s hs hq) _ _ h hK⟩
def Z132 (x0 : api_Capture) (x1 : Int) (x2 : List Int) : (Int × List Int × List Bool) → Option ((Int × List Int × List Bool) ⊕ ((Int × List Int) ⊕ ((Int) ⊕ (api_Capture × api_Cycle × Int))))
 | (v10, v11, v12) =>
  if v10 < (x0.Nodes.length : Int) then
   if inX v10 x0.Nodes.length then
   if inX (ix x0.Nodes v10) v11.length then
   if lenOk (v12 ++ ([decide (0 < (ix v11 (ix x0.Nodes v10)))] : List Bool)).length 1 then
   if inX (ix x0.Nodes v10) v11.length then
   if inI ((ix v11 (ix x0.Nodes v10)) - 1) then
   if inX (ix x0.Nodes v10) v11.length then
   if inI (v10 + 1) then
   some (.inl ((v10 + 1), (put v11 (ix x0.Nodes v10) (if ((ix v11 (ix x0.Nodes v10)) - 1) < 0 then 0 else ((ix v11 (ix x0.Nodes v10)) - 1))), (v12 ++ ([decide (0 < (ix v11 (ix x0.Nodes v10)))] : List Bool))))
   else none
   else none
   else none
   else none
   else none
   else none
   else none
  else
   loopS (Z131 x0 x1 x2 v11 v12) 100000 0
theorem cycle_Close_L3_sound (x0 : api_Capture) (x1 : Int) (x2 : List Int) (s : Int × List Int × List Bool) {Φ : api_Capture × api_Cycle × Int → Prop} {rec1 : (Int) → Prop} {rec2 : (Int × List Int) → Prop} {rec3 : (Int × List Int × List Bool) → Prop} {o} (h : Z132 x0 x1 x2 s = some o) (hK : (orK rec3 (orK rec2 (orK rec1 Φ))) o) : Z40 x0 x1 x2 Φ s rec3 := by
  obtain ⟨v10, v11, v12⟩ := s
  unfold Z132 at h
  unfold Z40
  exact ifS h (fun h => adS h fun h => adS h fun h => adS h fun h => adS h fun h => adS h fun h => adS h fun h => adS h fun h => have t := lfS h hK; t) fun h => LoopW.of_S (fun s q rec hs hq => cycle_Close_L4_sound _ _ _ _ _ s hs hq) _ _ h hK
def Z133 (x0 : api_Capture) (x1 : Int) (x2 : List Int) : (Int × List Int) → Option ((Int × List Int) ⊕ ((Int) ⊕ (api_Capture × api_Cycle × Int)))
 | (v8, v9) =>
  if v8 < (x2.length : Int) then
   if inX v8 x2.length then
   if inX v8 x0.Positions.length then
   if inX v8 v9.length then
   if inX v8 (put v9 v8 (Go.IntKind.wrap Go.IntKind.i64 ((ix x2 v8) - (ix x0.Positions v8)))).length then
   if ¬ (0 ≤ (ix (put v9 v8 (Go.IntKind.wrap Go.IntKind.i64 ((ix x2 v8) - (ix x0.Positions v8)))) v8)) then
    some (.inr (.inr ((api_Capture.mk 0 ([] : List Int) ([] : List Int) ([] : List Int) ([] : List api_Write)), (api_Cycle.mk 0 0 0 ([] : List Int) ([] : List api_Write)), 2)))
   else
    if inI (v8 + 1) then
    some (.inl ((v8 + 1), (put v9 v8 (Go.IntKind.wrap Go.IntKind.i64 ((ix x2 v8) - (ix x0.Positions v8))))))
    else none
   else none
   else none
   else none
   else none
  else
   loopS (Z132 x0 x1 x2) 100000 (0, v9, ([] : List Bool))
theorem cycle_Close_L2_sound (x0 : api_Capture) (x1 : Int) (x2 : List Int) (s : Int × List Int) {Φ : api_Capture × api_Cycle × Int → Prop} {rec1 : (Int) → Prop} {rec2 : (Int × List Int) → Prop} {o} (h : Z133 x0 x1 x2 s = some o) (hK : (orK rec2 (orK rec1 Φ)) o) : Z41 x0 x1 x2 Φ s rec2 := by
  obtain ⟨v8, v9⟩ := s
  unfold Z133 at h
  unfold Z41
  exact ifS h (fun h => adS h fun h => adS h fun h => adS h fun h => adS h fun h => ifS h (fun h => have t := lfS h hK; t) fun h => adS h fun h => have t := lfS h hK; t) fun h => LoopW.of_S (fun s q rec hs hq => cycle_Close_L3_sound _ _ _ s hs hq) _ _ h hK
def Z134 (x0 : api_Capture) (x1 : Int) (x2 : List Int) (v1 : List (List Sec) × Int) : (Int) → Option ((Int) ⊕ (api_Capture × api_Cycle × Int))
 | v4 =>
  if v4 < (x0.Writes.length : Int) then
   if inX v4 x0.Writes.length then
   if inX v4 x0.Nodes.length then
   if inI ((x0.Positions.length : Int) - 1) then
   Option.bind (cycle_in_S (ix x0.Nodes v4) 0 ((x0.Positions.length : Int) - 1)) fun v5 =>
   if ¬ (v5 = true) then
    some (.inr ((api_Capture.mk 0 ([] : List Int) ([] : List Int) ([] : List Int) ([] : List api_Write)), (api_Cycle.mk 0 0 0 ([] : List Int) ([] : List api_Write)), 7))
   else
    Option.bind (image_Fits_S v1.1 (ix x0.Writes v4)) fun v6 =>
    if ¬ (v6 = 0) then
     some (.inr ((api_Capture.mk 0 ([] : List Int) ([] : List Int) ([] : List Int) ([] : List api_Write)), (api_Cycle.mk 0 0 0 ([] : List Int) ([] : List api_Write)), v6))
    else
     if inI (v4 + 1) then
     some (.inl (v4 + 1))
     else none
   else none
   else none
   else none
  else
   Option.bind (cycle_in_S x1 0 1073741824) fun v7 =>
   if ¬ (v7 = true) then
    some (.inr ((api_Capture.mk 0 ([] : List Int) ([] : List Int) ([] : List Int) ([] : List api_Write)), (api_Cycle.mk 0 0 0 ([] : List Int) ([] : List api_Write)), 24))
   else
    if ¬ ((x2.length : Int) = (x0.Positions.length : Int)) then
     some (.inr ((api_Capture.mk 0 ([] : List Int) ([] : List Int) ([] : List Int) ([] : List api_Write)), (api_Cycle.mk 0 0 0 ([] : List Int) ([] : List api_Write)), 6))
    else
     if 0 ≤ (x2.length : Int) then
     if lenOk (x2.length : Int).toNat 8 then
     loopS (Z133 x0 x1 x2) 100000 (0, (List.replicate (x2.length : Int).toNat (0 : Int)))
     else none
     else none
theorem cycle_Close_L1_sound (x0 : api_Capture) (x1 : Int) (x2 : List Int) (v1 : List (List Sec) × Int) (s : Int) {Φ : api_Capture × api_Cycle × Int → Prop} {rec1 : (Int) → Prop} {o} (h : Z134 x0 x1 x2 v1 s = some o) (hK : (orK rec1 Φ) o) : Z42 x0 x1 x2 v1 Φ s rec1 := by
  unfold Z134 at h
  unfold Z42
  exact ifS h (fun h => adS h fun h => adS h fun h => adS h fun h => blS h fun _ hv h => cycle_in_sound _ _ _ hv (ifS h (fun h => have t := lfS h hK; t) fun h => blS h fun _ hv h => image_Fits_sound _ _ hv (ifS h (fun h => have t := lfS h hK; t) fun h => adS h fun h => have t := lfS h hK; t))) fun h => blS h fun _ hv h => cycle_in_sound _ _ _ hv (ifS h (fun h => have t := lfS h hK; t) fun h => ifS h (fun h => have t := lfS h hK; t) fun h => adS h fun h => adS h fun h => LoopW.of_S (fun s q rec hs hq => cycle_Close_L2_sound _ _ _ s hs hq) _ _ h hK)
def cycle_Close_S (x0 : api_Capture) (x1 : Int) (x2 : List Int) : Option (api_Capture × api_Cycle × Int) :=
 Option.bind (image_New_S x0.Sizes) fun v1 =>
 if ¬ (v1.2 = 0) then
  some (((api_Capture.mk 0 ([] : List Int) ([] : List Int) ([] : List Int) ([] : List api_Write)), (api_Cycle.mk 0 0 0 ([] : List Int) ([] : List api_Write)), v1.2))
 else
  Option.bind (cycle_in_S x0.Number 0 1073741823) fun v2 =>
  if ¬ (v2 = true) then
   some (((api_Capture.mk 0 ([] : List Int) ([] : List Int) ([] : List Int) ([] : List api_Write)), (api_Cycle.mk 0 0 0 ([] : List Int) ([] : List api_Write)), 2))
  else
   Option.bind (Z111 x0.Positions 1) fun v3 =>
   if ¬ (v3 = 0) then
    some (((api_Capture.mk 0 ([] : List Int) ([] : List Int) ([] : List Int) ([] : List api_Write)), (api_Cycle.mk 0 0 0 ([] : List Int) ([] : List api_Write)), v3))
   else
    if (x0.Nodes.length : Int) = (x0.Writes.length : Int) then
     if ¬ ((x0.Writes.length : Int) ≤ 4096) then
      some (((api_Capture.mk 0 ([] : List Int) ([] : List Int) ([] : List Int) ([] : List api_Write)), (api_Cycle.mk 0 0 0 ([] : List Int) ([] : List api_Write)), 6))
     else
      loopS (Z134 x0 x1 x2 v1) 100000 0
    else
     some (((api_Capture.mk 0 ([] : List Int) ([] : List Int) ([] : List Int) ([] : List api_Write)), (api_Cycle.mk 0 0 0 ([] : List Int) ([] : List api_Write)), 6))
theorem cycle_Close_sound (x0 : api_Capture) (x1 : Int) (x2 : List Int) {Φ : api_Capture × api_Cycle × Int → Prop} {o} (h : cycle_Close_S x0 x1 x2 = some o) (hK : Φ o) : cycle_Close_W x0 x1 x2 Φ := by
  unfold cycle_Close_S at h
  unfold cycle_Close_W
  exact blS h fun _ hv h => image_New_sound _ hv (ifS h (fun h => have t := lfS h hK; t) fun h => blS h fun _ hv h => cycle_in_sound _ _ _ hv (ifS h (fun h => have t := lfS h hK; t) fun h => blS h fun _ hv h => cycle_positions_sound _ _ hv (ifS h (fun h => have t := lfS h hK; t) fun h => ifS h (fun h => ifS h (fun h => have t := lfS h hK; t) fun h => LoopW.of_S (fun s q rec hs hq => cycle_Close_L1_sound _ _ _ _ s hs hq) _ _ h hK) fun h => have t := lfS h hK; t)))
def Z135 (x0 : List Sec) (x1 : List Sec) : (Int) → Option ((Int) ⊕ (Bool))
 | v1 =>
  if v1 < (x0.length : Int) then
   if inX v1 x0.length then
   if inX v1 x1.length then
   if (ix x0 v1) ≠ (ix x1 v1) then
    some (.inr false)
   else
    if inI (v1 + 1) then
    some (.inl (v1 + 1))
    else none
   else none
   else none
  else
   some (.inr true)
theorem ref03_SameSectors_L1_sound (x0 : List Sec) (x1 : List Sec) (s : Int) {Φ : Bool → Prop} {rec1 : (Int) → Prop} {o} (h : Z135 x0 x1 s = some o) (hK : (orK rec1 Φ) o) : Z43 x0 x1 Φ s rec1 := by
  unfold Z135 at h
  unfold Z43
  exact ifS h (fun h => adS h fun h => adS h fun h => ifS h (fun h => have t := lfS h hK; t) fun h => adS h fun h => have t := lfS h hK; t) fun h => have t := lfS h hK; t
def Z136 (x0 : List Sec) (x1 : List Sec) : Option (Bool) :=
 if (x0.length : Int) ≠ (x1.length : Int) then
  some (false)
 else
  loopS (Z135 x0 x1) 100000 0
theorem ref03_SameSectors_sound (x0 : List Sec) (x1 : List Sec) {Φ : Bool → Prop} {o} (h : Z136 x0 x1 = some o) (hK : Φ o) : Z44 x0 x1 Φ := by
  unfold Z136 at h
  unfold Z44
  exact ifS h (fun h => have t := lfS h hK; t) fun h => LoopW.of_S (fun s q rec hs hq => ref03_SameSectors_L1_sound _ _ s hs hq) _ _ h hK
def Z137 (x0 : List api_Write) (x1 : List api_Write) : (Int) → Option ((Int) ⊕ (Bool))
 | v1 =>
  if v1 < (x0.length : Int) then
   if inX v1 x0.length then
   if inX v1 x1.length then
   if ((ix x0 v1).Volume) ≠ ((ix x1 v1).Volume) then
    some (.inr false)
   else
    if inX v1 x0.length then
    if inX v1 x1.length then
    if ((ix x0 v1).Start) ≠ ((ix x1 v1).Start) then
     some (.inr false)
    else
     if inX v1 x0.length then
     if inX v1 x1.length then
     Option.bind (Z136 ((ix x0 v1).Data) ((ix x1 v1).Data)) fun z =>
     let v2 : Bool × Unit := (z, ())
     if ¬ (v2.1 = true) then
      some (.inr false)
     else
      if inI (v1 + 1) then
      some (.inl (v1 + 1))
      else none
     else none
     else none
    else none
    else none
   else none
   else none
  else
   some (.inr true)
theorem ref03_SameWrites_L1_sound (x0 : List api_Write) (x1 : List api_Write) (s : Int) {Φ : Bool → Prop} {rec1 : (Int) → Prop} {o} (h : Z137 x0 x1 s = some o) (hK : (orK rec1 Φ) o) : Z45 x0 x1 Φ s rec1 := by
  unfold Z137 at h
  unfold Z45
  exact ifS h (fun h => adS h fun h => adS h fun h => ifS h (fun h => have t := lfS h hK; t) fun h => adS h fun h => adS h fun h => ifS h (fun h => have t := lfS h hK; t) fun h => adS h fun h => adS h fun h => blS h fun _ hv h => ⟨_, ref03_SameSectors_sound _ _ hv rfl, ifS h (fun h => have t := lfS h hK; t) fun h => adS h fun h => have t := lfS h hK; t⟩) fun h => have t := lfS h hK; t
def Z138 (x0 : List api_Write) (x1 : List api_Write) : Option (Bool) :=
 if (x0.length : Int) ≠ (x1.length : Int) then
  some (false)
 else
  loopS (Z137 x0 x1) 100000 0
theorem ref03_SameWrites_sound (x0 : List api_Write) (x1 : List api_Write) {Φ : Bool → Prop} {o} (h : Z138 x0 x1 = some o) (hK : Φ o) : Z46 x0 x1 Φ := by
  unfold Z138 at h
  unfold Z46
  exact ifS h (fun h => have t := lfS h hK; t) fun h => LoopW.of_S (fun s q rec hs hq => ref03_SameWrites_L1_sound _ _ s hs hq) _ _ h hK
def ref22_Same_S (x0 : List api_Write) (x1 : List api_Write) : Option (Bool) :=
 Option.bind (Z138 x0 x1) fun v1 =>
 some (v1)
theorem ref22_Same_sound (x0 : List api_Write) (x1 : List api_Write) {Φ : Bool → Prop} {o} (h : ref22_Same_S x0 x1 = some o) (hK : Φ o) : ref22_Same_W x0 x1 Φ := by
  unfold ref22_Same_S at h
  unfold ref22_Same_W
  exact blS h fun _ hv h => ref03_SameWrites_sound _ _ hv (have t := lfS h hK; t)
def Z139 (x0 : BitVec 64) (x1 : BitVec 64) : Option (BitVec 64 × BitVec 64) :=
 some ((((((x0 >>> ((32#64).toNat : Int).toNat) * (x1 >>> ((32#64).toNat : Int).toNat)) + ((((x0 >>> ((32#64).toNat : Int).toNat) * (x1 &&& (4294967295#64))) + (((x0 &&& (4294967295#64)) * (x1 &&& (4294967295#64))) >>> ((32#64).toNat : Int).toNat)) >>> ((32#64).toNat : Int).toNat)) + ((((((x0 >>> ((32#64).toNat : Int).toNat) * (x1 &&& (4294967295#64))) + (((x0 &&& (4294967295#64)) * (x1 &&& (4294967295#64))) >>> ((32#64).toNat : Int).toNat)) &&& (4294967295#64)) + ((x0 &&& (4294967295#64)) * (x1 >>> ((32#64).toNat : Int).toNat))) >>> ((32#64).toNat : Int).toNat)), (x0 * x1)))
theorem math_bits_Mul64_sound (x0 : BitVec 64) (x1 : BitVec 64) {Φ : BitVec 64 × BitVec 64 → Prop} {o} (h : Z139 x0 x1 = some o) (hK : Φ o) : Z47 x0 x1 Φ := by
  unfold Z139 at h
  unfold Z47
  exact have t := lfS h hK; t
def Z140 (x0 : BitVec 64) (x1 : BitVec 64) : Option (BitVec 64 × BitVec 64) :=
 Option.bind (Z139 x0 x1) fun v1 =>
 some ((v1.1, v1.2))
theorem math_bits_Mul_sound (x0 : BitVec 64) (x1 : BitVec 64) {Φ : BitVec 64 × BitVec 64 → Prop} {o} (h : Z140 x0 x1 = some o) (hK : Φ o) : Z48 x0 x1 Φ := by
  unfold Z140 at h
  unfold Z48
  exact blS h fun _ hv h => math_bits_Mul64_sound _ _ hv (have t := lfS h hK; t)
def Z141 : (Int × List Int) → Option ((Int × List Int) ⊕ (List Int))
 | (v3, v4) =>
  if v3 < (v4.length : Int) then
   if inS v3 (v4.length : Int) v4.length then
   if inS 0 v3 v4.length then
   if inI (v3 + ((min (sub v4 0 v3).length (v4.length - (v3 : Int).toNat) : Nat) : Int)) then
   some (.inl ((v3 + ((min (sub v4 0 v3).length (v4.length - (v3 : Int).toNat) : Nat) : Int)), (paste v4 v3 (sub v4 0 v3))))
   else none
   else none
   else none
  else
   some (.inr v4)
theorem slices_Repeat_int_int_L2_sound (s : Int × List Int) {Φ : List Int → Prop} {rec2 : (Int × List Int) → Prop} {o} (h : Z141 s = some o) (hK : (orK rec2 Φ) o) : Z49 Φ s rec2 := by
  obtain ⟨v3, v4⟩ := s
  unfold Z141 at h
  unfold Z49
  exact ifS h (fun h => adS h fun h => adS h fun h => adS h fun h => have t := lfS h hK; t) fun h => have t := lfS h hK; t
def Z142 (x0 : List Int) (v1 : BitVec 64 × BitVec 64) : (Bool) → Option (List Int)
 | v2 =>
  if v2 = true then
   none
  else
   if 0 ≤ v1.2.toInt then
   if lenOk v1.2.toInt.toNat 8 then
   loopS (Z141) 100000 (((min x0.length ((List.replicate v1.2.toInt.toNat (0 : Int)).length - (0 : Int).toNat) : Nat) : Int), (paste (List.replicate v1.2.toInt.toNat (0 : Int)) 0 x0))
   else none
   else none
theorem slices_Repeat_int_int_J1_sound (x0 : List Int) (v1 : BitVec 64 × BitVec 64) (s : Bool) {Φ : List Int → Prop} {o} (h : Z142 x0 v1 s = some o) (hK : Φ o) : Z50 x0 v1 Φ s := by
  unfold Z142 at h
  unfold Z50
  exact ifS h (fun h => (by cases h)) fun h => adS h fun h => adS h fun h => LoopW.of_S (fun s q rec hs hq => slices_Repeat_int_int_L2_sound s hs hq) _ _ h hK
def Z143 (x0 : List Int) (x1 : Int) : Option (List Int) :=
 if x1 < 0 then
  none
 else
  Option.bind (Z140 (BitVec.ofInt 64 (x0.length : Int)) (BitVec.ofInt 64 x1)) fun v1 =>
  if (0#64) < v1.1 then
   Z142 x0 v1 true
  else
   Z142 x0 v1 (decide ((9223372036854775807#64) < v1.2))
theorem slices_Repeat_int_int_sound (x0 : List Int) (x1 : Int) {Φ : List Int → Prop} {o} (h : Z143 x0 x1 = some o) (hK : Φ o) : Z51 x0 x1 Φ := by
  unfold Z143 at h
  unfold Z51
  exact ifS h (fun h => (by cases h)) fun h => blS h fun _ hv h => math_bits_Mul_sound _ _ hv (ifS h (fun h => slices_Repeat_int_int_J1_sound _ _ _ h hK) fun h => slices_Repeat_int_int_J1_sound _ _ _ h hK)
def Z144 : Option (List Int) :=
 Option.bind (Z143 ([4096] : List Int) 8) fun v1 =>
 some (v1)
theorem cycle_largest_sound {Φ : List Int → Prop} {o} (h : Z144 = some o) (hK : Φ o) : Z52 Φ := by
  unfold Z144 at h
  unfold Z52
  exact blS h fun _ hv h => slices_Repeat_int_int_sound _ _ hv (have t := lfS h hK; t)
def Z145 (x0 : List api_Write) (v1 : List (List Sec) × Int) : (Int) → Option ((Int) ⊕ (Int))
 | v2 =>
  if v2 < (x0.length : Int) then
   if inX v2 x0.length then
   Option.bind (image_Fits_S v1.1 (ix x0 v2)) fun v3 =>
   if v3 ≠ 0 then
    some (.inr v3)
   else
    if v2 = 0 then
     if inI (v2 + 1) then
     some (.inl (v2 + 1))
     else none
    else
     if inI (v2 - 1) then
     if inX (v2 - 1) x0.length then
     if ((ix x0 v2).Volume) < ((ix x0 (v2 - 1)).Volume) then
      some (.inr 3)
     else
      if ((ix x0 v2).Volume) = ((ix x0 (v2 - 1)).Volume) then
       if inI (((ix x0 (v2 - 1)).Start) + (((ix x0 (v2 - 1)).Data).length : Int)) then
       if ((ix x0 v2).Start) ≤ (((ix x0 (v2 - 1)).Start) + (((ix x0 (v2 - 1)).Data).length : Int)) then
        some (.inr 3)
       else
        if inI (v2 + 1) then
        some (.inl (v2 + 1))
        else none
       else none
      else
       if inI (v2 + 1) then
       some (.inl (v2 + 1))
       else none
     else none
     else none
   else none
  else
   some (.inr 0)
theorem coalesce_Check_L1_sound (x0 : List api_Write) (v1 : List (List Sec) × Int) (s : Int) {Φ : Int → Prop} {rec1 : (Int) → Prop} {o} (h : Z145 x0 v1 s = some o) (hK : (orK rec1 Φ) o) : Z53 x0 v1 Φ s rec1 := by
  unfold Z145 at h
  unfold Z53
  exact ifS h (fun h => adS h fun h => blS h fun _ hv h => image_Fits_sound _ _ hv (ifS h (fun h => have t := lfS h hK; t) fun h => ifS h (fun h => adS h fun h => have t := lfS h hK; t) fun h => adS h fun h => adS h fun h => ifS h (fun h => have t := lfS h hK; t) fun h => ifS h (fun h => adS h fun h => ifS h (fun h => have t := lfS h hK; t) fun h => adS h fun h => have t := lfS h hK; t) fun h => adS h fun h => have t := lfS h hK; t)) fun h => have t := lfS h hK; t
def Z146 (x0 : List api_Write) (x1 : List Int) : Option (Int) :=
 Option.bind (image_New_S x1) fun v1 =>
 if v1.2 ≠ 0 then
  some (v1.2)
 else
  loopS (Z145 x0 v1) 100000 0
theorem coalesce_Check_sound (x0 : List api_Write) (x1 : List Int) {Φ : Int → Prop} {o} (h : Z146 x0 x1 = some o) (hK : Φ o) : Z54 x0 x1 Φ := by
  unfold Z146 at h
  unfold Z54
  exact blS h fun _ hv h => image_New_sound _ hv (ifS h (fun h => have t := lfS h hK; t) fun h => LoopW.of_S (fun s q rec hs hq => coalesce_Check_L1_sound _ _ s hs hq) _ _ h hK)
def Z147 (x0 : api_Cycle) (x1 : List Int) : (Bool) → Option (Int)
 | v2 =>
  if v2 = true then
   some (2)
  else
   Option.bind (cycle_in_S x0.Time 0 1073741824) fun v3 =>
   if ¬ (v3 = true) then
    some (24)
   else
    Option.bind (Z111 x0.Positions 0) fun v4 =>
    if v4 ≠ 0 then
     some (v4)
    else
     Option.bind (Z146 x0.Writes x1) fun v5 =>
     some (v5)
theorem cycle_Check_J1_sound (x0 : api_Cycle) (x1 : List Int) (s : Bool) {Φ : Int → Prop} {o} (h : Z147 x0 x1 s = some o) (hK : Φ o) : Z55 x0 x1 Φ s := by
  unfold Z147 at h
  unfold Z55
  exact ifS h (fun h => have t := lfS h hK; t) fun h => blS h fun _ hv h => cycle_in_sound _ _ _ hv (ifS h (fun h => have t := lfS h hK; t) fun h => blS h fun _ hv h => cycle_positions_sound _ _ hv (ifS h (fun h => have t := lfS h hK; t) fun h => blS h fun _ hv h => coalesce_Check_sound _ _ hv (have t := lfS h hK; t)))
def cycle_Check_S (x0 : api_Cycle) (x1 : List Int) : Option (Int) :=
 Option.bind (image_New_S x1) fun v1 =>
 if v1.2 ≠ 0 then
  some (v1.2)
 else
  if x0.Base < 0 then
   Z147 x0 x1 true
  else
   if x0.Number ≤ x0.Base then
    Z147 x0 x1 true
   else
    Z147 x0 x1 (decide (1073741824 < x0.Number))
theorem cycle_Check_sound (x0 : api_Cycle) (x1 : List Int) {Φ : Int → Prop} {o} (h : cycle_Check_S x0 x1 = some o) (hK : Φ o) : cycle_Check_W x0 x1 Φ := by
  unfold cycle_Check_S at h
  unfold cycle_Check_W
  exact blS h fun _ hv h => image_New_sound _ hv (ifS h (fun h => have t := lfS h hK; t) fun h => ifS h (fun h => cycle_Check_J1_sound _ _ _ h hK) fun h => ifS h (fun h => cycle_Check_J1_sound _ _ _ h hK) fun h => cycle_Check_J1_sound _ _ _ h hK)
def Z148 (x0 : api_Cycle) (x1 : api_Cycle) : (Int) → Option ((Int) ⊕ ((Int) ⊕ (api_Cycle × Int)))
 | v4 =>
  if v4 < (x0.Positions.length : Int) then
   if inX v4 x0.Positions.length then
   if inX v4 x1.Positions.length then
   if (ix x1.Positions v4) < (ix x0.Positions v4) then
    some (.inr (.inr ((api_Cycle.mk 0 0 0 ([] : List Int) ([] : List api_Write)), 2)))
   else
    if inI (v4 + 1) then
    some (.inl (v4 + 1))
    else none
   else none
   else none
  else
   Option.bind (Z102 x0.Writes x1.Writes) fun v5 =>
   if v5.2 ≠ 0 then
    some (.inr (.inr ((api_Cycle.mk 0 0 0 ([] : List Int) ([] : List api_Write)), v5.2)))
   else
    Option.bind (Z107 x1.Positions) fun z =>
    let v6 : List Int × Unit := (z, ())
    some (.inr (.inr ((api_Cycle.mk x0.Base x1.Number x1.Time v6.1 v5.1), 0)))
theorem cycle_Compose_L2_sound (x0 : api_Cycle) (x1 : api_Cycle) (s : Int) {Φ : api_Cycle × Int → Prop} {rec1 : (Int) → Prop} {rec2 : (Int) → Prop} {o} (h : Z148 x0 x1 s = some o) (hK : (orK rec2 (orK rec1 Φ)) o) : Z69 x0 x1 Φ s rec2 := by
  unfold Z148 at h
  unfold Z69
  exact ifS h (fun h => adS h fun h => adS h fun h => ifS h (fun h => have t := lfS h hK; t) fun h => adS h fun h => have t := lfS h hK; t) fun h => blS h fun _ hv h => coalesce_Merge_sound _ _ hv (ifS h (fun h => have t := lfS h hK; t) fun h => blS h fun _ hv h => ⟨_, slices_Clone_int_int_sound _ hv rfl, have t := lfS h hK; t⟩)
def Z149 (x0 : api_Cycle) (x1 : api_Cycle) : (Int) → Option ((Int) ⊕ (api_Cycle × Int))
 | v1 =>
  if v1 < (([x0, x1] : List api_Cycle).length : Int) then
   if inX v1 ([x0, x1] : List api_Cycle).length then
   Option.bind (Z144) fun z =>
   let v2 : List Int × Unit := (z, ())
   Option.bind (cycle_Check_S (ix ([x0, x1] : List api_Cycle) v1) v2.1) fun z =>
   let v3 : Int × Unit := (z, ())
   if v3.1 ≠ 0 then
    some (.inr ((api_Cycle.mk 0 0 0 ([] : List Int) ([] : List api_Write)), v3.1))
   else
    if inI (v1 + 1) then
    some (.inl (v1 + 1))
    else none
   else none
  else
   if x1.Base ≠ x0.Number then
    some (.inr ((api_Cycle.mk 0 0 0 ([] : List Int) ([] : List api_Write)), 15))
   else
    if (x0.Positions.length : Int) ≠ (x1.Positions.length : Int) then
     some (.inr ((api_Cycle.mk 0 0 0 ([] : List Int) ([] : List api_Write)), 6))
    else
     if x1.Time < x0.Time then
      some (.inr ((api_Cycle.mk 0 0 0 ([] : List Int) ([] : List api_Write)), 24))
     else
      loopS (Z148 x0 x1) 100000 0
theorem cycle_Compose_L1_sound (x0 : api_Cycle) (x1 : api_Cycle) (s : Int) {Φ : api_Cycle × Int → Prop} {rec1 : (Int) → Prop} {o} (h : Z149 x0 x1 s = some o) (hK : (orK rec1 Φ) o) : Z70 x0 x1 Φ s rec1 := by
  unfold Z149 at h
  unfold Z70
  exact ifS h (fun h => adS h fun h => blS h fun _ hv h => ⟨_, cycle_largest_sound hv rfl, blS h fun _ hv h => ⟨_, cycle_Check_sound _ _ hv rfl, ifS h (fun h => have t := lfS h hK; t) fun h => adS h fun h => have t := lfS h hK; t⟩⟩) fun h => ifS h (fun h => have t := lfS h hK; t) fun h => ifS h (fun h => have t := lfS h hK; t) fun h => ifS h (fun h => have t := lfS h hK; t) fun h => LoopW.of_S (fun s q rec hs hq => cycle_Compose_L2_sound _ _ s hs hq) _ _ h hK
def Z150 (x0 : api_Cycle) (x1 : api_Cycle) : Option (api_Cycle × Int) :=
 loopS (Z149 x0 x1) 100000 0
theorem cycle_Compose_sound (x0 : api_Cycle) (x1 : api_Cycle) {Φ : api_Cycle × Int → Prop} {o} (h : Z150 x0 x1 = some o) (hK : Φ o) : Z71 x0 x1 Φ := by
  unfold Z150 at h
  unfold Z71
  exact LoopW.of_S (fun s q rec hs hq => cycle_Compose_L1_sound _ _ s hs hq) _ _ h hK
def Z151 (v8 : api_Capture × api_Cycle × Int) : (Unit) → Option (Bool)
 | _ =>
  Option.bind (cycle_Close_S v8.1 6 ([2, 1] : List Int)) fun v9 =>
  Option.bind (Z150 v8.2.1 v9.2.1) fun v10 =>
  Option.bind (law23_write_S 0 1 ([98#8, 99#8] : List (BitVec 8))) fun v11 =>
  if v9.2.2 = 0 then
   if v10.2 = 0 then
    Option.bind (ref22_Same_S v9.2.1.Writes ([v11] : List api_Write)) fun v12 =>
    if v12 = true then
     if v10.1.Base = 0 then
      if v10.1.Number = 2 then
       Option.bind (ref22_Same_S v10.1.Writes ([v11] : List api_Write)) fun v13 =>
       some (v13)
      else
       some (false)
     else
      some (false)
    else
     some (false)
   else
    some (false)
  else
   some (false)
theorem law23_awake_J1_sound (v8 : api_Capture × api_Cycle × Int) (s : Unit) {Φ : Bool → Prop} {o} (h : Z151 v8 s = some o) (hK : Φ o) : Z72 v8 Φ s := by
  unfold Z151 at h
  unfold Z72
  exact blS h fun _ hv h => cycle_Close_sound _ _ _ hv (blS h fun _ hv h => cycle_Compose_sound _ _ hv (blS h fun _ hv h => law23_write_sound _ _ _ hv (ifS h (fun h => ifS h (fun h => blS h fun _ hv h => ref22_Same_sound _ _ hv (ifS h (fun h => ifS h (fun h => ifS h (fun h => blS h fun _ hv h => ref22_Same_sound _ _ hv (have t := lfS h hK; t)) fun h => have t := lfS h hK; t) fun h => have t := lfS h hK; t) fun h => have t := lfS h hK; t)) fun h => have t := lfS h hK; t) fun h => have t := lfS h hK; t)))
def law23_awake_S : Option (Bool) :=
 Option.bind (cycle_Open_S ([4] : List Int) 2 0) fun v1 =>
 Option.bind (law23_write_S 0 1 ([97#8] : List (BitVec 8))) fun z =>
 let v2 : api_Write × Unit := (z, ())
 Option.bind (cycle_Add_S v1.1 0 v2.1) fun z =>
 let v3 : api_Capture × Int × Unit := (z.1, z.2, ())
 Option.bind (law23_write_S 0 1 ([98#8] : List (BitVec 8))) fun z =>
 let v4 : api_Write × Unit := (z, ())
 Option.bind (cycle_Add_S v3.1 1 v4.1) fun z =>
 let v5 : api_Capture × Int × Unit := (z.1, z.2, ())
 Option.bind (law23_write_S 0 2 ([99#8] : List (BitVec 8))) fun z =>
 let v6 : api_Write × Unit := (z, ())
 Option.bind (cycle_Add_S v5.1 0 v6.1) fun z =>
 let v7 : api_Capture × Int × Unit := (z.1, z.2, ())
 Option.bind (cycle_Close_S v7.1 5 ([0, 1] : List Int)) fun v8 =>
 if inI (v1.2 + v3.2.1) then
 if inI ((v1.2 + v3.2.1) + v5.2.1) then
 if inI (((v1.2 + v3.2.1) + v5.2.1) + v7.2.1) then
 if inI ((((v1.2 + v3.2.1) + v5.2.1) + v7.2.1) + v8.2.2) then
 if ((((v1.2 + v3.2.1) + v5.2.1) + v7.2.1) + v8.2.2) ≠ 0 then
  some (false)
 else
  if v8.2.1.Base ≠ 0 then
   some (false)
  else
   if v8.2.1.Number ≠ 1 then
    some (false)
   else
    Option.bind (law23_write_S 0 1 ([98#8] : List (BitVec 8))) fun z =>
    let v14 : api_Write × Unit := (z, ())
    Option.bind (ref22_Same_S v8.2.1.Writes ([v14.1] : List api_Write)) fun z =>
    let v15 : Bool × Unit := (z, ())
    if ¬ (v15.1 = true) then
     some (false)
    else
     Option.bind (law23_write_S 0 1 ([98#8] : List (BitVec 8))) fun z =>
     let v16 : api_Write × Unit := (z, ())
     Option.bind (law23_write_S 0 2 ([99#8] : List (BitVec 8))) fun z =>
     let v17 : api_Write × Unit := (z, ())
     Option.bind (ref22_Same_S v8.1.Writes ([v16.1, v17.1] : List api_Write)) fun z =>
     let v18 : Bool × Unit := (z, ())
     if ¬ (v18.1 = true) then
      some (false)
     else
      Z151 v8 ()
 else none
 else none
 else none
 else none
theorem law23_awake_sound {Φ : Bool → Prop} {o} (h : law23_awake_S = some o) (hK : Φ o) : law23_awake_W Φ := by
  unfold law23_awake_S at h
  unfold law23_awake_W
  exact blS h fun _ hv h => cycle_Open_sound _ _ _ hv (blS h fun _ hv h => ⟨_, law23_write_sound _ _ _ hv rfl, blS h fun _ hv h => ⟨_, cycle_Add_sound _ _ _ hv rfl, blS h fun _ hv h => ⟨_, law23_write_sound _ _ _ hv rfl, blS h fun _ hv h => ⟨_, cycle_Add_sound _ _ _ hv rfl, blS h fun _ hv h => ⟨_, law23_write_sound _ _ _ hv rfl, blS h fun _ hv h => ⟨_, cycle_Add_sound _ _ _ hv rfl, blS h fun _ hv h => cycle_Close_sound _ _ _ hv (adS h fun h => adS h fun h => adS h fun h => adS h fun h => ifS h (fun h => have t := lfS h hK; t) fun h => ifS h (fun h => have t := lfS h hK; t) fun h => ifS h (fun h => have t := lfS h hK; t) fun h => blS h fun _ hv h => ⟨_, law23_write_sound _ _ _ hv rfl, blS h fun _ hv h => ⟨_, ref22_Same_sound _ _ hv rfl, ifS h (fun h => have t := lfS h hK; t) fun h => blS h fun _ hv h => ⟨_, law23_write_sound _ _ _ hv rfl, blS h fun _ hv h => ⟨_, law23_write_sound _ _ _ hv rfl, blS h fun _ hv h => ⟨_, ref22_Same_sound _ _ hv rfl, ifS h (fun h => have t := lfS h hK; t) fun h => law23_awake_J1_sound _ _ h hK⟩⟩⟩⟩⟩)⟩⟩⟩⟩⟩⟩)
theorem law23_awake_ok {Φ : Bool → Prop} (h : Φ true) : law23_awake_W Φ := law23_awake_sound (o := true) (by kernel_rfl) h
def mostL : List Int := List.replicate 8 4096
def cyc0 : api_Cycle := ⟨0, 0, 0, [], []⟩
theorem most_sizes : sizesE mostL = 0 := by decide
theorem secN_bound {c : Nat} : ∀ l : List api_Write, (∀ w ∈ l, w.Data.length ≤ c) → secN l ≤ l.length * c
  | [], _ => Nat.zero_le _
  | w :: l, h => by
    have h1 := secN_bound l fun x hx => h x (List.mem_cons_of_mem _ hx)
    have h2 := h w (List.mem_cons_self ..)
    have : secN (w :: l) = w.Data.length + secN l := by simp [secN]
    rw [this, List.length_cons, Nat.succ_mul]; omega
theorem secN_each {l : List api_Write} : ∀ w ∈ l, w.Data.length ≤ secN l := fun w hw => by
  obtain ⟨a, b, rfl⟩ := List.append_of_mem hw
  rw [secN_append, show w :: b = [w] ++ b from rfl, secN_append, secN_one]; omega
theorem can_len {m : List (coalesce_place × Sec)} {ws : List api_Write} (c : Can m ws) : ws.length ≤ m.length := by
  rw [← c.sum]
  have : ∀ l : List api_Write, (∀ w ∈ l, 0 < w.Data.length) → l.length ≤ secN l := by
    intro l
    induction l with
    | nil => intro _; exact Nat.zero_le _
    | cons w l ih =>
      intro h
      have h1 := ih fun x hx => h x (List.mem_cons_of_mem _ hx)
      have h2 := h w (List.mem_cons_self ..)
      have : secN (w :: l) = w.Data.length + secN l := by simp [secN]
      rw [this, List.length_cons]; omega
  exact this ws c.ne
structure Can0 (m : List (coalesce_place × Sec)) (ws : List api_Write) : Prop where
  ne : ∀ w ∈ ws, 0 < w.Data.length
  gap : ws.Pairwise gapW
  mem : ∀ w ∈ ws, ∀ j : Nat, j < w.Data.length → mfind m ⟨w.Volume, w.Start + (j : Int)⟩ = some (ix w.Data (j : Int))
  cov : ∀ p d, mfind m p = some d → ∃ w ∈ ws, w.Volume = p.volume ∧ w.Start ≤ p.sector ∧ p.sector < w.Start + (w.Data.length : Int)
theorem Can.to0 {m : List (coalesce_place × Sec)} {ws : List api_Write} (c : Can m ws) : Can0 m ws := ⟨c.ne, c.gap, c.mem, c.cov⟩
def CvW (ws : List api_Write) (p : coalesce_place) (d : Sec) : Prop := ∃ w ∈ ws, ∃ j : Nat, j < w.Data.length ∧ p = ⟨w.Volume, w.Start + (j : Int)⟩ ∧ d = ix w.Data (j : Int)
theorem Can0.cv {m : List (coalesce_place × Sec)} {ws : List api_Write} (c : Can0 m ws) (p : coalesce_place) (d : Sec) : CvW ws p d ↔ mfind m p = some d := by
  constructor
  · rintro ⟨w, hw, j, hj, rfl, rfl⟩; exact c.mem w hw j hj
  · intro h
    obtain ⟨w, hw, h1, h2, h3⟩ := c.cov p d h
    obtain ⟨j, hj⟩ := Int.eq_ofNat_of_zero_le (show 0 ≤ p.sector - w.Start by omega)
    have e : p = ⟨w.Volume, w.Start + (j : Int)⟩ := place_ext h1.symm (by show p.sector = w.Start + (j : Int); omega)
    have := c.mem w hw j (by omega)
    rw [← e, h] at this
    exact ⟨w, hw, j, by omega, e, Option.some.inj this⟩
theorem cv_first {w : api_Write} {r : List api_Write} (hg : (w :: r).Pairwise gapW) {p : coalesce_place} {d : Sec} (h : CvW (w :: r) p d) : w.Volume < p.volume ∨ w.Volume = p.volume ∧ w.Start ≤ p.sector := by
  obtain ⟨x, hx, j, hj, rfl, rfl⟩ := h
  show w.Volume < x.Volume ∨ w.Volume = x.Volume ∧ w.Start ≤ x.Start + (j : Int)
  rcases List.mem_cons.1 hx with rfl | hx
  · exact .inr ⟨rfl, by omega⟩
  · have := (List.pairwise_cons.1 hg).1 x hx
    unfold gapW at this
    omega
theorem cv_len {w w' : api_Write} {r r' : List api_Write} (hg : (w :: r).Pairwise gapW) (hv : w'.Volume = w.Volume) (hs : w'.Start = w.Start) (h : ∀ p d, CvW (w' :: r') p d → CvW (w :: r) p d) : w'.Data.length ≤ w.Data.length := by
  refine Nat.le_of_not_lt fun hlt => ?_
  obtain ⟨x, hx, j, hj, e, _⟩ := h ⟨w'.Volume, w'.Start + (w.Data.length : Int)⟩ _ ⟨w', List.mem_cons_self .., w.Data.length, hlt, rfl, rfl⟩
  have e1 : w'.Volume = x.Volume := congrArg coalesce_place.volume e
  have e2 : w'.Start + (w.Data.length : Int) = x.Start + (j : Int) := congrArg coalesce_place.sector e
  rcases List.mem_cons.1 hx with rfl | hx
  · omega
  · have := (List.pairwise_cons.1 hg).1 x hx
    unfold gapW at this
    omega
theorem cv_uniq : ∀ (a b : List api_Write), (∀ w ∈ a, 0 < w.Data.length) → a.Pairwise gapW → (∀ w ∈ b, 0 < w.Data.length) → b.Pairwise gapW → (∀ p d, CvW a p d ↔ CvW b p d) → a = b
  | [], [], _, _, _, _, _ => rfl
  | [], w :: r, _, _, nb, _, h => by
    obtain ⟨x, hx, _⟩ := (h _ _).2 ⟨w, List.mem_cons_self .., 0, nb w (List.mem_cons_self ..), rfl, rfl⟩
    exact absurd hx List.not_mem_nil
  | w :: r, [], na, _, _, _, h => by
    obtain ⟨x, hx, _⟩ := (h _ _).1 ⟨w, List.mem_cons_self .., 0, na w (List.mem_cons_self ..), rfl, rfl⟩
    exact absurd hx List.not_mem_nil
  | w :: r, w' :: r', na, ga, nb, gb, h => by
    have h1 := na w (List.mem_cons_self ..)
    have h2 := nb w' (List.mem_cons_self ..)
    have f1 := cv_first ga ((h _ _).2 ⟨w', List.mem_cons_self .., 0, h2, rfl, rfl⟩)
    have f2 := cv_first gb ((h _ _).1 ⟨w, List.mem_cons_self .., 0, h1, rfl, rfl⟩)
    simp only at f1 f2
    have hv : w'.Volume = w.Volume := by omega
    have hs : w'.Start = w.Start := by omega
    have hl : w'.Data.length = w.Data.length := Nat.le_antisymm (cv_len ga hv hs fun p d q => (h p d).2 q) (cv_len gb hv.symm hs.symm fun p d q => (h p d).1 q)
    have g1 := List.pairwise_cons.1 ga
    have g2 := List.pairwise_cons.1 gb
    have hd : w.Data = w'.Data := by
      refine ext_ix hl.symm fun j hj => ?_
      obtain ⟨x, hx, i, hi, e, ed⟩ := (h _ _).1 ⟨w, List.mem_cons_self .., j, hj, rfl, rfl⟩
      have e1 : w.Volume = x.Volume := congrArg coalesce_place.volume e
      have e2 : w.Start + (j : Int) = x.Start + (i : Int) := congrArg coalesce_place.sector e
      rcases List.mem_cons.1 hx with rfl | hx
      · obtain rfl : j = i := by omega
        exact ed
      · have := g2.1 x hx
        unfold gapW at this
        omega
    have hw : w = w' := by
      cases w; cases w'
      simp only at hv hs hd
      subst hv hs hd; rfl
    subst hw
    rw [cv_uniq r r' (fun x hx => na x (List.mem_cons_of_mem _ hx)) g1.2 (fun x hx => nb x (List.mem_cons_of_mem _ hx)) g2.2 fun p d => ?_]
    have one : ∀ {s t : List api_Write}, (∀ x ∈ s, gapW w x) → (∀ p d, CvW (w :: s) p d → CvW (w :: t) p d) → CvW s p d → CvW t p d := fun {s t} gs hst hc => by
      obtain ⟨x, hx, i, hi, e, ed⟩ := hc
      obtain ⟨y, hy, k, hk, e', ed'⟩ := hst p d ⟨x, List.mem_cons_of_mem _ hx, i, hi, e, ed⟩
      rcases List.mem_cons.1 hy with rfl | hy
      · rw [e] at e'
        have e1 : x.Volume = y.Volume := congrArg coalesce_place.volume e'
        have e2 : x.Start + (i : Int) = y.Start + (k : Int) := congrArg coalesce_place.sector e'
        have := gs x hx
        unfold gapW at this
        omega
      · exact ⟨y, hy, k, hk, e', ed'⟩
    exact ⟨one g1.1 fun p d q => (h p d).1 q, one g2.1 fun p d q => (h p d).2 q⟩
theorem Can0.uniq {m : List (coalesce_place × Sec)} {a b : List api_Write} (ca : Can0 m a) (cb : Can0 m b) : a = b :=
  cv_uniq a b ca.ne ca.gap cb.ne cb.gap fun p d => (ca.cv p d).trans (cb.cv p d).symm
theorem PlL.at {l : List api_Write} (hp : PlL l) {k : Nat} (hk : k < l.length) : 0 ≤ (ix l (k : Int)).Volume ∧ (ix l (k : Int)).Volume < 8 ∧ 0 < (ix l (k : Int)).Data.length ∧ 0 ≤ (ix l (k : Int)).Start ∧ (ix l (k : Int)).Start + ((ix l (k : Int)).Data.length : Int) ≤ 4096 := placed0 (hp _ (ix_mem (iX (by omega) (by omega))))
theorem eff_take {l : List api_Write} {k : Nat} (hk : k < l.length) (q : coalesce_place) : mfind (effM (l.take (k + 1))) q = if q.volume = (ix l (k : Int)).Volume ∧ (ix l (k : Int)).Start ≤ q.sector ∧ q.sector < (ix l (k : Int)).Start + ((ix l (k : Int)).Data.length : Int) then some (ix (ix l (k : Int)).Data (q.sector - (ix l (k : Int)).Start)) else mfind (effM (l.take k)) q := by
  rw [take_ix hk, effM_snoc, wrM_find]
theorem ref22_holds_ok {w : api_Write} {v s : Int} {Φ : Int × Bool → Prop} (hw : 0 < w.Data.length ∧ 0 ≤ w.Start ∧ w.Start ≤ 4096) (hd : w.Data.length ≤ 1000000) (hs : 0 ≤ s ∧ s ≤ 1000000) (h1 : v = w.Volume ∧ w.Start ≤ s ∧ s < w.Start + (w.Data.length : Int) → Φ (s - w.Start, true)) (h0 : ¬ (v = w.Volume ∧ w.Start ≤ s ∧ s < w.Start + (w.Data.length : Int)) → ∀ n, Φ (n, false)) : ref22_holds_W w v s Φ := by
  refine ⟨fun q => ⟨fun _ => h0 (fun t => q t.1.symm) 0, fun r => absurd rfl r⟩, fun q => ⟨fun r => by omega, fun r => ?_⟩⟩
  by_cases hh : s < w.Start
  · rw [decide_eq_true hh]; exact ⟨fun _ => h0 (by omega) 0, fun r => absurd rfl r⟩
  · rw [decide_eq_false hh]
    refine ⟨fun r => Bool.noConfusion r, fun _ => ⟨fun r => by omega, fun _ => ⟨fun r => Bool.noConfusion r, fun _ => ⟨iI (by omega) (by omega), ?_⟩⟩⟩⟩
    by_cases hc : s - w.Start < (w.Data.length : Int)
    · rw [decide_eq_true hc]; exact h1 ⟨by have := Classical.not_not.1 q; exact this.symm, by omega, by omega⟩
    · rw [decide_eq_false hc]; exact h0 (by omega) _
theorem ref22_Lookup_ok {l : List api_Write} {v s : Int} {Φ : Sec × Bool → Prop} (hl : l.length ≤ 1000000) (hp : PlL l) (hs : 0 ≤ s ∧ s ≤ 1000000) (hΦ : Φ (mget (effM l) ⟨v, s⟩ sec0, mhas (effM l) ⟨v, s⟩)) : Z82 l v s Φ := by
  refine ⟨iI (by omega) (by omega), ?_⟩
  refine LoopW.of_inv (fun i => ∃ k : Nat, i = (k : Int) - 1 ∧ k ≤ l.length ∧ mfind (effM l) ⟨v, s⟩ = mfind (effM (l.take k)) ⟨v, s⟩) (fun i => (i + 1).toNat) ?_ ⟨l.length, rfl, Nat.le_refl _, by rw [take_all]⟩
  rintro _ rec ⟨k, rfl, hk, he⟩ hrec
  cases k with
  | zero =>
    refine ⟨fun q => by omega, fun _ => ?_⟩
    have e : mfind (effM l) ⟨v, s⟩ = none := he
    unfold mget mhas at hΦ
    rw [e] at hΦ
    exact hΦ
  | succ k =>
    rw [show ((k + 1 : Nat) : Int) - 1 = (k : Int) by omega]
    have hw := hp.at (show k < l.length by omega)
    rw [eff_take (by omega)] at he
    refine ⟨fun _ => ⟨iX (by omega) (by omega), ref22_holds_ok (by omega) (by omega) hs (fun c => ?_) fun c n => ?_⟩, fun q => by omega⟩
    · rw [if_pos c] at he
      refine ⟨fun _ => ⟨iX (by omega) (by omega), iX (by show 0 ≤ s - _; omega) (by show s - _ < _; omega), ?_⟩, fun q => absurd rfl q⟩
      unfold mget mhas at hΦ
      rw [he] at hΦ
      exact hΦ
    · rw [if_neg c] at he
      refine ⟨fun q => Bool.noConfusion q, fun _ => ⟨iI (by omega) (by omega), hrec _ ⟨k, rfl, by omega, he⟩ ?_⟩⟩
      omega
def extsL (p : Nat → Bool) : Nat → List api_Extent
  | 0 => []
  | k + 1 => if p k = false then extsL p k else if 0 < k ∧ p (k - 1) = true then put (extsL p k) (((extsL p k).length : Int) - 1) ⟨(ix (extsL p k) (((extsL p k).length : Int) - 1)).Start, (ix (extsL p k) (((extsL p k).length : Int) - 1)).Count + 1⟩ else extsL p k ++ [⟨(k : Int), 1⟩]
theorem put_last {α : Type} [Dt α] (xs : List α) (x y : α) : put (xs ++ [x]) (((xs ++ [x]).length : Int) - 1) y = xs ++ [y] := by
  have e : (((xs ++ [x]).length : Nat) : Int) - 1 = (xs.length : Int) := by rw [len_snoc]; omega
  rw [e]
  show (xs ++ [x]).set xs.length _ = _
  rw [List.set_append_right _ _ (Nat.le_refl _), Nat.sub_self]; rfl
theorem ix_last {α : Type} [Dt α] (xs : List α) (x : α) : ix (xs ++ [x]) (((xs ++ [x]).length : Int) - 1) = x := by
  have e : (((xs ++ [x]).length : Nat) : Int) - 1 = (xs.length : Int) := by rw [len_snoc]; omega
  rw [e, ix_snoc _ _ _ (by rw [len_snoc]; omega), if_pos rfl]
structure ExtP (p : Nat → Bool) (k : Nat) (E : List api_Extent) : Prop where
  ne : ∀ e ∈ E, 0 ≤ e.Start ∧ 0 < e.Count
  gap : E.Pairwise fun e f => e.Start + e.Count < f.Start
  cov : ∀ i : Nat, (i < k ∧ p i = true) ↔ ∃ e ∈ E, e.Start ≤ (i : Int) ∧ (i : Int) < e.Start + e.Count
  top : ∀ e ∈ E, e.Start + e.Count ≤ (k : Int)
  last : 0 < k → p (k - 1) = true → ∃ F e, E = F ++ [e] ∧ e.Start + e.Count = (k : Int)
  len : E.length ≤ k
theorem ExtP.below {p : Nat → Bool} {k : Nat} {E : List api_Extent} (g : ExtP p k E) (h : ¬ (0 < k ∧ p (k - 1) = true)) : ∀ e ∈ E, e.Start + e.Count < (k : Int) := fun e he => by
  have h1 := g.ne e he
  have h2 := g.top e he
  by_cases q : e.Start + e.Count = (k : Int)
  · exact absurd ⟨by omega, ((g.cov (k - 1)).2 ⟨e, he, by omega, by omega⟩).2⟩ h
  · omega
theorem exts_ok (p : Nat → Bool) : ∀ k, ExtP p k (extsL p k)
  | 0 => ⟨fun e he => absurd he List.not_mem_nil, List.Pairwise.nil, fun i => ⟨fun h => absurd h.1 (Nat.not_lt_zero i), fun ⟨e, he, _⟩ => absurd he List.not_mem_nil⟩, fun e he => absurd he List.not_mem_nil, fun h => absurd h (Nat.lt_irrefl 0), Nat.le_refl _⟩
  | k + 1 => by
    have g := exts_ok p k
    unfold extsL
    by_cases h0 : p k = false
    · rw [if_pos h0]
      refine ⟨g.ne, g.gap, fun i => Iff.trans ⟨fun h => ⟨?_, h.2⟩, fun h => ⟨by omega, h.2⟩⟩ (g.cov i), fun e he => (by have := g.top e he; omega), fun _ h => (by rw [show k + 1 - 1 = k by omega, h0] at h; exact Bool.noConfusion h), (by have := g.len; omega)⟩
      have : i ≠ k := by rintro rfl; rw [h0] at h; exact Bool.noConfusion h.2
      omega
    · rw [if_neg h0]
      have h0 : p k = true := by cases hq : p k with
        | true => rfl
        | false => exact absurd hq h0
      by_cases h1 : 0 < k ∧ p (k - 1) = true
      · rw [if_pos h1]
        obtain ⟨F, e, hE, he⟩ := g.last h1.1 h1.2
        rw [hE, put_last, ix_last]
        rw [hE] at g
        have gp := List.pairwise_append.1 g.gap
        have ge := g.ne e (by simp)
        refine ⟨fun x hx => ?_, List.pairwise_append.2 ⟨gp.1, by simp, fun x hx y hy => ?_⟩, fun i => ?_, fun x hx => ?_, fun _ _ => ⟨F, _, rfl, by show e.Start + (e.Count + 1) = _; omega⟩, by have := g.len; rw [len_snoc] at *; omega⟩
        · rcases List.mem_append.1 hx with hx | hx
          · exact g.ne x (List.mem_append_left _ hx)
          · obtain rfl := List.mem_singleton.1 hx
            exact ⟨ge.1, by show 0 < e.Count + 1; omega⟩
        · obtain rfl := List.mem_singleton.1 hy
          exact gp.2.2 x hx e (by simp)
        · constructor
          · rintro ⟨h2, h3⟩
            by_cases hi : i = k
            · exact ⟨⟨e.Start, e.Count + 1⟩, by simp, by show e.Start ≤ _; omega, by show (i : Int) < e.Start + (e.Count + 1); omega⟩
            · obtain ⟨x, hx, h4, h5⟩ := (g.cov i).1 ⟨by omega, h3⟩
              rcases List.mem_append.1 hx with hx | hx
              · exact ⟨x, List.mem_append_left _ hx, h4, h5⟩
              · obtain rfl := List.mem_singleton.1 hx
                exact ⟨⟨x.Start, x.Count + 1⟩, by simp, h4, by show (i : Int) < x.Start + (x.Count + 1); omega⟩
          · rintro ⟨x, hx, h4, h5⟩
            rcases List.mem_append.1 hx with hx | hx
            · have := (g.cov i).2 ⟨x, List.mem_append_left _ hx, h4, h5⟩
              exact ⟨by omega, this.2⟩
            · obtain rfl := List.mem_singleton.1 hx
              have h4 : e.Start ≤ (i : Int) := h4
              have h5 : (i : Int) < e.Start + (e.Count + 1) := h5
              by_cases hi : i = k
              · rw [hi]; exact ⟨by omega, h0⟩
              · have := (g.cov i).2 ⟨e, by simp, h4, by omega⟩
                exact ⟨by omega, this.2⟩
        · rcases List.mem_append.1 hx with hx | hx
          · have := g.top x (List.mem_append_left _ hx); omega
          · obtain rfl := List.mem_singleton.1 hx
            show e.Start + (e.Count + 1) ≤ _; omega
      · rw [if_neg h1]
        have hb := g.below h1
        refine ⟨fun x hx => ?_, List.pairwise_append.2 ⟨g.gap, by simp, fun x hx y hy => ?_⟩, fun i => ?_, fun x hx => ?_, fun _ _ => ⟨_, _, rfl, by show (k : Int) + 1 = _; omega⟩, by have := g.len; rw [len_snoc]; omega⟩
        · rcases List.mem_append.1 hx with hx | hx
          · exact g.ne x hx
          · obtain rfl := List.mem_singleton.1 hx
            exact ⟨by show 0 ≤ (k : Int); omega, by show (0 : Int) < 1; omega⟩
        · obtain rfl := List.mem_singleton.1 hy
          exact hb x hx
        · constructor
          · rintro ⟨h2, h3⟩
            by_cases hi : i = k
            · exact ⟨⟨(k : Int), 1⟩, by simp, by show (k : Int) ≤ _; omega, by show (i : Int) < (k : Int) + 1; omega⟩
            · obtain ⟨x, hx, h4, h5⟩ := (g.cov i).1 ⟨by omega, h3⟩
              exact ⟨x, List.mem_append_left _ hx, h4, h5⟩
          · rintro ⟨x, hx, h4, h5⟩
            rcases List.mem_append.1 hx with hx | hx
            · have := (g.cov i).2 ⟨x, hx, h4, h5⟩
              exact ⟨by omega, this.2⟩
            · obtain rfl := List.mem_singleton.1 hx
              have h4 : (k : Int) ≤ (i : Int) := h4
              have h5 : (i : Int) < (k : Int) + 1 := h5
              obtain rfl : i = k := by omega
              exact ⟨by omega, h0⟩
        · rcases List.mem_append.1 hx with hx | hx
          · have := g.top x hx; omega
          · obtain rfl := List.mem_singleton.1 hx
            show (k : Int) + 1 ≤ _; omega
theorem extsL_succ (p : Nat → Bool) (k : Nat) : extsL p (k + 1) = if p k = false then extsL p k else if 0 < k ∧ p (k - 1) = true then put (extsL p k) (((extsL p k).length : Int) - 1) ⟨(ix (extsL p k) (((extsL p k).length : Int) - 1)).Start, (ix (extsL p k) (((extsL p k).length : Int) - 1)).Count + 1⟩ else extsL p k ++ [⟨(k : Int), 1⟩] := rfl
theorem pairE {α β : Type} {a a' : α} {b b' : β} (h1 : a = a') (h2 : b = b') : (a, b) = (a', b') := by rw [h1, h2]
def marksL (p : Nat → Bool) (n : Nat) : List Bool := (List.range n).map p
theorem marks_len (p : Nat → Bool) (n : Nat) : (marksL p n).length = n := by unfold marksL; rw [List.length_map, List.length_range]
theorem ix_marks {p : Nat → Bool} {n i : Nat} (h : i < n) : ix (marksL p n) (i : Int) = p i := by
  rw [ix_get (by rw [marks_len]; exact h)]; unfold marksL; simp
theorem marks_congr {p q : Nat → Bool} {n : Nat} (h : ∀ i, i < n → p i = q i) : marksL p n = marksL q n := by
  unfold marksL; exact List.map_congr_left fun i hi => h i (List.mem_range.1 hi)
theorem put_marks {p : Nat → Bool} {n a : Nat} (h : a < n) : put (marksL p n) (a : Int) true = marksL (fun i => decide (i = a) || p i) n := by
  refine ext_ix (by rw [put_len, marks_len, marks_len]) fun i hi => ?_
  rw [put_len, marks_len] at hi
  rw [ix_put _ _ (by rw [marks_len]; exact h), ix_marks hi, ix_marks hi]
  by_cases e : i = a
  · rw [if_pos e, decide_eq_true e, Bool.true_or]
  · rw [if_neg e, decide_eq_false e, Bool.false_or]
theorem ref01_List_ok {p : Nat → Bool} {n : Nat} {Φ : List api_Extent → Prop} (hn : n ≤ 100000) (hΦ : Φ (extsL p n)) : ref01_List_W (marksL p n) Φ := by
  refine LoopW.upT n (fun k => ((k : Int), extsL p k)) rfl (fun k rec hk hr => ⟨fun _ => ⟨iX (by omega) (by rw [marks_len]; omega), ?_⟩, fun q => absurd (show (k : Int) < ((marksL p n).length : Int) by rw [marks_len]; omega) q⟩) fun rec => ⟨fun q => absurd q (by rw [marks_len]; omega), fun _ => hΦ⟩
  rw [ix_marks hk]
  have g := exts_ok p k
  have gl := g.len
  refine ⟨fun q => ⟨iI (by omega) (by omega), hr _ ?_⟩, fun q => ?_⟩
  · show (_, _) = (_, extsL p (k + 1))
    rw [extsL_succ, if_pos (by cases hq : p k with
      | true => exact absurd hq q
      | false => rfl)]; rfl
  · have q : p k = true := Classical.not_not.1 q
    have J1 : 0 < k ∧ p (k - 1) = true → ref01_List_J2 (k : Int) (extsL p k) rec Φ true := fun h1 => by
      obtain ⟨F, e, hE, he⟩ := g.last h1.1 h1.2
      have hlen : 0 < (extsL p k).length := by rw [hE, len_snoc]; omega
      have ge := g.ne e (by rw [hE]; simp)
      have el : ix (extsL p k) (((extsL p k).length : Int) - 1) = e := by rw [hE, ix_last]
      refine ⟨fun _ => ⟨iI (by omega) (by omega), iX (by omega) (by omega), by rw [el]; exact iI (by omega) (by omega), iX (by omega) (by omega), iI (by omega) (by omega), hr _ ?_⟩, fun r => absurd rfl r⟩
      show (_, _) = (_, extsL p (k + 1))
      rw [extsL_succ, if_neg (by rw [q]; simp), if_pos h1]; rfl
    have J0 : ¬ (0 < k ∧ p (k - 1) = true) → ref01_List_J2 (k : Int) (extsL p k) rec Φ false := fun h1 => by
      refine ⟨fun r => Bool.noConfusion r, fun _ => ⟨iL (by rw [len_snoc]; omega) (by omega), iI (by omega) (by omega), hr _ ?_⟩⟩
      show (_, _) = (_, extsL p (k + 1))
      rw [extsL_succ, if_neg (by rw [q]; simp), if_neg h1]; rfl
    refine ⟨fun r => ⟨iI (by omega) (by omega), iX (by omega) (by rw [marks_len]; omega), ?_⟩, fun r => J0 (by omega)⟩
    rw [show (k : Int) - 1 = ((k - 1 : Nat) : Int) by omega, ix_marks (by omega)]
    cases hp : p (k - 1) with
    | true => exact J1 ⟨by omega, hp⟩
    | false => exact J0 fun t => by rw [hp] at t; exact Bool.noConfusion t.2
def effB (l : List api_Write) (v : Int) (i : Nat) : Bool := mhas (effM l) ⟨v, (i : Int)⟩
theorem effB_take {l : List api_Write} {k : Nat} (hk : k < l.length) (v : Int) (i : Nat) : effB (l.take (k + 1)) v i = (decide (v = (ix l (k : Int)).Volume ∧ (ix l (k : Int)).Start ≤ (i : Int) ∧ (i : Int) < (ix l (k : Int)).Start + ((ix l (k : Int)).Data.length : Int)) || effB (l.take k) v i) := by
  unfold effB mhas
  rw [eff_take hk]
  by_cases h : v = (ix l (k : Int)).Volume ∧ (ix l (k : Int)).Start ≤ (i : Int) ∧ (i : Int) < (ix l (k : Int)).Start + ((ix l (k : Int)).Data.length : Int)
  · rw [if_pos h, decide_eq_true h]; rfl
  · rw [if_neg h, decide_eq_false h]; rfl
theorem ref22_Extents_ok {l : List api_Write} {v : Int} {Φ : List api_Extent → Prop} (hl : l.length ≤ 1000000) (hp : PlL l) (hΦ : Φ (extsL (effB l v) 4096)) : Z88 l v Φ := by
  refine ⟨by omega, iL (by show 4096 ≤ 1000000; omega) (by omega), ?_⟩
  refine LoopW.upT l.length (fun k => ((k : Int), marksL (effB (l.take k) v) 4096)) (by
    refine pairE rfl ?_
    refine ext_ix (by rw [marks_len, List.length_replicate]; rfl) fun i hi => ?_
    have hi : i < 4096 := by rw [List.length_replicate] at hi; exact hi
    rw [ix_marks hi, ix_get (by rw [List.length_replicate]; exact hi), List.getElem_replicate]; rfl) (fun k rec hk hr => ⟨fun _ => ⟨iX (by omega) (by omega), ?_⟩, fun q => by omega⟩) fun rec => ⟨fun q => by omega, fun _ => by rw [take_all]; exact ref01_List_ok (by omega) hΦ⟩
  have hw := hp.at hk
  refine ⟨fun q => ⟨iX (by omega) (by omega), iX (by omega) (by omega), fun r => by omega, fun r => ⟨fun s => by rw [marks_len] at s; omega, fun s => ⟨fun t => by omega, fun t => ?_⟩⟩⟩, fun q => ⟨iI (by omega) (by omega), hr _ ?_⟩⟩
  · obtain ⟨a, ha⟩ := Int.eq_ofNat_of_zero_le hw.2.2.2.1
    have e1 : (if 4096 < ((ix l (k : Int)).Data.length : Int) then 4096 else ((ix l (k : Int)).Data.length : Int)) = ((ix l (k : Int)).Data.length : Int) := if_neg (by omega)
    have e2 : (if (ix l (k : Int)).Start + ((ix l (k : Int)).Data.length : Int) < ((marksL (effB (l.take k) v) 4096).length : Int) then (ix l (k : Int)).Start + ((ix l (k : Int)).Data.length : Int) else ((marksL (effB (l.take k) v) 4096).length : Int)) = (ix l (k : Int)).Start + ((ix l (k : Int)).Data.length : Int) := by
      rw [marks_len]; split <;> omega
    rw [e1, e2]
    refine ⟨iI (by omega) (by omega), ?_⟩
    refine LoopW.upT (ix l (k : Int)).Data.length (fun j => (((a + j : Nat) : Int), marksL (fun i => decide (a ≤ i ∧ i < a + j) || effB (l.take k) v i) 4096)) ?_ (fun j rec2 hj hr2 => ⟨fun _ => ⟨iX (by omega) (by rw [marks_len]; omega), iI (by omega) (by omega), hr2 _ ?_⟩, fun u => by omega⟩) fun rec2 => ⟨fun u => by omega, fun _ => ⟨iI (by omega) (by omega), hr _ ?_⟩⟩
    · refine pairE (by rw [ha]; rfl) ?_
      exact marks_congr fun i _ => by rw [decide_eq_false (by omega), Bool.false_or]
    · refine pairE (by omega) ?_
      rw [put_marks (by omega)]
      refine marks_congr fun i _ => ?_
      rw [← Bool.or_assoc]
      congr 1
      rw [Bool.eq_iff_iff]
      simp only [Bool.or_eq_true, decide_eq_true_eq]
      omega
    · refine pairE rfl ?_
      refine marks_congr fun i _ => ?_
      rw [effB_take hk]
      congr 1
      rw [Bool.eq_iff_iff]
      simp only [decide_eq_true_eq]
      omega
  · refine pairE rfl ?_
    refine marks_congr fun i _ => ?_
    rw [effB_take hk, decide_eq_false (fun t => q t.1.symm), Bool.false_or]
def mkW (l : List api_Write) (v : Int) (e : api_Extent) : api_Write := ⟨v, e.Start, (List.range e.Count.toNat).map fun j : Nat => mget (effM l) ⟨v, e.Start + (j : Int)⟩ sec0⟩
def pickW (l : List api_Write) (v : Int) : List api_Write := (extsL (effB l v) 4096).map (mkW l v)
theorem range_snoc_map {β : Type} (f : Nat → β) (k : Nat) : (List.range (k + 1)).map f = (List.range k).map f ++ [f k] := by rw [List.range_succ, List.map_append]; rfl
theorem ref22_pick_ok {l : List api_Write} {v : Int} {Φ : List api_Write → Prop} (hl : l.length ≤ 1000000) (hp : PlL l) (hΦ : Φ (pickW l v)) : ref22_pick_W l v (extsL (effB l v) 4096) Φ := by
  have g := exts_ok (effB l v) 4096
  have gl := g.len
  unfold pickW at hΦ
  generalize extsL (effB l v) 4096 = E at g gl hΦ
  refine LoopW.upT E.length (fun k => ((k : Int), (E.take k).map (mkW l v))) rfl (fun k rec hk hr => ⟨fun _ => ⟨iX (by omega) (by omega), ?_⟩, fun q => by omega⟩) fun rec => ⟨fun q => by omega, fun _ => by rw [take_all]; exact hΦ⟩
  have hm : ix E (k : Int) ∈ E := ix_mem (iX (by omega) (by omega))
  have h1 := g.ne _ hm
  have h2 := g.top _ hm
  refine LoopW.upT (ix E (k : Int)).Count.toNat (fun j => ((j : Int), (List.range j).map fun j : Nat => mget (effM l) ⟨v, (ix E (k : Int)).Start + (j : Int)⟩ sec0)) rfl (fun j rec2 hj hr2 => ⟨iX (by omega) (by omega), fun _ => ⟨iX (by omega) (by omega), iI (by omega) (by omega), ref22_Lookup_ok hl hp (by omega) ⟨iL (by rw [len_snoc, List.length_map, List.length_range]; omega) (by omega), iI (by omega) (by omega), hr2 _ ?_⟩⟩, fun q => by omega⟩) fun rec2 => ⟨iX (by omega) (by omega), fun q => by omega, fun _ => ⟨iL (by rw [len_snoc, List.length_map, lenT (by omega)]; omega) (by omega), iI (by omega) (by omega), hr _ ?_⟩⟩
  · show (_, _) = (_, _)
    rw [range_snoc_map]; rfl
  · show (_, _) = (_, _)
    rw [map_take_snoc _ hk]; rfl
def refF (l : List api_Write) : List api_Write := (List.range 8).flatMap fun v : Nat => pickW l (v : Int)
theorem pick_len (l : List api_Write) (v : Int) : (pickW l v).length ≤ 4096 := by
  unfold pickW; rw [List.length_map]; exact (exts_ok (effB l v) 4096).len
theorem flat_len (l : List api_Write) : ∀ k : Nat, ((List.range k).flatMap fun v : Nat => pickW l (v : Int)).length ≤ k * 4096
  | 0 => Nat.le_refl _
  | k + 1 => by
    rw [List.range_succ, List.flatMap_append, List.length_append]
    have h1 := flat_len l k
    have h2 := pick_len l (k : Int)
    simp only [List.flatMap_cons, List.flatMap_nil, List.append_nil]
    omega
theorem eff_has {l : List api_Write} {v : Int} {i : Nat} (h : effB l v i = true) : mfind (effM l) ⟨v, (i : Int)⟩ = some (mget (effM l) ⟨v, (i : Int)⟩ sec0) := by
  unfold effB mhas at h
  unfold mget
  cases hm : mfind (effM l) ⟨v, (i : Int)⟩ with
  | none => rw [hm] at h; exact Bool.noConfusion h
  | some d => rfl
theorem refF_can {l : List api_Write} (hp : PlL l) : Can0 (effM l) (refF l) := by
  have mm : ∀ w ∈ refF l, ∃ v : Nat, v < 8 ∧ ∃ e ∈ extsL (effB l (v : Int)) 4096, w = mkW l (v : Int) e := fun w hw => by
    unfold refF at hw
    obtain ⟨v, hv, hw⟩ := List.mem_flatMap.1 hw
    unfold pickW at hw
    obtain ⟨e, he, rfl⟩ := List.mem_map.1 hw
    exact ⟨v, List.mem_range.1 hv, e, he, rfl⟩
  have ml : ∀ v e, (mkW l v e).Data.length = e.Count.toNat := fun v e => by unfold mkW; simp
  refine ⟨fun w hw => ?_, ?_, fun w hw j hj => ?_, fun p d h => ?_⟩
  · obtain ⟨v, hv, e, he, rfl⟩ := mm w hw
    rw [ml]
    have := (exts_ok _ _).ne e he
    omega
  · unfold refF
    refine List.pairwise_flatMap.2 ⟨fun v hv => ?_, List.pairwise_lt_range.imp fun {a b} hab x hx y hy => ?_⟩
    · unfold pickW
      refine List.pairwise_map.2 (List.Pairwise.imp_of_mem (fun {e f} he hf h => .inr ⟨rfl, ?_⟩) (exts_ok _ _).gap)
      rw [ml]
      have := (exts_ok _ _).ne e he
      show e.Start + (e.Count.toNat : Int) < f.Start
      omega
    · unfold pickW at hx hy
      obtain ⟨e, _, rfl⟩ := List.mem_map.1 hx
      obtain ⟨f, _, rfl⟩ := List.mem_map.1 hy
      exact .inl (by show (a : Int) < (b : Int); omega)
  · obtain ⟨v, hv, e, he, rfl⟩ := mm w hw
    rw [ml] at hj
    have h1 := (exts_ok _ _).ne e he
    obtain ⟨s, hs⟩ := Int.eq_ofNat_of_zero_le h1.1
    have hc := ((exts_ok (effB l (v : Int)) 4096).cov (s + j)).2 ⟨e, he, by omega, by omega⟩
    have := eff_has hc.2
    show mfind (effM l) ⟨(v : Int), e.Start + (j : Int)⟩ = some (ix ((List.range e.Count.toNat).map fun j : Nat => mget (effM l) ⟨(v : Int), e.Start + (j : Int)⟩ sec0) (j : Int))
    rw [ix_get (by simpa using hj)]
    simp only [List.getElem_map, List.getElem_range]
    rw [show e.Start + (j : Int) = ((s + j : Nat) : Int) by omega]
    exact this
  · obtain ⟨q, hq, rfl⟩ := mkey_of h
    have hq := effM_place hp q hq
    obtain ⟨v, hv⟩ := Int.eq_ofNat_of_zero_le hq.1
    obtain ⟨i, hi⟩ := Int.eq_ofNat_of_zero_le hq.2.2.1
    have hb : effB l (v : Int) i = true := by
      unfold effB mhas
      rw [show (⟨(v : Int), (i : Int)⟩ : coalesce_place) = q.1 from place_ext hv.symm hi.symm, h]
    obtain ⟨e, he, h1, h2⟩ := ((exts_ok (effB l (v : Int)) 4096).cov i).1 ⟨by omega, hb⟩
    have hn := (exts_ok _ _).ne e he
    refine ⟨mkW l (v : Int) e, ?_, hv.symm, by show e.Start ≤ _; omega, by rw [ml]; show _ < e.Start + _; omega⟩
    unfold refF
    exact List.mem_flatMap.2 ⟨v, List.mem_range.2 (by omega), List.mem_map.2 ⟨e, he, rfl⟩⟩
theorem refF_eq {l : List api_Write} (hp : PlL l) : refF l = canL (effM l) := (refF_can hp).uniq (canL_can (effM_nodup l) fun q hq => (effM_place hp q hq).1).to0
theorem ref22_Most_ok {Φ : List Int → Prop} (hΦ : Φ mostL) : ref22_Most_W Φ := by
  refine LoopW.upT 8 (fun k => ((k : Int), List.replicate k (4096 : Int))) rfl (fun k rec hk hr => ⟨fun _ => ⟨iL (by rw [len_snoc, List.length_replicate]; omega) (by omega), iI (by omega) (by omega), hr _ ?_⟩, fun q => by omega⟩) fun rec => ⟨fun q => by omega, fun _ => hΦ⟩
  show (_, _) = (_, List.replicate (k + 1) (4096 : Int))
  rw [List.replicate_succ']; rfl
theorem fit_placed (w : api_Write) : fitW mostL w = placedR w := by
  unfold fitW placedR
  by_cases h : w.Volume < 0 ∨ 8 ≤ w.Volume
  · rw [if_pos h, if_pos (by rcases h with h | h; exact .inl h; exact .inr h)]
  · rw [if_neg h, if_neg (by show ¬ (w.Volume < 0 ∨ ((8 : Nat) : Int) ≤ w.Volume); omega)]
    obtain ⟨v, hv⟩ := Int.eq_ofNat_of_zero_le (show 0 ≤ w.Volume by omega)
    have e : ix mostL w.Volume = 4096 := by
      rw [hv, ix_get (show v < mostL.length by show v < 8; omega)]
      unfold mostL; rw [List.getElem_replicate]
    rw [e]
    by_cases h0 : w.Data.length = 0
    · rw [if_pos (by omega), if_pos h0]
    · rw [if_neg (by omega), if_neg h0]
      by_cases h2 : w.Start < 0 ∨ 4096 - (w.Data.length : Int) < w.Start
      · rw [if_pos h2, if_pos (by omega)]
      · rw [if_neg h2, if_neg (by omega)]
theorem ref22_Fold_ok {l : List api_Write} {Φ : List api_Write × Int → Prop} (hl : l.length ≤ 20000) (hd : ∀ w ∈ l, w.Data.length ≤ 1000000) (hΦ : Φ (foldR l)) : ref22_Fold_W l Φ := by
  unfold foldR at hΦ
  have er : ∀ e, firstN (fun k => placedR (ix l (k : Int))) l.length = e → e ≠ 0 → Φ ([], e) := fun e h1 h2 => by rw [h1, if_pos h2] at hΦ; exact hΦ
  refine LoopW.errI l.length (fun k => (k : Int)) (fun k => placedR (ix l (k : Int))) (Ψ := fun o => o = firstN (fun k => placedR (ix l (k : Int))) l.length) rfl rfl (fun k rec hk hj g1 g2 => ⟨fun _ => ⟨(mostL, ()), ref22_Most_ok rfl, iX (by omega) (by omega), (placedR (ix l (k : Int)), ()), ref07_FitsSizes_ok (hd _ (ix_mem (iX (by omega) (by omega)))) (fun j hj => by have := sizesE_ix most_sizes hj; show ix mostL (j : Int) ≤ 1000000; omega) (by rw [fit_placed]), fun q => er _ (g1 q).symm q, fun q => ⟨iI (by omega) (by omega), g2 (Classical.not_not.1 q) _ rfl⟩⟩, fun q => by omega⟩) fun rec hz c0 => ⟨fun q => by omega, fun _ => ?_⟩
  have hp : PlL l := fun w hw => by
    obtain ⟨k, hk, rfl⟩ := List.getElem_of_mem hw
    have := hz k hk
    rwa [ix_get hk] at this
  rw [← c0, if_neg (fun t => t rfl)] at hΦ
  refine LoopW.upT 8 (fun k => ((k : Int), (List.range k).flatMap fun v : Nat => pickW l (v : Int))) rfl (fun k rec hk hr => ⟨fun _ => ref22_Extents_ok (by omega) hp (ref22_pick_ok (by omega) hp ⟨iL ?_ (by omega), iI (by omega) (by omega), hr _ ?_⟩), fun q => by omega⟩) fun rec => ⟨fun q => by omega, fun _ => ?_⟩
  · have h1 := flat_len l k
    have h2 := pick_len l (k : Int)
    rw [List.length_append]
    have := Nat.mul_le_mul_right 4096 (show k ≤ 8 by omega)
    omega
  · show (_, _) = (_, (List.range (k + 1)).flatMap fun v : Nat => pickW l (v : Int))
    rw [List.range_succ, List.flatMap_append]
    simp only [List.flatMap_cons, List.flatMap_nil, List.append_nil]; rfl
  · show Φ (refF l, 0)
    rw [refF_eq hp]; exact hΦ
structure SmallC (c : api_Capture) : Prop where
  sizes : c.Sizes.length ≤ 20
  pos : c.Positions.length ≤ 20
  nodes : c.Nodes.length ≤ 60
  len : c.Writes.length ≤ 40
  data : ∀ w ∈ c.Writes, w.Data.length ≤ 24
theorem law23_fewCapture_ok {c : api_Capture} {Φ : Bool → Prop} (h0 : Φ false) (h1 : SmallC c → Φ true) : Z0 c Φ :=
  ⟨fun a => ⟨fun b => ⟨fun d => ref22_Few_by h0 fun e f => h1 ⟨by omega, by omega, by omega, e, f⟩, fun _ => h0⟩, fun _ => h0⟩, fun _ => h0⟩
def cap0 : api_Capture := ⟨0, [], [], [], []⟩
def nodW (c : api_Capture) (k : Nat) : Int := if ix c.Nodes (k : Int) < 0 ∨ (c.Positions.length : Int) ≤ ix c.Nodes (k : Int) then 7 else fitW c.Sizes (ix c.Writes (k : Int))
def cptE (c : api_Capture) : Int :=
  if sizesE c.Sizes ≠ 0 then sizesE c.Sizes else if c.Number < 0 ∨ 1073741823 < c.Number then 2 else if posR 1 c.Positions ≠ 0 then posR 1 c.Positions else if c.Nodes.length ≠ c.Writes.length ∨ 4096 < c.Writes.length then 6 else firstN (nodW c) c.Writes.length
theorem cycle_copied_ok {w : api_Write} {Φ : api_Write → Prop} (hw : w.Data.length ≤ 1000000) (hΦ : Φ w) : Z12 w Φ := slices_Clone_Sec_ok hw hΦ
theorem ref23_CheckCapture_ok {c : api_Capture} {Φ : Int → Prop} (hp : c.Positions.length ≤ 100000) (hd : ∀ w ∈ c.Writes, w.Data.length ≤ 1000000) (hΦ : Φ (cptE c)) : Z78 c Φ := by
  have cr : ∀ e, cptE c = e → Φ e := fun e h1 => h1 ▸ hΦ
  refine ref07_Sizes_ok ⟨fun hs => cr _ (by unfold cptE; rw [if_pos hs]), fun hs => ?_⟩
  refine ⟨fun q => cr 2 (by unfold cptE; rw [if_neg hs, if_pos (.inl q)]), fun q => ⟨fun r => cr 2 (by unfold cptE; rw [if_neg hs, if_pos (.inr r)]), fun r => ?_⟩⟩
  have p6 : (c.Positions.length : Int) < 1 ∨ 8 < (c.Positions.length : Int) → cptE c = 6 := fun s => by
    have : posR 1 c.Positions = 6 := by unfold posR; rw [if_pos s]
    unfold cptE; rw [if_neg hs, if_neg (by omega), this, if_pos (by omega)]
  refine ⟨fun s => cr 6 (p6 (.inl s)), fun s => ⟨fun t => cr 6 (p6 (.inr t)), fun t => ?_⟩⟩
  have pe : posR 1 c.Positions = posE c.Positions := by unfold posR; rw [if_neg (by omega)]
  refine ref23_positions_ok hp ⟨fun u => cr _ (by unfold cptE; rw [if_neg hs, if_neg (by omega), pe, if_pos u]), fun u => ⟨fun x => cr 6 (by unfold cptE; rw [if_neg hs, if_neg (by omega), pe, if_neg u, if_pos (by omega)]), fun x => ⟨fun y => cr 6 (by unfold cptE; rw [if_neg hs, if_neg (by omega), pe, if_neg u, if_pos (by omega)]), fun y => ?_⟩⟩⟩
  have ce : cptE c = firstN (nodW c) c.Writes.length := by unfold cptE; rw [if_neg hs, if_neg (by omega), pe, if_neg u, if_neg (by omega)]
  have hs0 := Classical.not_not.1 hs
  refine LoopW.errI c.Writes.length (fun k => (k : Int)) (nodW c) (Ψ := Φ) rfl (ce ▸ hΦ) (fun k rec hk hj g1 g2 => ⟨fun _ => ⟨iX (by omega) (by omega), fun z => ?_, fun z => ⟨iX (by omega) (by omega), fun v => ?_, fun v => ⟨iX (by omega) (by omega), (fitW c.Sizes (ix c.Writes (k : Int)), ()), ref07_FitsSizes_ok (hd _ (ix_mem (iX (i := (k : Int)) (n := c.Writes.length) (by omega) (by omega)))) (fun k hk => by have := sizesE_ix hs0 hk; omega) rfl, fun b => ?_, fun b => ⟨iI (by omega) (by omega), ?_⟩⟩⟩⟩, fun _ => by omega⟩) fun rec _ c0 => ⟨fun _ => by omega, fun _ => c0⟩
  · unfold nodW at g1; rw [if_pos (.inl z)] at g1; exact g1 (by omega)
  · unfold nodW at g1; rw [if_pos (.inr v)] at g1; exact g1 (by omega)
  · unfold nodW at g1; rw [if_neg (by omega)] at g1; exact g1 b
  · unfold nodW at g2; rw [if_neg (by omega)] at g2; exact g2 (Classical.not_not.1 b) _ rfl
structure MidC (c : api_Capture) : Prop where
  sizes : c.Sizes.length ≤ 100000
  pos : c.Positions.length ≤ 100000
  nodes : c.Nodes.length ≤ 100000
  len : c.Writes.length ≤ 100000
  data : ∀ w ∈ c.Writes, w.Data.length ≤ 1000000
theorem SmallC.mid {c : api_Capture} (h : SmallC c) : MidC c := ⟨by have := h.sizes; omega, by have := h.pos; omega, by have := h.nodes; omega, by have := h.len; omega, fun w hw => by have := h.data w hw; omega⟩
theorem MidC.zero : MidC cap0 := ⟨Nat.zero_le _, Nat.zero_le _, Nat.zero_le _, Nat.zero_le _, fun _ hw => absurd hw List.not_mem_nil⟩
theorem ref23_SameCapture_refl {c : api_Capture} {Φ : Bool → Prop} (h : MidC c) (hΦ : Φ true) : Z98 c c Φ := by
  have h1 := h.sizes
  have h2 := h.pos
  have h3 := h.nodes
  have h4 := h.len
  exact ⟨fun _ => ref23_SameInts_refl (by omega) ⟨fun _ => ref23_SameInts_refl (by omega) ⟨fun _ => ref23_SameInts_refl (by omega) ⟨fun _ => ref03_SameWrites_refl (by omega) h.data hΦ, fun q => absurd rfl q⟩, fun q => absurd rfl q⟩, fun q => absurd rfl q⟩, fun q => absurd rfl q⟩
def tabL {α : Type} (n : Nat) (f : Nat → α) : List α := (List.range n).map f
theorem tab_len {α : Type} (n : Nat) (f : Nat → α) : (tabL n f).length = n := by unfold tabL; rw [List.length_map, List.length_range]
theorem ix_tab {α : Type} [Dt α] {n i : Nat} {f : Nat → α} (h : i < n) : ix (tabL n f) (i : Int) = f i := by
  rw [ix_get (by rw [tab_len]; exact h)]; unfold tabL; simp
theorem tab_congr {α : Type} {n : Nat} {f g : Nat → α} (h : ∀ i, i < n → f i = g i) : tabL n f = tabL n g := by
  unfold tabL; exact List.map_congr_left fun i hi => h i (List.mem_range.1 hi)
theorem tab_put {α : Type} [Dt α] {n a : Nat} {f g : Nat → α} {x : α} (ha : a < n) (h0 : g a = x) (h : ∀ i, i < n → i ≠ a → g i = f i) : put (tabL n f) (a : Int) x = tabL n g := by
  refine ext_ix (by rw [put_len, tab_len, tab_len]) fun i hi => ?_
  rw [put_len, tab_len] at hi
  rw [ix_put _ _ (by rw [tab_len]; exact ha), ix_tab hi, ix_tab hi]
  by_cases e : i = a
  · rw [if_pos e, e, h0]
  · rw [if_neg e, h i hi e]
theorem tab_snoc {α : Type} (k : Nat) (f : Nat → α) : tabL (k + 1) f = tabL k f ++ [f k] := range_snoc_map f k
theorem tab_self {α : Type} [Dt α] (l : List α) : tabL l.length (fun i => ix l (i : Int)) = l := ext_ix (tab_len _ _) fun i hi => by rw [tab_len] at hi; rw [ix_tab hi]
theorem LoopW.split {α S : Type} {step : List α × S → (List α × S → Prop) → Prop} (xs : List α) (f : List α → S) {s0 : S} (hs : s0 = f []) (h : ∀ pre x r rec, xs = pre ++ x :: r → (∀ s, s = (r, f (pre ++ [x])) → rec s) → step (x :: r, f pre) rec) (he : ∀ rec, step ([], f xs) rec) : LoopW step (xs, s0) := by
  have key : ∀ r pre, xs = pre ++ r → LoopN step (r.length + 1) (r, f pre) := by
    intro r
    induction r with
    | nil => intro pre e; rw [List.append_nil] at e; subst e; exact he _
    | cons x r ih => intro pre e; exact h pre x r _ e fun s hs => by rw [hs]; exact ih (pre ++ [x]) (by rw [e, List.append_assoc]; rfl)
  rw [hs]
  exact ⟨_, key xs [] rfl⟩
def cnt (N : List Int) (n : Int) : Nat → Nat
  | 0 => 0
  | k + 1 => cnt N n k + if ix N (k : Int) = n then 1 else 0
theorem cnt_le (N : List Int) (n : Int) : ∀ k, cnt N n k ≤ k
  | 0 => Nat.le_refl _
  | k + 1 => by
    have := cnt_le N n k
    unfold cnt; split <;> omega
theorem cnt_succ (N : List Int) (n : Int) (k : Nat) : cnt N n (k + 1) = cnt N n k + if ix N (k : Int) = n then 1 else 0 := rfl
def pos0 (x : Int) : Int := if x < 0 then 0 else x
theorem pos0_pred (x : Int) : pos0 (pos0 x - 1) = pos0 (x - 1) := by unfold pos0; split <;> split <;> (try split) <;> omega
def leftF (d : Nat → Int) (N : List Int) (m k : Nat) : List Int := tabL m fun i => pos0 (d i - (cnt N (i : Int) k : Int))
def partF (d : Nat → Int) (N : List Int) (k : Nat) : Bool := decide (0 < pos0 (d (ix N (k : Int)).toNat - (cnt N (ix N (k : Int)) k : Int)))
theorem left_step {d : Nat → Int} {N : List Int} {m k : Nat} {x : Int} (h0 : 0 ≤ ix N (k : Int)) (h1 : ix N (k : Int) < (m : Int)) (hx : x = pos0 (pos0 (d (ix N (k : Int)).toNat - (cnt N (ix N (k : Int)) k : Int)) - 1)) : put (leftF d N m k) (ix N (k : Int)) x = leftF d N m (k + 1) := by
  obtain ⟨a, ha⟩ := Int.eq_ofNat_of_zero_le h0
  rw [ha] at hx ⊢
  unfold leftF
  refine tab_put (by omega) ?_ fun i hi hne => ?_
  · rw [hx]
    show pos0 (d a - (cnt N (a : Int) (k + 1) : Int)) = _
    rw [cnt_succ, if_pos ha, Int.toNat_natCast, pos0_pred, show d a - ((cnt N (a : Int) k + 1 : Nat) : Int) = d a - (cnt N (a : Int) k : Int) - 1 by omega]
  · show pos0 (d i - (cnt N (i : Int) (k + 1) : Int)) = _
    rw [cnt_succ, if_neg (by rw [ha]; omega)]; rfl
theorem left_same {d : Nat → Int} {N : List Int} {m k : Nat} (h0 : 0 ≤ ix N (k : Int)) (h : ¬ 0 < pos0 (d (ix N (k : Int)).toNat - (cnt N (ix N (k : Int)) k : Int))) : leftF d N m (k + 1) = leftF d N m k := by
  obtain ⟨a, ha⟩ := Int.eq_ofNat_of_zero_le h0
  rw [ha, Int.toNat_natCast] at h
  refine tab_congr fun i hi => ?_
  show pos0 (d i - (cnt N (i : Int) (k + 1) : Int)) = _
  rw [cnt_succ]
  by_cases e : ix N (k : Int) = (i : Int)
  · rw [if_pos e]
    obtain rfl : i = a := by omega
    show pos0 (d i - ((cnt N (i : Int) k + 1 : Nat) : Int)) = pos0 (d i - (cnt N (i : Int) k : Int))
    have h1 : pos0 (d i - (cnt N (i : Int) k : Int)) = if d i - (cnt N (i : Int) k : Int) < 0 then 0 else d i - (cnt N (i : Int) k : Int) := rfl
    have h2 : pos0 (d i - ((cnt N (i : Int) k + 1 : Nat) : Int)) = if d i - ((cnt N (i : Int) k + 1 : Nat) : Int) < 0 then 0 else d i - ((cnt N (i : Int) k + 1 : Nat) : Int) := rfl
    rw [h1] at h ⊢
    rw [h2]
    split at h <;> split <;> omega
  · rw [if_neg e]; rfl
theorem ix_left {d : Nat → Int} {N : List Int} {m k : Nat} {n : Int} (h0 : 0 ≤ n) (h1 : n < (m : Int)) : ix (leftF d N m k) n = pos0 (d n.toNat - (cnt N n k : Int)) := by
  obtain ⟨a, rfl⟩ := Int.eq_ofNat_of_zero_le h0
  unfold leftF
  rw [ix_tab (by omega), Int.toNat_natCast]
def dT (c : api_Capture) (to : List Int) (i : Nat) : Int := ix to (i : Int) - ix c.Positions (i : Int)
def dW (c : api_Capture) (to : List Int) (i : Nat) : Int := Go.IntKind.wrap Go.IntKind.i64 (ix to (i : Int) - ix c.Positions (i : Int))
def inB (c : api_Capture) (to : List Int) (k : Nat) : Bool := partF (dT c to) c.Nodes k
def badI (c : api_Capture) (to : List Int) (i : Nat) : Prop := ix to (i : Int) < ix c.Positions (i : Int) ∨ ix c.Positions (i : Int) + (cnt c.Nodes (i : Int) c.Nodes.length : Int) < ix to (i : Int)
instance (c : api_Capture) (to : List Int) (i : Nat) : Decidable (badI c to i) := by unfold badI; infer_instance
def badB (c : api_Capture) (to : List Int) : Bool := (List.range to.length).any fun i => decide (badI c to i)
theorem badB_true {c : api_Capture} {to : List Int} {i : Nat} (hi : i < to.length) (h : badI c to i) : badB c to = true := List.any_eq_true.2 ⟨i, List.mem_range.2 hi, decide_eq_true h⟩
theorem badB_false {c : api_Capture} {to : List Int} (h : ∀ i, i < to.length → ¬ badI c to i) : badB c to = false := by
  rw [Bool.eq_false_iff]
  intro q
  obtain ⟨i, hi, hb⟩ := List.any_eq_true.1 q
  exact h i (List.mem_range.1 hi) (of_decide_eq_true hb)
theorem wrap_case {a b : Int} (ha : inI a) (hb : 0 ≤ b ∧ b ≤ 1073741824) : Go.IntKind.wrap Go.IntKind.i64 (a - b) = a - b ∨ (4611686018427387904 ≤ Go.IntKind.wrap Go.IntKind.i64 (a - b) ∧ Go.IntKind.wrap Go.IntKind.i64 (a - b) ≤ 9223372036854775807 ∧ a < b) := by
  have h1 := ha.1
  have h2 := ha.2
  by_cases h : -9223372036854775808 ≤ a - b
  · exact .inl (wrap_i64 h (by omega))
  · refine .inr ?_
    have e : Go.IntKind.wrap Go.IntKind.i64 (a - b) = a - b + 18446744073709551616 := by
      have w : Go.IntKind.wrap Go.IntKind.i64 (a - b) = if 9223372036854775808 ≤ (a - b) % 18446744073709551616 then (a - b) % 18446744073709551616 - 18446744073709551616 else (a - b) % 18446744073709551616 := by
        simp [IntKind.wrap, IntKind.bits, IntKind.signed]
      rw [w]
      split <;> omega
    rw [e]; omega
def selW (c : api_Capture) (q : Nat → Bool) (n : Nat) : List api_Write := ((List.range n).filter q).map fun j : Nat => ix c.Writes (j : Int)
def latL (c : api_Capture) (p : Nat → Bool) (k : Nat) : List api_Write := selW c (fun j => decide (k < j) && p j) c.Writes.length
def hidW (w : api_Write) (l : List api_Write) : api_Write := ⟨w.Volume, w.Start, tabL w.Data.length fun j => mget (effM l) ⟨w.Volume, w.Start + (j : Int)⟩ (ix w.Data (j : Int))⟩
def outN (c : api_Capture) (p : Nat → Bool) (n : Nat) : List Int := ((List.range n).filter fun j => !p j).map fun j : Nat => ix c.Nodes (j : Int)
def outW (c : api_Capture) (p : Nat → Bool) (n : Nat) : List api_Write := ((List.range n).filter fun j => !p j).map fun j : Nat => hidW (ix c.Writes (j : Int)) (latL c p j)
def cloE (c : api_Capture) (time : Int) (to : List Int) : Int :=
  if cptE c ≠ 0 then cptE c else if time < 0 ∨ 1073741824 < time then 24 else if to.length ≠ c.Positions.length then 6 else if badB c to = true then 2 else 0
def cloR (c : api_Capture) (time : Int) (to : List Int) : api_Capture × api_Cycle × Int :=
  if cloE c time to ≠ 0 then (cap0, cyc0, cloE c time to) else (⟨c.Number + 1, c.Sizes, to, outN c (inB c to) c.Writes.length, outW c (inB c to) c.Writes.length⟩, ⟨c.Number, c.Number + 1, time, to, canL (effM (selW c (inB c to) c.Writes.length))⟩, 0)
theorem sel_len {c : api_Capture} {q : Nat → Bool} {n : Nat} : (selW c q n).length ≤ n := by
  unfold selW
  rw [List.length_map]
  have := List.length_filter_le q (List.range n)
  rw [List.length_range] at this; exact this
theorem sel_mem {c : api_Capture} {q : Nat → Bool} {n : Nat} (hn : n ≤ c.Writes.length) : ∀ w ∈ selW c q n, w ∈ c.Writes := fun w hw => by
  obtain ⟨j, hj, rfl⟩ := List.mem_map.1 hw
  have := List.mem_range.1 (List.mem_filter.1 hj).1
  exact ix_mem (iX (by omega) (by omega))
theorem filter_snoc (p : Nat → Bool) (k : Nat) : (List.range (k + 1)).filter p = (List.range k).filter p ++ (if p k = true then [k] else []) := by
  rw [List.range_succ, List.filter_append]; congr 1; by_cases hp : p k = true <;> simp [hp]
theorem out_len (c : api_Capture) (p : Nat → Bool) (n : Nat) : (outN c p n).length ≤ n ∧ (outW c p n).length ≤ n := by
  have := List.length_filter_le (fun j => !p j) (List.range n)
  rw [List.length_range] at this
  exact ⟨by unfold outN; rw [List.length_map]; exact this, by unfold outW; rw [List.length_map]; exact this⟩
structure CapOk (c : api_Capture) : Prop where
  sz : sizesE c.Sizes = 0
  num : 0 ≤ c.Number ∧ c.Number ≤ 1073741823
  pos : ∀ k : Nat, k < c.Positions.length → 0 ≤ ix c.Positions (k : Int) ∧ ix c.Positions (k : Int) ≤ 1073741824
  len : c.Nodes.length = c.Writes.length
  node : ∀ k : Nat, k < c.Writes.length → 0 ≤ ix c.Nodes (k : Int) ∧ ix c.Nodes (k : Int) < (c.Positions.length : Int)
  fit : ∀ w ∈ c.Writes, fitW c.Sizes w = 0
theorem posR_ix {least : Int} {l : List Int} (h : posR least l = 0) : ∀ k : Nat, k < l.length → 0 ≤ ix l (k : Int) ∧ ix l (k : Int) ≤ 1073741824 := fun k hk => by
  unfold posR at h
  split at h
  · omega
  · have := firstN_zero.1 h k hk
    split at this <;> omega
theorem capOk_of {c : api_Capture} (h : cptE c = 0) : CapOk c := by
  unfold cptE at h
  split at h
  · next q => exact absurd h q
  split at h
  · omega
  split at h
  · next q => exact absurd h q
  split at h
  · omega
  next q1 q2 q3 q4 =>
    have nd : ∀ k : Nat, k < c.Writes.length → (0 ≤ ix c.Nodes (k : Int) ∧ ix c.Nodes (k : Int) < (c.Positions.length : Int)) ∧ fitW c.Sizes (ix c.Writes (k : Int)) = 0 := fun k hk => by
      have := firstN_zero.1 h k hk
      unfold nodW at this
      split at this
      · omega
      · exact ⟨by omega, this⟩
    refine ⟨Classical.not_not.1 q1, by omega, posR_ix (Classical.not_not.1 q3), by omega, fun k hk => (nd k hk).1, fun w hw => ?_⟩
    obtain ⟨k, hk, rfl⟩ := List.getElem_of_mem hw
    have := (nd k hk).2
    rwa [ix_get hk] at this
theorem fit_pl {sizes : List Int} (hs : sizesE sizes = 0) {w : api_Write} (h : fitW sizes w = 0) : placedR w = 0 := by
  obtain ⟨v, s, hf⟩ := fitW_of (by omega) h
  have h1 := hf.vol
  have h2 := hf.start
  have h3 := hf.hv
  have h4 := hf.len
  have h5 := hf.le
  have h6 := hf.top
  have h8 := sizesE_len hs
  unfold placedR
  rw [if_neg (by omega), if_neg (by omega), if_neg (by omega)]
theorem CapOk.pl {c : api_Capture} (h : CapOk c) : PlL c.Writes := fun w hw => fit_pl h.sz (h.fit w hw)
theorem CapOk.sel {c : api_Capture} (h : CapOk c) (q : Nat → Bool) {n : Nat} (hn : n ≤ c.Writes.length) : PlL (selW c q n) := fun w hw => h.pl w (sel_mem hn w hw)
theorem ref23_hidden_ok {w : api_Write} {l : List api_Write} {Φ : api_Write → Prop} (hw : placedR w = 0) (hl : l.length ≤ 1000000) (hp : PlL l) (hΦ : Φ (hidW w l)) : Z84 w l Φ := by
  have w0 := placed0 hw
  have one : (([w] : List api_Write).length : Int) = 1 := rfl
  refine ⟨fun _ => ⟨iX (by omega) (by omega), iX (by omega) (by omega), iX (by omega) (by omega), iL (by show w.Data.length ≤ _; omega) (by omega), iL (by show 1 ≤ 1000000; omega) (by omega), iI (by omega) (by omega), fun q => absurd q (by rw [one]; omega), fun _ => ⟨iX (by omega) (by show (0 : Int) < ((1 : Nat) : Int); omega), rfl, ?_⟩⟩, fun q => absurd q (by rw [one]; omega)⟩
  refine LoopW.upT w.Data.length (fun k => ((k : Int), tabL w.Data.length fun i => if i < k then mget (effM l) ⟨w.Volume, w.Start + (i : Int)⟩ (ix w.Data (i : Int)) else ix w.Data (i : Int))) ?_ (fun k rec hk hr => ⟨fun _ => ⟨iI (by omega) (by omega), ref22_Lookup_ok hl hp (by omega) ?_⟩, fun q => by rw [tab_len] at q; omega⟩) fun rec => ⟨fun q => by rw [tab_len] at q; omega, fun _ => ?_⟩
  · refine pairE rfl ?_
    show w.Data = _
    conv => lhs; rw [← tab_self w.Data]
    exact tab_congr fun i _ => by rw [if_neg (Nat.not_lt_zero i)]
  · refine ⟨fun q => ⟨iX (by omega) (by rw [tab_len]; omega), iI (by omega) (by omega), hr _ (pairE rfl ?_)⟩, fun q => ⟨iI (by omega) (by omega), hr _ (pairE rfl ?_)⟩⟩
    · refine tab_put hk ?_ fun i hi hne => ?_
      · rw [if_pos (by omega)]
        have q : mhas (effM l) ⟨w.Volume, w.Start + (k : Int)⟩ = true := q
        show mget _ _ _ = mget _ _ _
        unfold mhas at q
        unfold mget
        cases hm : mfind (effM l) ⟨w.Volume, w.Start + (k : Int)⟩ with
        | none => rw [hm] at q; exact Bool.noConfusion q
        | some d => rfl
      · by_cases h : i < k
        · rw [if_pos h, if_pos (by omega)]
        · rw [if_neg h, if_neg (by omega)]
    · refine tab_congr fun i hi => ?_
      by_cases h : i < k
      · rw [if_pos h, if_pos (by omega)]
      · rw [if_neg h]
        by_cases h2 : i = k
        · subst h2
          rw [if_pos (by omega)]
          have q : ¬ mhas (effM l) ⟨w.Volume, w.Start + (i : Int)⟩ = true := q
          unfold mhas at q
          unfold mget
          cases hm : mfind (effM l) ⟨w.Volume, w.Start + (i : Int)⟩ with
          | none => rfl
          | some d => rw [hm] at q; exact absurd rfl q
        · rw [if_neg (by omega)]
  · have e : (tabL w.Data.length fun i => if i < w.Data.length then mget (effM l) ⟨w.Volume, w.Start + (i : Int)⟩ (ix w.Data (i : Int)) else ix w.Data (i : Int)) = tabL w.Data.length fun j => mget (effM l) ⟨w.Volume, w.Start + (j : Int)⟩ (ix w.Data (j : Int)) := tab_congr fun i hi => if_pos hi
    show Φ ⟨w.Volume, w.Start, tabL w.Data.length fun i => if i < w.Data.length then mget (effM l) ⟨w.Volume, w.Start + (i : Int)⟩ (ix w.Data (i : Int)) else ix w.Data (i : Int)⟩
    rw [e]; exact hΦ
def itL (c : api_Capture) (q : Nat → Bool) : List (Int × api_Write × Unit) := ((List.range c.Writes.length).filter q).map fun j : Nat => ((j : Int), ix c.Writes (j : Int), ())
theorem it_ok {c : api_Capture} {part : List Bool} {b : Bool} {q : Nat → Bool} (hn : c.Writes.length ≤ 1000000) (hl : part.length = c.Writes.length) (hq : ∀ j : Nat, j < c.Writes.length → (ix part (j : Int) = b ↔ q j = true)) : cycle_division_writes_1_I ⟨c, part⟩ b (itL c q) := by
  unfold itL
  rw [List.range_eq_range']
  refine LoopW.upT c.Writes.length (fun k => (((List.range' k (c.Writes.length - k)).filter q).map fun j : Nat => ((j : Int), ix c.Writes (j : Int), ()), (k : Int))) rfl (fun k rec hk hr => ⟨fun _ => ⟨iX (by omega) (by show (k : Int) < (c.Writes.length : Int); omega), iX (by omega) (by show (k : Int) < (part.length : Int); omega), fun e => ?_, fun e => ?_⟩, fun r => absurd (show (k : Int) < (c.Writes.length : Int) by omega) r⟩) fun rec => ⟨fun r => absurd r (by show ¬ (c.Writes.length : Int) < (c.Writes.length : Int); omega), fun _ => by rw [Nat.sub_self]; rfl⟩
  · have es : c.Writes.length - k = (c.Writes.length - (k + 1)) + 1 := by omega
    rw [es, List.range'_succ, List.filter_cons_of_pos ((hq k hk).1 e), List.map_cons]
    exact ⟨rfl, ⟨iI (by omega) (by omega), hr _ rfl⟩, trivial⟩
  · have es : c.Writes.length - k = (c.Writes.length - (k + 1)) + 1 := by omega
    rw [es, List.range'_succ, List.filter_cons_of_neg (fun t => e ((hq k hk).2 t))]
    exact ⟨iI (by omega) (by omega), hr _ rfl⟩
theorem it_mem {c : api_Capture} {q : Nat → Bool} {pre : List (Int × api_Write × Unit)} {x : Int × api_Write × Unit} {r : List (Int × api_Write × Unit)} (h : itL c q = pre ++ x :: r) : ∃ j : Nat, j < c.Writes.length ∧ q j = true ∧ x = ((j : Int), ix c.Writes (j : Int), ()) := by
  have : x ∈ itL c q := by rw [h]; simp
  unfold itL at this
  obtain ⟨j, hj, rfl⟩ := List.mem_map.1 this
  have := List.mem_filter.1 hj
  exact ⟨j, List.mem_range.1 this.1, this.2, rfl⟩
theorem it_len {c : api_Capture} {q : Nat → Bool} {pre : List (Int × api_Write × Unit)} {x : Int × api_Write × Unit} {r : List (Int × api_Write × Unit)} (h : itL c q = pre ++ x :: r) : pre.length + 1 ≤ c.Writes.length := by
  have h1 : (itL c q).length ≤ c.Writes.length := by
    unfold itL
    rw [List.length_map]
    have := List.length_filter_le q (List.range c.Writes.length)
    rw [List.length_range] at this; exact this
  rw [h, List.length_append, List.length_cons] at h1
  omega
def geL (k : Nat) (pre : List (Int × api_Write × Unit)) : List api_Write := (pre.filter fun x => decide ((k : Int) ≤ x.1)).map (·.2.1)
theorem geL_snoc (k : Nat) (pre : List (Int × api_Write × Unit)) (x : Int × api_Write × Unit) : geL k (pre ++ [x]) = if (k : Int) ≤ x.1 then geL k pre ++ [x.2.1] else geL k pre := by
  unfold geL
  rw [List.filter_append]
  by_cases h : (k : Int) ≤ x.1
  · rw [if_pos h]; simp [h]
  · rw [if_neg h]; simp [h]
theorem later_ok {c : api_Capture} {part : List Bool} {q : Nat → Bool} {k : Nat} {w : api_Write} {Φ : api_Write → Prop} (hc : CapOk c) (hn : c.Writes.length ≤ 1000000) (hl : part.length = c.Writes.length) (hq : ∀ j : Nat, j < c.Writes.length → (ix part (j : Int) = true ↔ q j = true)) (hw : placedR w = 0) (hΦ : Φ (hidW w (geL k (itL c q)))) : Z34 ⟨c, part⟩ (k : Int) w Φ := by
  have w0 := placed0 hw
  refine cycle_copied_ok (by omega) ⟨itL c q, it_ok hn hl hq, ?_⟩
  refine LoopW.split (itL c q) (fun pre => tabL w.Data.length fun j => mget (effM (geL k pre)) ⟨w.Volume, w.Start + (j : Int)⟩ (ix w.Data (j : Int))) ?_ (fun pre x r rec hx hr => ?_) fun rec => hΦ
  · show w.Data = _
    conv => lhs; rw [← tab_self w.Data]
    rfl
  · obtain ⟨j, hj, hqj, rfl⟩ := it_mem hx
    have x0 := placed0 (hc.pl _ (ix_mem (iX (i := (j : Int)) (n := c.Writes.length) (by omega) (by omega))))
    have J2 : ∀ b : Bool, (b = true ↔ (j : Int) < (k : Int) ∨ (ix c.Writes (j : Int)).Volume ≠ w.Volume) → Z32 w (tabL w.Data.length fun j => mget (effM (geL k pre)) ⟨w.Volume, w.Start + (j : Int)⟩ (ix w.Data (j : Int))) rec ((j : Int), ix c.Writes (j : Int), ()) r Φ b := fun b hb => by
      refine ⟨fun t => hr _ (pairE rfl ?_), fun t => ?_⟩
      · rw [geL_snoc]
        by_cases h : (k : Int) ≤ (j : Int)
        · rw [if_pos h]
          refine tab_congr fun i hi => ?_
          unfold mget
          rw [effM_snoc, wrM_find, if_neg]
          rintro ⟨h1, _⟩
          have h1 : w.Volume = (ix c.Writes (j : Int)).Volume := h1
          rcases hb.1 t with h2 | h2
          · omega
          · exact h2 h1.symm
        · rw [if_neg h]
      · have hjk : (k : Int) ≤ (j : Int) := by
          by_cases h : (j : Int) < (k : Int)
          · exact absurd (hb.2 (.inl h)) t
          · omega
        have hvv : (ix c.Writes (j : Int)).Volume = w.Volume := Classical.byContradiction fun h => t (hb.2 (.inr h))
        refine LoopW.upT w.Data.length (fun a => ((a : Int), tabL w.Data.length fun i => if i < a then mget (effM (geL k pre ++ [ix c.Writes (j : Int)])) ⟨w.Volume, w.Start + (i : Int)⟩ (ix w.Data (i : Int)) else mget (effM (geL k pre)) ⟨w.Volume, w.Start + (i : Int)⟩ (ix w.Data (i : Int)))) ?_ (fun a rec2 ha hr2 => ⟨fun _ => ⟨iI (by omega) (by omega), iI (by show _ ≤ w.Start + (a : Int) - (ix c.Writes (j : Int)).Start; omega) (by show w.Start + (a : Int) - (ix c.Writes (j : Int)).Start ≤ _; omega), iI (by show _ ≤ ((ix c.Writes (j : Int)).Data.length : Int) - 1; omega) (by show ((ix c.Writes (j : Int)).Data.length : Int) - 1 ≤ _; omega), cycle_in_ok ?_⟩, fun u => absurd (show (a : Int) < ((tabL w.Data.length _).length : Int) by rw [tab_len]; omega) u⟩) fun rec2 => ⟨fun u => absurd u (by rw [tab_len]; omega), fun _ => hr _ (pairE rfl ?_)⟩
        · refine pairE rfl (tab_congr fun i _ => by rw [if_neg (Nat.not_lt_zero i)])
        · have ef : mfind (effM (geL k pre ++ [ix c.Writes (j : Int)])) ⟨w.Volume, w.Start + (a : Int)⟩ = if 0 ≤ w.Start + (a : Int) - (ix c.Writes (j : Int)).Start ∧ w.Start + (a : Int) - (ix c.Writes (j : Int)).Start ≤ ((ix c.Writes (j : Int)).Data.length : Int) - 1 then some (ix (ix c.Writes (j : Int)).Data (w.Start + (a : Int) - (ix c.Writes (j : Int)).Start)) else mfind (effM (geL k pre)) ⟨w.Volume, w.Start + (a : Int)⟩ := by
            rw [effM_snoc, wrM_find]
            by_cases h : 0 ≤ w.Start + (a : Int) - (ix c.Writes (j : Int)).Start ∧ w.Start + (a : Int) - (ix c.Writes (j : Int)).Start ≤ ((ix c.Writes (j : Int)).Data.length : Int) - 1
            · rw [if_pos h, if_pos ⟨hvv.symm, by show _ ≤ w.Start + (a : Int); omega, by show w.Start + (a : Int) < _; omega⟩]
            · rw [if_neg h, if_neg (fun u => h ⟨by have : (ix c.Writes (j : Int)).Start ≤ w.Start + (a : Int) := u.2.1; omega, by have : w.Start + (a : Int) < (ix c.Writes (j : Int)).Start + ((ix c.Writes (j : Int)).Data.length : Int) := u.2.2; omega⟩)]
          refine ⟨fun u => ?_, fun u => ?_⟩
          · have u := of_decide_eq_true u
            have u : 0 ≤ w.Start + (a : Int) - (ix c.Writes (j : Int)).Start ∧ w.Start + (a : Int) - (ix c.Writes (j : Int)).Start ≤ ((ix c.Writes (j : Int)).Data.length : Int) - 1 := u
            refine ⟨iX u.1 (by show w.Start + (a : Int) - (ix c.Writes (j : Int)).Start < ((ix c.Writes (j : Int)).Data.length : Int); omega), iX (by omega) (by rw [tab_len]; omega), iI (by omega) (by omega), hr2 _ (pairE rfl ?_)⟩
            refine tab_put ha ?_ fun i hi hne => ?_
            · rw [if_pos (by omega)]
              unfold mget
              rw [ef, if_pos u]
            · by_cases h : i < a
              · rw [if_pos h, if_pos (by omega)]
              · rw [if_neg h, if_neg (by omega)]
          · have u : ¬ (0 ≤ w.Start + (a : Int) - (ix c.Writes (j : Int)).Start ∧ w.Start + (a : Int) - (ix c.Writes (j : Int)).Start ≤ ((ix c.Writes (j : Int)).Data.length : Int) - 1) := fun v => u (decide_eq_true v)
            refine ⟨iI (by omega) (by omega), hr2 _ (pairE rfl ?_)⟩
            refine tab_congr fun i hi => ?_
            by_cases h : i < a
            · rw [if_pos h, if_pos (by omega)]
            · rw [if_neg h]
              by_cases h2 : i = a
              · subst h2
                rw [if_pos (by omega)]
                unfold mget
                rw [ef, if_neg u]
              · rw [if_neg (by omega)]
        · rw [geL_snoc, if_pos hjk]
          exact tab_congr fun i hi => if_pos hi
    exact ⟨fun u => J2 true ⟨fun _ => .inl u, fun _ => rfl⟩, fun u => J2 _ (by
      rw [decide_eq_true_eq]
      exact ⟨.inr, fun h => h.resolve_left u⟩)⟩
theorem ge_lat {c : api_Capture} {p : Nat → Bool} {k : Nat} (hp : p k = false) : geL k (itL c p) = latL c p k := by
  unfold geL latL selW itL
  rw [List.filter_map, List.map_map]
  have e : (List.filter ((fun x : Int × api_Write × Unit => decide ((k : Int) ≤ x.1)) ∘ fun j : Nat => ((j : Int), ix c.Writes (j : Int), ())) ((List.range c.Writes.length).filter p)) = (List.range c.Writes.length).filter fun j => decide (k < j) && p j := by
    rw [List.filter_filter]
    refine List.filter_congr fun j _ => ?_
    show (decide ((k : Int) ≤ (j : Int)) && p j) = _
    by_cases hj : p j = true
    · rw [hj, Bool.and_true, Bool.and_true]
      refine decide_eq_decide.2 ?_
      have : j ≠ k := by rintro rfl; rw [hp] at hj; exact Bool.noConfusion hj
      omega
    · rw [Bool.of_not_eq_true hj, Bool.and_false, Bool.and_false]
  rw [e]; rfl
theorem tab_repl {α : Type} {n : Nat} {x : α} {f : Nat → α} (h : ∀ i, i < n → f i = x) : List.replicate n x = tabL n f := by
  unfold tabL
  induction n with
  | zero => rfl
  | succ n ih => rw [List.replicate_succ', range_snoc_map, ih fun i hi => h i (by omega), h n (by omega)]
theorem it_sel (c : api_Capture) (q : Nat → Bool) : (itL c q).map (fun x => x.2.1) = selW c q c.Writes.length := by
  unfold itL selW
  rw [List.map_map]; rfl
theorem fold_sel {c : api_Capture} (hc : CapOk c) (q : Nat → Bool) : foldR (selW c q c.Writes.length) = (canL (effM (selW c q c.Writes.length)), 0) := by
  unfold foldR
  rw [if_neg fun t => t (firstN_zero.2 fun k hk => hc.sel q (Nat.le_refl _) _ (ix_mem (iX (by omega) (by omega))))]
theorem part_dec (d : Nat → Int) (N : List Int) {m k : Nat} (h0 : 0 ≤ ix N (k : Int)) (h1 : ix N (k : Int) < (m : Int)) : decide (0 < ix (leftF d N m k) (ix N (k : Int))) = partF d N k := by
  rw [ix_left h0 h1]; rfl
theorem cycle_Close_ok {c : api_Capture} {t : Int} {to : List Int} {Φ : api_Capture × api_Cycle × Int → Prop} (hs : SmallC c) (hto : to.length ≤ 20) (hr : ∀ i : Nat, i < to.length → inI (ix to (i : Int))) (hΦ : Φ (cloR c t to)) : cycle_Close_W c t to Φ := by
  have er : ∀ e, cloE c t to = e → e ≠ 0 → Φ (cap0, cyc0, e) := fun e h1 h2 => by
    unfold cloR at hΦ; rw [h1, if_pos h2] at hΦ; exact hΦ
  have cr : ∀ e, cptE c = e → e ≠ 0 → Φ (cap0, cyc0, e) := fun e h1 h2 => er e (by unfold cloE; rw [h1, if_pos h2]) h2
  have s1 := hs.pos
  have s2 := hs.nodes
  have s3 := hs.len
  have s5 := hs.sizes
  have s4 : ∀ w ∈ c.Writes, w.Data.length ≤ 1000000 := fun w hw => by have := hs.data w hw; omega
  refine image_New_ok (fun hz => ⟨fun q => absurd rfl q, fun _ => ?_⟩) fun hz => ⟨fun _ => cr _ (by unfold cptE; rw [if_pos hz]) hz, fun q => absurd (show sizesE c.Sizes = 0 from Classical.not_not.1 q) hz⟩
  have h8 := sizesE_len hz
  have e := szs_zeroI hz
  have hz' : imgE (zeroI c.Sizes) = 0 := by unfold imgE; rw [e]; exact hz
  refine cycle_in_ok ⟨fun r => ?_, fun r => ?_⟩
  · have := of_decide_eq_false (Bool.eq_false_iff.2 r)
    exact cr 2 (by unfold cptE; rw [if_neg (by omega), if_pos (by omega)]) (by omega)
  have a1 := of_decide_eq_true (Classical.not_not.1 r)
  refine cycle_positions_ok (by omega) ⟨fun u => cr _ (by unfold cptE; rw [if_neg (by omega), if_neg (by omega), if_pos u]) u, fun u => ?_⟩
  have u := Classical.not_not.1 u
  refine ⟨fun v => ⟨fun x => cr 6 (by unfold cptE; rw [if_neg (by omega), if_neg (by omega), if_neg (by omega), if_pos (by omega)]) (by omega), fun x => ?_⟩, fun v => cr 6 (by unfold cptE; rw [if_neg (by omega), if_neg (by omega), if_neg (by omega), if_pos (by omega)]) (by omega)⟩
  have ce : cptE c = firstN (nodW c) c.Writes.length := by unfold cptE; rw [if_neg (by omega), if_neg (by omega), if_neg (by omega), if_neg (by omega)]
  refine LoopW.errI c.Writes.length (fun k => (k : Int)) (nodW c) (Ψ := fun o => o = cptE c) rfl ce.symm (fun k rec hk hj g1 g2 => ⟨fun _ => ⟨iX (by omega) (by omega), iX (by omega) (by omega), iI (by omega) (by omega), cycle_in_ok ⟨fun y => ?_, fun y => ?_⟩⟩, fun _ => by omega⟩) fun rec _ c0 => ⟨fun _ => by omega, fun _ => cycle_in_ok ⟨fun y => ?_, fun y => ?_⟩⟩
  · have := of_decide_eq_false (Bool.eq_false_iff.2 y)
    unfold nodW at g1; rw [if_pos (by omega)] at g1
    exact cr 7 (g1 (by omega)).symm (by omega)
  · have := of_decide_eq_true (Classical.not_not.1 y)
    unfold nodW at g1 g2; rw [if_neg (by omega)] at g1 g2
    refine image_Fits_ok (s4 _ (ix_mem (iX (i := (k : Int)) (n := c.Writes.length) (by omega) (by omega)))) hz' ?_
    rw [e]
    exact ⟨fun z => cr _ (g1 z).symm z, fun z => ⟨iI (by omega) (by omega), g2 (Classical.not_not.1 z) _ rfl⟩⟩
  · have := of_decide_eq_false (Bool.eq_false_iff.2 y)
    exact er 24 (by unfold cloE; rw [if_neg (by omega), if_pos (by omega)]) (by omega)
  have a2 := of_decide_eq_true (Classical.not_not.1 y)
  have hk := capOk_of c0.symm
  refine ⟨fun z => er 6 (by unfold cloE; rw [if_neg (by omega), if_neg (by omega), if_pos (by omega)]) (by omega), fun z => ?_⟩
  have hm : to.length = c.Positions.length := by omega
  have bad2 : badB c to = true → Φ (cap0, cyc0, 2) := fun hb => er 2 (by unfold cloE; rw [if_neg (by omega), if_neg (by omega), if_neg (by omega), if_pos hb]) (by omega)
  have wc : ∀ i : Nat, i < to.length → dW c to i = dT c to i ∨ (4611686018427387904 ≤ dW c to i ∧ dW c to i ≤ 9223372036854775807 ∧ ix to (i : Int) < ix c.Positions (i : Int)) := fun i hi => wrap_case (hr i hi) (hk.pos i (by omega))
  have wT : ∀ i : Nat, i < to.length → dT c to i ≤ 9223372036854775807 := fun i hi => by
    have h1 := (hr i hi).2
    have h2 := hk.pos i (by omega)
    unfold dT; omega
  have wU : ∀ i : Nat, i < to.length → dW c to i ≤ 9223372036854775807 := fun i hi => by
    rcases wc i hi with h | h
    · rw [h]; exact wT i hi
    · exact h.2.1
  refine ⟨by omega, iL (by omega) (by omega), ?_⟩
  refine LoopW.upI to.length (fun k => ((k : Int), tabL to.length fun i => if i < k then dW c to i else 0)) (fun k => ∀ j, j < k → 0 ≤ dW c to j) (pairE rfl (tab_repl fun i _ => if_neg (Nat.not_lt_zero i))) (fun j hj => absurd hj (Nat.not_lt_zero j)) (fun k rec hk' hI hrec => ⟨fun _ => ⟨iX (by omega) (by omega), iX (by omega) (by omega), iX (by omega) (by rw [tab_len]; omega), iX (by omega) (by rw [put_len, tab_len]; omega), ?_⟩, fun q => by omega⟩) fun rec hI => ⟨fun q => by omega, fun _ => ?_⟩
  · rw [ix_put_self _ (iX (by omega) (by rw [tab_len]; omega))]
    show (¬ (0 ≤ dW c to k) → _) ∧ (¬ ¬ (0 ≤ dW c to k) → _)
    refine ⟨fun q => bad2 (badB_true hk' ?_), fun q => ⟨iI (by omega) (by omega), hrec (fun j hj => ?_) _ (pairE rfl ?_)⟩⟩
    · rcases wc k hk' with h | h
      · rw [h] at q; unfold dT at q; exact .inl (by omega)
      · exact .inl h.2.2
    · rcases Nat.lt_or_ge j k with h2 | h2
      · exact hI j h2
      · obtain rfl : j = k := by omega
        exact Classical.not_not.1 q
    · refine tab_put hk' ?_ fun i hi hne => ?_
      · rw [if_pos (by omega)]; rfl
      · by_cases h : i < k
        · rw [if_pos h, if_pos (by omega)]
        · rw [if_neg h, if_neg (by omega)]
  have e0 : (tabL to.length fun i => if i < to.length then dW c to i else 0) = leftF (dW c to) c.Nodes to.length 0 := tab_congr fun i hi => by
    have := hI i hi
    rw [if_pos hi]
    show _ = pos0 (dW c to i - ((0 : Nat) : Int))
    unfold pos0
    split <;> omega
  rw [e0]
  refine LoopW.upT c.Nodes.length (fun k => ((k : Int), leftF (dW c to) c.Nodes to.length k, tabL k (partF (dW c to) c.Nodes))) rfl (fun k rec hk' hrec => ⟨fun _ => ?_, fun q => by omega⟩) fun rec => ⟨fun q => by omega, fun _ => ?_⟩
  · have hn := hk.node k (by omega)
    have ll : (leftF (dW c to) c.Nodes to.length k).length = to.length := tab_len _ _
    have hx := ix_left (d := dW c to) (N := c.Nodes) (m := to.length) (k := k) hn.1 (by omega)
    obtain ⟨a, ha⟩ := Int.eq_ofNat_of_zero_le hn.1
    have hu := wU a (by omega)
    have hb : 0 ≤ pos0 (dW c to (ix c.Nodes (k : Int)).toNat - (cnt c.Nodes (ix c.Nodes (k : Int)) k : Int)) ∧ pos0 (dW c to (ix c.Nodes (k : Int)).toNat - (cnt c.Nodes (ix c.Nodes (k : Int)) k : Int)) ≤ 9223372036854775807 := by
      rw [ha, Int.toNat_natCast]
      unfold pos0
      split <;> omega
    refine ⟨iX (by omega) (by omega), iX (by omega) (by rw [ll]; omega), iL (by rw [len_snoc, tab_len]; omega) (by omega), iX (by omega) (by rw [ll]; omega), by rw [hx]; exact iI (by omega) (by omega), iX (by omega) (by rw [ll]; omega), iI (by omega) (by omega), hrec _ (pairE rfl (pairE ?_ ?_))⟩
    · exact left_step hn.1 (by omega) (by rw [hx]; rfl)
    · rw [tab_snoc, part_dec (m := to.length) _ _ hn.1 (by omega)]
  have ll : (leftF (dW c to) c.Nodes to.length c.Nodes.length).length = to.length := tab_len _ _
  have ne1 : ¬ ((0 : Int) ≤ -1) := by omega
  refine LoopW.upI to.length (fun k => (k : Int)) (fun k => ∀ j : Nat, j < k → ¬ 0 < ix (leftF (dW c to) c.Nodes to.length c.Nodes.length) (j : Int)) rfl (fun j hj => absurd hj (Nat.not_lt_zero j)) (fun k rec hk' hI2 hrec => ⟨fun _ => ⟨iX (by omega) (by rw [ll]; omega), fun q => ⟨fun _ => ?_, fun q2 => absurd (fun q3 => q3 (show (0 : Int) ≤ (k : Int) by omega)) q2⟩, fun q => ⟨iI (by omega) (by omega), hrec (fun j hj => ?_) _ rfl⟩⟩, fun q => absurd (show (k : Int) < ((leftF (dW c to) c.Nodes to.length c.Nodes.length).length : Int) by rw [ll]; omega) q⟩) fun rec hI2 => ⟨fun q => absurd q (by rw [ll]; omega), fun _ => ⟨fun q => absurd (Classical.not_not.1 q) ne1, fun _ => ?_⟩⟩
  · have q := of_decide_eq_true q
    have q : 0 < ix (leftF (dW c to) c.Nodes to.length c.Nodes.length) (k : Int) := q
    rw [ix_left (by omega) (by omega), Int.toNat_natCast] at q
    have q : 0 < dW c to k - (cnt c.Nodes (k : Int) c.Nodes.length : Int) := by
      unfold pos0 at q; split at q <;> omega
    refine bad2 (badB_true hk' ?_)
    rcases wc k hk' with h | h
    · rw [h] at q; unfold dT at q; exact .inr (by omega)
    · exact .inl h.2.2
  · rcases Nat.lt_or_ge j k with h2 | h2
    · exact hI2 j h2
    · obtain rfl : j = k := by omega
      exact fun r => q (decide_eq_true r)
  have dd : ∀ i, i < to.length → dW c to i = dT c to i ∧ dW c to i ≤ (cnt c.Nodes (i : Int) c.Nodes.length : Int) := fun i hi => by
    have q := hI2 i hi
    rw [ix_left (by omega) (by omega), Int.toNat_natCast] at q
    have q : dW c to i - (cnt c.Nodes (i : Int) c.Nodes.length : Int) ≤ 0 := by
      unfold pos0 at q; split at q <;> omega
    have := cnt_le c.Nodes (i : Int) c.Nodes.length
    rcases wc i hi with h | h
    · exact ⟨h, by omega⟩
    · omega
  have nb : badB c to = false := badB_false fun i hi hb => by
    obtain ⟨d1, d2⟩ := dd i hi
    have d3 := hI i hi
    rw [d1] at d2 d3
    unfold dT at d2 d3
    unfold badI at hb
    omega
  have c00 : cloE c t to = 0 := by unfold cloE; rw [if_neg (by omega), if_neg (by omega), if_neg (by omega), if_neg (by rw [nb]; simp)]
  unfold cloR at hΦ
  rw [if_neg (fun q => q c00)] at hΦ
  have pl : (tabL c.Nodes.length (partF (dW c to) c.Nodes)).length = c.Writes.length := by rw [tab_len]; omega
  have pq : ∀ j : Nat, j < c.Writes.length → ix (tabL c.Nodes.length (partF (dW c to) c.Nodes)) (j : Int) = inB c to j := fun j hj => by
    rw [ix_tab (by omega)]
    have hn := hk.node j hj
    obtain ⟨a, ha⟩ := Int.eq_ofNat_of_zero_le hn.1
    unfold inB partF
    rw [ha, Int.toNat_natCast, (dd a (by omega)).1]
  generalize tabL c.Nodes.length (partF (dW c to) c.Nodes) = part at pl pq
  have q1 : ∀ j : Nat, j < c.Writes.length → (ix part (j : Int) = true ↔ inB c to j = true) := fun j hj => by rw [pq j hj]
  have q2 : ∀ j : Nat, j < c.Writes.length → (ix part (j : Int) = false ↔ (!inB c to j) = true) := fun j hj => by rw [pq j hj]; simp
  generalize inB c to = p at hΦ q1 q2
  refine ⟨itL c p, it_ok (by omega) pl q1, ?_⟩
  refine LoopW.split (itL c p) (fun pre => pre.map fun x => x.2.1) rfl (fun pre x r rec hx hrec => ⟨iL (by have := it_len hx; rw [len_snoc, List.length_map]; omega) (by omega), hrec _ (pairE rfl (by rw [List.map_append]; rfl))⟩) fun rec => ?_
  show Z30 ((itL c p).map fun x => x.2.1) _
  rw [it_sel]
  refine coalesce_Fold_ok (by have := sel_len (c := c) (q := p) (n := c.Writes.length); omega) (fun w hw => s4 w (sel_mem (Nat.le_refl _) w hw)) ?_
  rw [fold_sel hk]
  refine ⟨fun q => absurd rfl q, fun _ => ⟨iI (by omega) (by omega), (to, ()), slices_Clone_int_ok (by omega) rfl, iI (by omega) (by omega), (c.Sizes, ()), slices_Clone_int_ok (by omega) rfl, (to, ()), slices_Clone_int_ok (by omega) rfl, itL c (fun j => !p j), it_ok (by omega) pl q2, ?_⟩⟩
  refine LoopW.split (itL c fun j => !p j) (fun pre => (pre.map fun x => ix c.Nodes x.1, pre.map fun x => hidW x.2.1 (latL c p x.1.toNat))) rfl (fun pre x r rec hx hrec => ?_) fun rec => ?_
  · have hlen := it_len hx
    obtain ⟨j, hj, hq, rfl⟩ := it_mem hx
    have hq : p j = false := by cases h : p j with
      | false => rfl
      | true => rw [h] at hq; exact Bool.noConfusion hq
    have lt : geL j (itL c p) = latL c p j := ge_lat hq
    refine ⟨iX (by show (0 : Int) ≤ (j : Int); omega) (by show (j : Int) < _; omega), iL (by rw [len_snoc, List.length_map]; omega) (by omega), (hidW (ix c.Writes (j : Int)) (latL c p j), ()), later_ok hk (by omega) pl q1 (hk.pl _ (ix_mem (iX (by omega) (by omega)))) (by rw [lt]), iL (by rw [len_snoc, List.length_map]; omega) (by omega), hrec _ (pairE rfl (pairE ?_ ?_))⟩
    · rw [List.map_append]; rfl
    · rw [List.map_append]; rfl
  · have e1 : ((itL c fun j => !p j).map fun x => ix c.Nodes x.1) = outN c p c.Writes.length := by unfold itL outN; rw [List.map_map]; rfl
    have e2 : ((itL c fun j => !p j).map fun x => hidW x.2.1 (latL c p x.1.toNat)) = outW c p c.Writes.length := by unfold itL outW; rw [List.map_map]; rfl
    show Φ (⟨c.Number + 1, c.Sizes, to, (itL c fun j => !p j).map fun x => ix c.Nodes x.1, (itL c fun j => !p j).map fun x => hidW x.2.1 (latL c p x.1.toNat)⟩, ⟨c.Number, c.Number + 1, t, to, canL (effM (selW c p c.Writes.length))⟩, 0)
    rw [e1, e2]; exact hΦ
theorem ref23_Close_ok {c : api_Capture} {t : Int} {to : List Int} {Φ : api_Capture × api_Cycle × Int → Prop} (hs : SmallC c) (hto : to.length ≤ 20) (hr : ∀ i : Nat, i < to.length → inI (ix to (i : Int))) (hΦ : Φ (cloR c t to)) : ref23_Close_W c t to Φ := by
  have er : ∀ e, cloE c t to = e → e ≠ 0 → Φ (cap0, cyc0, e) := fun e h1 h2 => by
    unfold cloR at hΦ; rw [h1, if_pos h2] at hΦ; exact hΦ
  have s1 := hs.pos
  have s2 := hs.nodes
  have s3 := hs.len
  have s5 := hs.sizes
  have s4 : ∀ w ∈ c.Writes, w.Data.length ≤ 1000000 := fun w hw => by have := hs.data w hw; omega
  refine ref23_CheckCapture_ok (by omega) s4 ⟨fun q => er _ (by unfold cloE; rw [if_pos q]) q, fun q => ?_⟩
  have hk := capOk_of (Classical.not_not.1 q)
  have J1 : ∀ b : Bool, (b = true ↔ t < 0 ∨ 1073741824 < t) → Z95 c t to Φ b := fun b hb => by
    refine ⟨fun r => er 24 (by unfold cloE; rw [if_neg q, if_pos (hb.1 r)]) (by omega), fun r => ?_⟩
    have ht := fun u => r (hb.2 u)
    refine ⟨fun z => er 6 (by unfold cloE; rw [if_neg q, if_neg ht, if_pos (by omega)]) (by omega), fun z => ⟨by omega, iL (by omega) (by omega), ?_⟩⟩
    have hm : to.length = c.Positions.length := by omega
    have bad2 : badB c to = true → Φ (cap0, cyc0, 2) := fun hb => er 2 (by unfold cloE; rw [if_neg q, if_neg ht, if_neg (by omega), if_pos hb]) (by omega)
    refine LoopW.upI to.length (fun k => ((k : Int), tabL to.length fun i => if i < k then dT c to i else 0)) (fun k => ∀ j, j < k → ¬ badI c to j) (pairE rfl (tab_repl fun i _ => if_neg (Nat.not_lt_zero i))) (fun j hj => absurd hj (Nat.not_lt_zero j)) (fun i rec hi hI hrec => ⟨fun _ => ?_, fun q => by omega⟩) fun rec hI => ⟨fun q => by omega, fun _ => ⟨by omega, iL (by omega) (by omega), ?_⟩⟩
    · have hpi := hk.pos i (by omega)
      have hti := hr i hi
      have hcl := cnt_le c.Nodes (i : Int) c.Nodes.length
      refine LoopW.upT c.Nodes.length (fun k => ((cnt c.Nodes (i : Int) k : Int), (k : Int))) rfl (fun k rec2 hk2 hr2 => ⟨fun _ => ⟨iX (by omega) (by omega), fun e => ?_, fun e => ?_⟩, fun q => by omega⟩) fun rec2 => ⟨fun q => by omega, fun _ => ⟨iX (by omega) (by omega), iX (by omega) (by omega), fun u => ?_, fun u => ⟨iX (by omega) (by omega), iX (by omega) (by omega), iI (by omega) (by omega), ?_⟩⟩⟩
      · have := cnt_le c.Nodes (i : Int) k
        exact ⟨iI (by omega) (by omega), iI (by omega) (by omega), hr2 _ (pairE (by rw [cnt_succ, if_pos e]; rfl) rfl)⟩
      · exact ⟨iI (by omega) (by omega), hr2 _ (pairE (by rw [cnt_succ, if_neg e]; rfl) rfl)⟩
      · exact ⟨fun _ => bad2 (badB_true hi (.inl u)), fun v => absurd rfl v⟩
      · refine ⟨fun v => bad2 (badB_true hi (.inr (of_decide_eq_true v))), fun v => ?_⟩
        have v : ¬ (ix c.Positions (i : Int) + (cnt c.Nodes (i : Int) c.Nodes.length : Int) < ix to (i : Int)) := fun x => v (decide_eq_true x)
        refine ⟨iX (by omega) (by omega), iX (by omega) (by omega), iI (by omega) (by omega), iX (by omega) (by rw [tab_len]; omega), iI (by omega) (by omega), hrec (fun j hj => ?_) _ (pairE rfl ?_)⟩
        · rcases Nat.lt_or_ge j i with h2 | h2
          · exact hI j h2
          · obtain rfl : j = i := by omega
            unfold badI; omega
        · refine tab_put hi ?_ fun k hk3 hne => ?_
          · rw [if_pos (by omega)]; rfl
          · by_cases h : k < i
            · rw [if_pos h, if_pos (by omega)]
            · rw [if_neg h, if_neg (by omega)]
    have nb : badB c to = false := badB_false hI
    have c00 : cloE c t to = 0 := by unfold cloE; rw [if_neg q, if_neg ht, if_neg (by omega), if_neg (by rw [nb]; simp)]
    unfold cloR at hΦ
    rw [if_neg (fun q => q c00)] at hΦ
    have dd : ∀ i, i < to.length → 0 ≤ dT c to i ∧ dT c to i ≤ 100 := fun i hi => by
      have := hI i hi
      have hcl := cnt_le c.Nodes (i : Int) c.Nodes.length
      unfold badI at this
      unfold dT; omega
    have e0 : (tabL to.length fun i => if i < to.length then dT c to i else 0) = leftF (dT c to) c.Nodes to.length 0 := tab_congr fun i hi => by
      have := dd i hi
      rw [if_pos hi]
      show _ = pos0 (dT c to i - ((0 : Nat) : Int))
      unfold pos0
      split <;> omega
    rw [e0]
    have hlen := hk.len
    refine LoopW.upT c.Writes.length (fun k => ((k : Int), leftF (dT c to) c.Nodes to.length k, tabL c.Writes.length (fun j => decide (j < k) && inB c to j), selW c (inB c to) k)) (pairE rfl (pairE rfl (pairE (tab_repl fun i _ => by rw [decide_eq_false (Nat.not_lt_zero i), Bool.false_and]) rfl))) (fun k rec hk' hrec => ⟨fun _ => ?_, fun q => by omega⟩) fun rec => ⟨fun q => by omega, fun _ => ?_⟩
    · have hn := hk.node k hk'
      have ll : (leftF (dT c to) c.Nodes to.length k).length = to.length := tab_len _ _
      have hx := ix_left (d := dT c to) (N := c.Nodes) (m := to.length) (k := k) hn.1 (by omega)
      obtain ⟨a, ha⟩ := Int.eq_ofNat_of_zero_le hn.1
      have hu := dd a (by omega)
      have hb : 0 ≤ pos0 (dT c to (ix c.Nodes (k : Int)).toNat - (cnt c.Nodes (ix c.Nodes (k : Int)) k : Int)) ∧ pos0 (dT c to (ix c.Nodes (k : Int)).toNat - (cnt c.Nodes (ix c.Nodes (k : Int)) k : Int)) ≤ 100 := by
        rw [ha, Int.toNat_natCast]
        unfold pos0
        split <;> omega
      have sl := sel_len (c := c) (q := inB c to) (n := k)
      refine ⟨iX (by omega) (by omega), iX (by omega) (by rw [ll]; omega), fun u => ?_, fun u => ?_⟩
      · rw [hx] at u ⊢
        have hin : inB c to k = true := decide_eq_true u
        refine ⟨iX (by omega) (by omega), iX (by omega) (by rw [ll]; omega), iI (by omega) (by omega), iX (by omega) (by rw [ll]; omega), iX (by omega) (by rw [tab_len]; omega), iX (by omega) (by omega), iL (by rw [len_snoc]; omega) (by omega), iI (by omega) (by omega), hrec _ (pairE rfl (pairE (left_step hn.1 (by omega) ?_) (pairE (tab_put hk' ?_ fun i hi hne => ?_) ?_)))⟩
        · generalize pos0 (dT c to (ix c.Nodes (k : Int)).toNat - (cnt c.Nodes (ix c.Nodes (k : Int)) k : Int)) = y at u
          unfold pos0; split <;> omega
        · rw [hin, decide_eq_true (by omega)]; rfl
        · congr 1
          exact decide_eq_decide.2 (by omega)
        · unfold selW
          rw [filter_snoc, if_pos hin, List.map_append]; rfl
      · rw [hx] at u
        have hin : inB c to k = false := decide_eq_false u
        refine ⟨iI (by omega) (by omega), hrec _ (pairE rfl (pairE (left_same hn.1 u).symm (pairE (tab_congr fun i hi => ?_) ?_)))⟩
        · by_cases h : i = k
          · subst h; rw [hin, Bool.and_false, Bool.and_false]
          · congr 1
            exact decide_eq_decide.2 (by omega)
        · unfold selW
          rw [filter_snoc, if_neg (by rw [hin]; simp), List.append_nil]
    have num := hk.num
    have e1 : tabL c.Writes.length (fun j => decide (j < c.Writes.length) && inB c to j) = tabL c.Writes.length (inB c to) := tab_congr fun i hi => by rw [decide_eq_true hi, Bool.true_and]
    rw [e1]
    generalize inB c to = p at hΦ
    refine ⟨iI (by omega) (by omega), (c.Sizes, ()), ref23_ints_ok (by omega) rfl, (to, ()), ref23_ints_ok (by omega) rfl, ?_⟩
    refine LoopW.upT c.Writes.length (fun k => ((k : Int), outN c p k, outW c p k)) rfl (fun k rec hk' hrec => ⟨fun _ => ⟨iX (by omega) (by rw [tab_len]; omega), fun u => ?_, fun u => ?_⟩, fun q => by omega⟩) fun rec => ⟨fun q => by omega, fun _ => ?_⟩
    · rw [ix_tab hk'] at u
      refine ⟨iI (by omega) (by omega), hrec _ (pairE rfl (pairE ?_ ?_))⟩
      · unfold outN; rw [filter_snoc, if_neg (by rw [u]; simp), List.append_nil]
      · unfold outW; rw [filter_snoc, if_neg (by rw [u]; simp), List.append_nil]
    · rw [ix_tab hk'] at u
      have ol := out_len c p k
      refine ⟨iI (by omega) (by omega), ?_⟩
      refine LoopW.upT (c.Writes.length - (k + 1)) (fun i => (((k + 1 + i : Nat) : Int), selW c (fun j => decide (k < j) && p j) (k + 1 + i))) (pairE rfl ?_) (fun i rec2 hi hr2 => ⟨fun _ => ⟨iX (by omega) (by rw [tab_len]; omega), fun v => ?_, fun v => ?_⟩, fun q => by omega⟩) fun rec2 => ⟨fun q => by omega, fun _ => ?_⟩
      · unfold selW
        have : (List.range (k + 1 + 0)).filter (fun j => decide (k < j) && p j) = [] := List.filter_eq_nil_iff.2 fun j hj => by
          have := List.mem_range.1 hj
          rw [decide_eq_false (by omega), Bool.false_and]; simp
        rw [this]; rfl
      · rw [ix_tab (by omega)] at v
        have sl := sel_len (c := c) (q := fun j => decide (k < j) && p j) (n := k + 1 + i)
        refine ⟨iX (by omega) (by omega), iL (by rw [len_snoc]; omega) (by omega), iI (by omega) (by omega), hr2 _ (pairE (by omega) ?_)⟩
        show _ = selW c (fun j => decide (k < j) && p j) (k + 1 + i + 1)
        unfold selW
        rw [filter_snoc (fun j => decide (k < j) && p j), if_pos (by rw [v, decide_eq_true (by omega)]; rfl), List.map_append]; rfl
      · rw [ix_tab (by omega)] at v
        refine ⟨iI (by omega) (by omega), hr2 _ (pairE (by omega) ?_)⟩
        show _ = selW c (fun j => decide (k < j) && p j) (k + 1 + i + 1)
        unfold selW
        rw [filter_snoc (fun j => decide (k < j) && p j), if_neg (by rw [Bool.of_not_eq_true v, Bool.and_false]; simp), List.append_nil]
      · have el : selW c (fun j => decide (k < j) && p j) (k + 1 + (c.Writes.length - (k + 1))) = latL c p k := by
          unfold latL; rw [show k + 1 + (c.Writes.length - (k + 1)) = c.Writes.length by omega]
        rw [el]
        have lp : PlL (latL c p k) := hk.sel _ (Nat.le_refl _)
        have lll : (latL c p k).length ≤ c.Writes.length := sel_len
        refine ⟨iX (by omega) (by omega), iL (by rw [len_snoc]; omega) (by omega), iX (by omega) (by omega), (hidW (ix c.Writes (k : Int)) (latL c p k), ()), ref23_hidden_ok (hk.pl _ (ix_mem (iX (by omega) (by omega)))) (by omega) lp rfl, iL (by rw [len_snoc]; omega) (by omega), iI (by omega) (by omega), hrec _ (pairE rfl (pairE ?_ ?_))⟩
        · unfold outN; rw [filter_snoc, if_pos (by rw [Bool.of_not_eq_true u]; rfl), List.map_append]; rfl
        · unfold outW; rw [filter_snoc, if_pos (by rw [Bool.of_not_eq_true u]; rfl), List.map_append]; rfl
    · refine ref22_Fold_ok (by have := sel_len (c := c) (q := p) (n := c.Writes.length); omega) (fun w hw => s4 w (sel_mem (Nat.le_refl _) w hw)) ?_
      rw [fold_sel hk]
      exact ⟨iI (by omega) (by omega), (to, ()), ref23_ints_ok (by omega) rfl, hΦ⟩
  exact ⟨fun r => J1 true ⟨fun _ => .inl r, fun _ => rfl⟩, fun r => J1 _ (by simp; omega)⟩
theorem cloR_mid {c : api_Capture} {t : Int} {to : List Int} (hs : SmallC c) (hto : to.length ≤ 20) : MidC (cloR c t to).1 ∧ (cloR c t to).2.1.Positions.length ≤ 1000000 ∧ (cloR c t to).2.1.Writes.length ≤ 1000000 ∧ ∀ w ∈ (cloR c t to).2.1.Writes, w.Data.length ≤ 1000000 := by
  unfold cloR
  by_cases h : cloE c t to ≠ 0
  · rw [if_pos h]
    exact ⟨MidC.zero, Nat.zero_le _, Nat.zero_le _, fun w hw => absurd hw List.not_mem_nil⟩
  · rw [if_neg h]
    have hk : CapOk c := capOk_of (Classical.byContradiction fun q => h (by unfold cloE; rw [if_pos q]; exact q))
    generalize inB c to = p
    have s3 := hs.len
    have ol := out_len c p c.Writes.length
    have cn := canL_can (effM_nodup (selW c p c.Writes.length)) fun q hq => (effM_place (hk.sel p (Nat.le_refl _)) q hq).1
    have sb : secN (selW c p c.Writes.length) ≤ 1000 := by
      have h1 := secN_bound (c := 24) (selW c p c.Writes.length) fun w hw => hs.data w (sel_mem (Nat.le_refl _) w hw)
      have h2 := Nat.mul_le_mul_right 24 (Nat.le_trans (sel_len (c := c) (q := p) (n := c.Writes.length)) s3)
      omega
    have se := effM_sum (selW c p c.Writes.length)
    have cl := can_len cn
    have cs := cn.sum
    have each : ∀ w ∈ canL (effM (selW c p c.Writes.length)), w.Data.length ≤ 1000000 := fun w hw => by have := secN_each w hw; omega
    have ew : ∀ w ∈ outW c p c.Writes.length, w.Data.length ≤ 1000000 := fun w hw => by
      unfold outW at hw
      obtain ⟨j, hj, rfl⟩ := List.mem_map.1 hw
      have hj := List.mem_range.1 (List.mem_filter.1 hj).1
      have := hs.data _ (ix_mem (iX (i := (j : Int)) (n := c.Writes.length) (by omega) (by omega)))
      show (tabL _ _).length ≤ _
      rw [tab_len]; omega
    exact ⟨⟨hs.mid.sizes, by show to.length ≤ _; omega, by show (outN _ _ _).length ≤ _; omega, by show (outW _ _ _).length ≤ _; omega, ew⟩, by show to.length ≤ _; omega, by show (canL (effM (selW c p c.Writes.length))).length ≤ _; omega, each⟩
theorem ref23_Same_refl {c : api_Cycle} {Φ : Bool → Prop} (hp : c.Positions.length ≤ 1000000) (hl : c.Writes.length ≤ 1000000) (hd : ∀ w ∈ c.Writes, w.Data.length ≤ 1000000) (hΦ : Φ true) : ref23_Same_W c c Φ :=
  ⟨fun _ => ⟨fun _ => ⟨fun _ => ref23_SameInts_refl hp ⟨fun _ => ref03_SameWrites_refl hl hd hΦ, fun q => absurd rfl q⟩, fun q => absurd rfl q⟩, fun q => absurd rfl q⟩, fun q => absurd rfl q⟩
theorem cycleCloses_law (c : api_Capture) (t : Int) (to : List Int) (_ : Rg.rg c) (_ : Rg.rg t) (hg : Rg.rg to) : Z100 c t to fun y => y = true := by
  have j1 : Z99 c t to (fun y => y = true) true := ⟨fun _ => law23_awake_ok rfl, fun q => absurd rfl q⟩
  refine law23_fewCapture_ok ⟨fun _ => j1, fun q => absurd (fun t => Bool.noConfusion t) q⟩ fun hc => ⟨fun r => absurd rfl r, fun _ => ?_⟩
  by_cases hw : 20 < (to.length : Int)
  · rw [decide_eq_true hw]; exact j1
  rw [decide_eq_false hw]
  have hr : ∀ i : Nat, i < to.length → inI (ix to (i : Int)) := fun i hi => hg.2 _ (ix_mem (iX (by omega) (by omega)))
  obtain ⟨m1, m2, m3, m4⟩ := cloR_mid (t := t) hc (show to.length ≤ 20 by omega)
  exact ⟨fun q => Bool.noConfusion q, fun _ => cycle_Close_ok hc (by omega) hr (ref23_Close_ok hc (by omega) hr (law23_awake_ok ⟨fun _ => ref23_SameCapture_refl m1 ⟨fun _ => ref23_Same_refl m2 m3 m4 ⟨fun _ => decide_eq_true rfl, fun q => absurd rfl q⟩, fun q => absurd rfl q⟩, fun q => absurd rfl q⟩))⟩
end Go.Proofs.YtbnfefbhalpceaaGreat
namespace Go.Proofs.YtbnfefbhalpceaaGreat
open Go.RowKit Go.ChangeShapes Go.WideShapes Go.ChangeAt
set_option maxRecDepth 100000 in
theorem cycleCloses_lifted (os : Os) (started : os.Started) (H : Type) (enc : TypeId × Value → H) :
    ReturnsInHanded {} Tryz.checked os 3 .any (Rows.cycleClosesSpec.pre6 enc Tryz.prog Tryz.f3 Rows.cycleClosesRow.domain false) (Rows.cycleClosesSpec.post enc Tryz.prog Tryz.f3 false true false false) := by
  refine returnsInHanded_of_change (C := Tryz.checked) Tryz.own started (by kernel_rfl) Tryz.func3
    (ChangeSpec.witness6 (enc := enc) (C := Tryz.checked) false ⟨#[], #[.agg #[.int .i64 (0), .slice none 0 0, .slice none 0 0, .slice none 0 0, .slice none 0 0], .int .i64 0, .slice none 0 0], []⟩ 8 (by kernel_rfl) (by kernel_rfl) (by kernel_rfl) (by kernel_rfl)) ?_
  intro W base args ds gs before hval0 hW _ _
  have hval : ∀ (j : Nat) t v, Tryz.f3.params[j]? = some t → args[j]? = some v → Value.okWide Tryz.prog W .any base t v := hval0
  have hW' := hW
  obtain ⟨p, q, hA0, hV, hpq, _, _⟩ := hW
  have hA : DataW.TrodAll enc Tryz.prog W 0 (fun _ => true) true Tryz.f3.params.toList args.toList ds p := hA0
  rw [Tryz.params3] at hA hval
  obtain ⟨v0, v1, v2, d0, d1, d2, p0, p1, p2, rfl, rfl, rfl, h0, h1, h2⟩ := trodAll_three hA
  obtain ⟨rfl, rfl⟩ := trodVars_none hV
  obtain ⟨ks0, x0, rfl, hr0, hg0⟩ := open_strD Tryz.underlying25 rd25 (hval 0 25 v0 rfl rfl) h0
  obtain ⟨x1, rfl, hg1⟩ := open_iD Tryz.underlying3 (hval 1 3 v1 rfl rfl) h1
  obtain ⟨Az2, nz2, cz2, sz2, x2, rfl, hz2, hg2⟩ := open_slD Tryz.underlying22 rd22 (hval 2 22 v2 rfl rfl) h2
  refine Calls.mono ((RetP.toV (y := true) (F := fun z => .bool z) (RetP.mono (ok3 (x0, x1, x2, ()) (fun y => y.1 = true) (cycleCloses_law x0 x1 x2 hg0 hg1 hg2) (HW W) [.agg ks0.toArray, .int .i64 x1, .slice Az2 nz2 cz2] trivial ⟨_, ks0, _, rfl, by rw [pkw25], (show Dt.rd (α := api_Capture) (HW W) _ _ from hr0), ⟨_, [.int .i64 x1], _, rfl, by rw [pkw3], (show Dt.rd (α := Int) (HW W) _ _ from rfl), ⟨_, [.slice Az2 nz2 cz2], _, rfl, by rw [pkw22], (show Dt.rd (α := List Int) (HW W) _ _ from ⟨Az2, nz2, cz2, sz2, rfl, hz2⟩), rfl⟩⟩⟩) fun _ _ _ _ ⟨y, hy, hr⟩ => lawRes y hy hr)) W fun b o e => e) ?_
  rintro e W' ⟨v, _, rfl, _, _, _, hb, rfl⟩
  exact ⟨_, rfl, post_law Tryz.laidOut Tryz.underlying4 rfl (by kernel_rfl) hW' rfl rfl hb⟩
theorem cycleCloses_holds : Rows.CycleClosesSaid :=
  OpenClaim.holds_of_wide 3 Tryz.f3 rfl rfl rfl rfl rfl rfl rfl ⟨rfl, rfl, rfl, rfl, rfl⟩ rfl rfl rfl rfl rfl (by kernel_rfl) Tryz.func3 (by kernel_rfl)
    (of_decide_eq_true (by kernel_rfl)) (by unfold Func.isWrapper; first | (rw [if_pos (by decide +kernel)]; kernel_rfl) | (rw [if_neg (by decide +kernel)]; exact ⟨rfl, rfl⟩))
    (fun os started H enc _ => cycleCloses_lifted os started H enc)
end Go.Proofs.YtbnfefbhalpceaaGreat
