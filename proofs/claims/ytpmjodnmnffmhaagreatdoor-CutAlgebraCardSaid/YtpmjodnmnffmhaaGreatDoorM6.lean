/- Proved: the tied card of the statement CutAlgebra: for every argument that can be read the law returns true and leaves its arguments as they were. Conditions: the row's own alone. -/
import Derived.Lib.TrailingZeros
import Derived.Test.YtpmjodnmnffmhaaGreatDoorM5
namespace Go.Proofs.YtpmjodnmnffmhaaGreatDoor
open Go.RowKit
def orK {S R : Type} (a : S → Prop) (b : R → Prop) : S ⊕ R → Prop
  | .inl s => a s
  | .inr r => b r
def loopS {S R : Type} (step : S → Option (S ⊕ R)) : Nat → S → Option R
  | 0, _ => none
  | n + 1, s => match step s with
    | none => none
    | some (.inl s') => loopS step n s'
    | some (.inr r) => some r
theorem LoopW.of_S {S R : Type} {step : S → (S → Prop) → Prop} {stepS : S → Option (S ⊕ R)} {K : R → Prop} (hs : ∀ s q rec, stepS s = some q → orK rec K q → step s rec) : ∀ (n : Nat) (s : S) {o : R}, loopS stepS n s = some o → K o → LoopW step s := by
  intro n s o h hK
  refine ⟨n, ?_⟩
  induction n generalizing s with
  | zero => cases h
  | succ n ih =>
    unfold loopS at h
    split at h
    · cases h
    · rename_i s' e
      exact hs s _ _ e (ih s' h)
    · rename_i r e
      cases h
      exact hs s _ _ e hK
theorem ofBind {α β : Type} {x : Option α} {f : α → Option β} {o : β} (h : Option.bind x f = some o) : ∃ v, x = some v ∧ f v = some o := Option.bind_eq_some_iff.1 h
theorem ofIf {α : Type} {p : Prop} [Decidable p] {x : Option α} {o : α} (h : (if p then x else none) = some o) : p ∧ x = some o := by
  by_cases hp : p
  · rw [if_pos hp] at h; exact ⟨hp, h⟩
  · rw [if_neg hp] at h; cases h
theorem ofT {α : Type} {p : Prop} [Decidable p] {x y : Option α} {o : α} (hp : p) (h : (if p then x else y) = some o) : x = some o := by rw [if_pos hp] at h; exact h
theorem ofF {α : Type} {p : Prop} [Decidable p] {x y : Option α} {o : α} (hp : ¬ p) (h : (if p then x else y) = some o) : y = some o := by rw [if_neg hp] at h; exact h
def bothS {α : Type} [DecidableEq α] (b : Bool) (x y : Option α) : Option α := if b = true then (if x = y then x else none) else y
theorem ofBoth {α : Type} [DecidableEq α] {b : Bool} {x y : Option α} {o : α} (h : bothS b x y = some o) : (b = true → x = some o) ∧ y = some o := by
  unfold bothS at h
  by_cases hb : b = true
  · rw [if_pos hb] at h
    by_cases he : x = y
    · rw [if_pos he] at h; exact ⟨fun _ => h, he ▸ h⟩
    · rw [if_neg he] at h; cases h
  · rw [if_neg hb] at h; exact ⟨fun q => absurd q hb, h⟩
theorem lfS {α : Type} {K : α → Prop} {a o : α} (h : some a = some o) (hK : K o) : K a := by
  cases h; exact hK
theorem adS {α : Type} {p : Prop} [Decidable p] {x : Option α} {o : α} {B : Prop} (h : (if p then x else none) = some o) (b : x = some o → B) : p ∧ B := ⟨(ofIf h).1, b (ofIf h).2⟩
theorem ifS {α : Type} {p : Prop} [Decidable p] {x y : Option α} {o : α} {A B : Prop} (h : (if p then x else y) = some o) (a : x = some o → A) (b : y = some o → B) : (p → A) ∧ (¬ p → B) := ⟨fun c => a (ofT c h), fun c => b (ofF c h)⟩
theorem mpS {α β : Type} {g : α → β} {x : Option α} {o : β} {G : Prop} (h : Option.map g x = some o) (k : ∀ v, x = some v → g v = o → G) : G := by
  obtain ⟨v, h1, h2⟩ := Option.map_eq_some_iff.1 h
  exact k v h1 h2
theorem blS {α β : Type} {x : Option α} {f : α → Option β} {o : β} {G : Prop} (h : Option.bind x f = some o) (k : ∀ v, x = some v → f v = some o → G) : G := by
  obtain ⟨v, h1, h2⟩ := ofBind h
  exact k v h1 h2
instance decI (x : Int) : Decidable (inI x) := inferInstanceAs (Decidable (_ ∧ _))
instance decX (i : Int) (n : Nat) : Decidable (inX i n) := inferInstanceAs (Decidable (_ ∧ _))
instance decS (a b : Int) (n : Nat) : Decidable (inS a b n) := inferInstanceAs (Decidable (_ ∧ _))
instance decL (n b : Nat) : Decidable (lenOk n b) := inferInstanceAs (Decidable (_ ∧ _))
theorem nl2S {α : Type} [DecidableEq α] {p : Prop} [Decidable p] {x y : Option α} {o : α} {A B : Prop} (h : bothS (decide p) x y = some o) (a : x = some o → A) (b : y = some o → B) : (p → A) ∧ B := ⟨fun c => a ((ofBoth h).1 (decide_eq_true c)), b (ofBoth h).2⟩
theorem joinI {α : Type} {F : α → Prop} {G : (α → Prop) → Prop} (h : G F) : Join F G := h
def genS {S Y R : Type} (step : S → Option (List Y × (S ⊕ R))) : Nat → S → Option (List Y × R)
  | 0, _ => none
  | n + 1, s => match step s with
    | none => none
    | some (ys, .inr o) => some (ys, o)
    | some (ys, .inl s') => (genS step n s').map fun q => (ys ++ q.1, q.2)
theorem LoopW.of_G {S Y R : Type} {step : (List Y × S) → ((List Y × S) → Prop) → Prop} {stepS : S → Option (List Y × (S ⊕ R))} {K : List Y → R → Prop} (hs : ∀ s ys q r rec, stepS s = some (ys, q) → orK (fun s => rec (r, s)) (K r) q → step (ys ++ r, s) rec) : ∀ (n : Nat) (s : S) {ys : List Y} {o : R} (r : List Y), genS stepS n s = some (ys, o) → K r o → LoopW step (ys ++ r, s) := by
  intro n s ys o r h hK
  refine ⟨n, ?_⟩
  induction n generalizing s ys with
  | zero => cases h
  | succ n ih =>
    unfold genS at h
    split at h
    · cases h
    · rename_i ys o e
      cases h
      exact hs s _ _ _ (LoopN step n) e hK
    · rename_i ys s' e
      obtain ⟨v, h1, h2⟩ := Option.map_eq_some_iff.1 h
      cases h2
      rw [List.append_assoc]
      exact hs s _ _ _ (LoopN step n) e (show LoopN step n (v.1 ++ r, s') from ih s' h1)
def law16_example_1_S (x0 : Int) : Option (api_Write) :=
  if inI (x0 + 1) then
  some ((api_Write.mk 0 x0 ([(Sec.mk (BitVec.ofInt 8 (x0 + 1)) (0#8) (0#8) (0#8) (0#8) (0#8) (0#8) (0#8))] : List Sec)))
  else none
theorem law16_example_1_sound (x0 : Int) {Φ : api_Write → Prop} {o} (h : law16_example_1_S x0 = some o) (hK : Φ o) : law16_example_1_W x0 Φ := by
  unfold law16_example_1_S at h
  unfold law16_example_1_W
  exact adS h fun h => have t := lfS h hK; t
def law16_example_2_S (x0 : Int) : Option (api_HistoryEvent) :=
  some ((api_HistoryEvent.mk 0 x0))
theorem law16_example_2_sound (x0 : Int) {Φ : api_HistoryEvent → Prop} {o} (h : law16_example_2_S x0 = some o) (hK : Φ o) : law16_example_2_W x0 Φ := by
  unfold law16_example_2_S at h
  unfold law16_example_2_W
  exact have t := lfS h hK; t
def law16_example_3_S (x0 : Int) : Option (api_HistoryEvent) :=
  some ((api_HistoryEvent.mk 1 x0))
theorem law16_example_3_sound (x0 : Int) {Φ : api_HistoryEvent → Prop} {o} (h : law16_example_3_S x0 = some o) (hK : Φ o) : law16_example_3_W x0 Φ := by
  unfold law16_example_3_S at h
  unfold law16_example_3_W
  exact have t := lfS h hK; t
def law16_example_S : Option (api_History) :=
  Option.bind (law16_example_1_S 0) fun v1 =>
  Option.bind (law16_example_1_S 1) fun v2 =>
  Option.bind (law16_example_1_S 2) fun v3 =>
  Option.bind (law16_example_2_S 0) fun v4 =>
  Option.bind (law16_example_2_S 1) fun v5 =>
  Option.bind (law16_example_3_S 0) fun v6 =>
  Option.bind (law16_example_2_S 2) fun v7 =>
  Option.bind (law16_example_3_S 2) fun v8 =>
  some ((api_History.mk ([3] : List Int) ([v1, v2, v3] : List api_Write) ([v4, v5, v6, v7, v8] : List api_HistoryEvent)))
theorem law16_example_sound {Φ : api_History → Prop} {o} (h : law16_example_S = some o) (hK : Φ o) : law16_example_W Φ := by
  unfold law16_example_S at h
  unfold law16_example_W
  exact blS h fun _ hv h => law16_example_1_sound _ hv (blS h fun _ hv h => law16_example_1_sound _ hv (blS h fun _ hv h => law16_example_1_sound _ hv (blS h fun _ hv h => law16_example_2_sound _ hv (blS h fun _ hv h => law16_example_2_sound _ hv (blS h fun _ hv h => law16_example_3_sound _ hv (blS h fun _ hv h => law16_example_2_sound _ hv (blS h fun _ hv h => law16_example_3_sound _ hv (have t := lfS h hK; t))))))))
def image_checkSizes_1_S (x0 : Int) : Option (Bool) :=
  if x0 < 1 then
    some (true)
  else
    some (decide (4096 < x0))
theorem image_checkSizes_1_sound (x0 : Int) {Φ : Bool → Prop} {o} (h : image_checkSizes_1_S x0 = some o) (hK : Φ o) : image_checkSizes_1_W x0 Φ := by
  unfold image_checkSizes_1_S at h
  unfold image_checkSizes_1_W
  exact ifS h (fun h => have t := lfS h hK; t) fun h => have t := lfS h hK; t
def image_checkSizes_L1_S (x0 : List Int) : (Int) → Option ((Int) ⊕ (Int))
  | v1 =>
    if v1 < (x0.length : Int) then
      if inX v1 x0.length then
      Option.bind (image_checkSizes_1_S (ix x0 v1)) fun v2 =>
      if v2 = true then
        if 0 ≤ v1 then
          some (.inr 2)
        else
          some (.inr 0)
      else
        if inI (v1 + 1) then
        some (.inl (v1 + 1))
        else none
      else none
    else
      if 0 ≤ ((-1) : Int) then
        some (.inr 2)
      else
        some (.inr 0)
theorem image_checkSizes_L1_sound (x0 : List Int) (s : Int) {Φ : Int → Prop} {rec1 : (Int) → Prop} {o} (h : image_checkSizes_L1_S x0 s = some o) (hK : (orK rec1 Φ) o) : image_checkSizes_L1 x0 Φ s rec1 := by
  unfold image_checkSizes_L1_S at h
  unfold image_checkSizes_L1
  exact ifS h (fun h => adS h fun h => blS h fun _ hv h => image_checkSizes_1_sound _ hv (ifS h (fun h => ifS h (fun h => have t := lfS h hK; t) fun h => have t := lfS h hK; t) fun h => adS h fun h => have t := lfS h hK; t)) fun h => ifS h (fun h => have t := lfS h hK; t) fun h => have t := lfS h hK; t
def image_checkSizes_S (x0 : List Int) : Option (Int) :=
  if (x0.length : Int) < 1 then
    some (6)
  else
    if 8 < (x0.length : Int) then
      some (6)
    else
      loopS (image_checkSizes_L1_S x0) 100000 0
theorem image_checkSizes_sound (x0 : List Int) {Φ : Int → Prop} {o} (h : image_checkSizes_S x0 = some o) (hK : Φ o) : image_checkSizes_W x0 Φ := by
  unfold image_checkSizes_S at h
  unfold image_checkSizes_W
  exact ifS h (fun h => have t := lfS h hK; t) fun h => ifS h (fun h => have t := lfS h hK; t) fun h => LoopW.of_S (fun s q rec hs hq => image_checkSizes_L1_sound _ s hs hq) _ _ h hK
def image_New_1_S (x0 : Int) : Option (List Sec) :=
  if 0 ≤ x0 then
  if lenOk x0.toNat 8 then
  some ((List.replicate x0.toNat (sec0 : Sec)))
  else none
  else none
theorem image_New_1_sound (x0 : Int) {Φ : List Sec → Prop} {o} (h : image_New_1_S x0 = some o) (hK : Φ o) : image_New_1_W x0 Φ := by
  unfold image_New_1_S at h
  unfold image_New_1_W
  exact adS h fun h => adS h fun h => have t := lfS h hK; t
def image_New_L1_S (x0 : List Int) : (Int × List (List Sec)) → Option ((Int × List (List Sec)) ⊕ (List (List Sec) × Int))
  | (v2, v3) =>
    if v2 < (x0.length : Int) then
      if inX v2 x0.length then
      Option.bind (image_New_1_S (ix x0 v2)) fun v4 =>
      if lenOk (v3 ++ ([v4] : List (List Sec))).length 24 then
      if inI (v2 + 1) then
      some (.inl ((v2 + 1), (v3 ++ ([v4] : List (List Sec)))))
      else none
      else none
      else none
    else
      some (.inr (v3, 0))
theorem image_New_L1_sound (x0 : List Int) (s : Int × List (List Sec)) {Φ : List (List Sec) × Int → Prop} {rec1 : (Int × List (List Sec)) → Prop} {o} (h : image_New_L1_S x0 s = some o) (hK : (orK rec1 Φ) o) : image_New_L1 x0 Φ s rec1 := by
  obtain ⟨v2, v3⟩ := s
  unfold image_New_L1_S at h
  unfold image_New_L1
  exact ifS h (fun h => adS h fun h => blS h fun _ hv h => image_New_1_sound _ hv (adS h fun h => adS h fun h => have t := lfS h hK; t)) fun h => have t := lfS h hK; t
def image_New_S (x0 : List Int) : Option (List (List Sec) × Int) :=
  Option.bind (image_checkSizes_S x0) fun v1 =>
  if v1 ≠ 0 then
    some ((([] : List (List Sec)), v1))
  else
    if 0 ≤ (x0.length : Int) then
    if lenOk (x0.length : Int).toNat 24 then
    loopS (image_New_L1_S x0) 100000 (0, ([] : List (List Sec)))
    else none
    else none
theorem image_New_sound (x0 : List Int) {Φ : List (List Sec) × Int → Prop} {o} (h : image_New_S x0 = some o) (hK : Φ o) : image_New_W x0 Φ := by
  unfold image_New_S at h
  unfold image_New_W
  exact blS h fun _ hv h => image_checkSizes_sound _ hv (ifS h (fun h => have t := lfS h hK; t) fun h => adS h fun h => adS h fun h => LoopW.of_S (fun s q rec hs hq => image_New_L1_sound _ s hs hq) _ _ h hK)
def image_sizes_1_S (x0 : List Sec) : Option (Int) :=
  some ((x0.length : Int))
theorem image_sizes_1_sound (x0 : List Sec) {Φ : Int → Prop} {o} (h : image_sizes_1_S x0 = some o) (hK : Φ o) : image_sizes_1_W x0 Φ := by
  unfold image_sizes_1_S at h
  unfold image_sizes_1_W
  exact have t := lfS h hK; t
def image_sizes_L1_S (x0 : List (List Sec)) : (Int × List Int) → Option ((Int × List Int) ⊕ (List Int))
  | (v1, v2) =>
    if v1 < (x0.length : Int) then
      if inX v1 x0.length then
      Option.bind (image_sizes_1_S (ix x0 v1)) fun v3 =>
      if lenOk (v2 ++ ([v3] : List Int)).length 8 then
      if inI (v1 + 1) then
      some (.inl ((v1 + 1), (v2 ++ ([v3] : List Int))))
      else none
      else none
      else none
    else
      some (.inr v2)
theorem image_sizes_L1_sound (x0 : List (List Sec)) (s : Int × List Int) {Φ : List Int → Prop} {rec1 : (Int × List Int) → Prop} {o} (h : image_sizes_L1_S x0 s = some o) (hK : (orK rec1 Φ) o) : image_sizes_L1 x0 Φ s rec1 := by
  obtain ⟨v1, v2⟩ := s
  unfold image_sizes_L1_S at h
  unfold image_sizes_L1
  exact ifS h (fun h => adS h fun h => blS h fun _ hv h => image_sizes_1_sound _ hv (adS h fun h => adS h fun h => have t := lfS h hK; t)) fun h => have t := lfS h hK; t
def image_sizes_S (x0 : List (List Sec)) : Option (List Int) :=
  if 0 ≤ (x0.length : Int) then
  if lenOk (x0.length : Int).toNat 8 then
  loopS (image_sizes_L1_S x0) 100000 (0, ([] : List Int))
  else none
  else none
theorem image_sizes_sound (x0 : List (List Sec)) {Φ : List Int → Prop} {o} (h : image_sizes_S x0 = some o) (hK : Φ o) : image_sizes_W x0 Φ := by
  unfold image_sizes_S at h
  unfold image_sizes_W
  exact adS h fun h => adS h fun h => LoopW.of_S (fun s q rec hs hq => image_sizes_L1_sound _ s hs hq) _ _ h hK
def image_Check_S (x0 : List (List Sec)) : Option (Int) :=
  Option.bind (image_sizes_S x0) fun v1 =>
  Option.bind (image_checkSizes_S v1) fun v2 =>
  some (v2)
theorem image_Check_sound (x0 : List (List Sec)) {Φ : Int → Prop} {o} (h : image_Check_S x0 = some o) (hK : Φ o) : image_Check_W x0 Φ := by
  unfold image_Check_S at h
  unfold image_Check_W
  exact blS h fun _ hv h => image_sizes_sound _ hv (blS h fun _ hv h => image_checkSizes_sound _ hv (have t := lfS h hK; t))
def image_fits_J1_S (x0 : List (List Sec)) (x1 : api_Write) : (Bool) → Option (Int)
  | v1 =>
    if v1 = true then
      some (7)
    else
      if (x1.Data.length : Int) = 0 then
        some (1)
      else
        if x1.Start < 0 then
          some (2)
        else
          if inX x1.Volume x0.length then
          if inI (((ix x0 x1.Volume).length : Int) - (x1.Data.length : Int)) then
          if (((ix x0 x1.Volume).length : Int) - (x1.Data.length : Int)) < x1.Start then
            some (2)
          else
            some (0)
          else none
          else none
theorem image_fits_J1_sound (x0 : List (List Sec)) (x1 : api_Write) (s : Bool) {Φ : Int → Prop} {o} (h : image_fits_J1_S x0 x1 s = some o) (hK : Φ o) : image_fits_J1 x0 x1 Φ s := by
  unfold image_fits_J1_S at h
  unfold image_fits_J1
  exact ifS h (fun h => have t := lfS h hK; t) fun h => ifS h (fun h => have t := lfS h hK; t) fun h => ifS h (fun h => have t := lfS h hK; t) fun h => adS h fun h => adS h fun h => ifS h (fun h => have t := lfS h hK; t) fun h => have t := lfS h hK; t
def image_fits_S (x0 : List (List Sec)) (x1 : api_Write) : Option (Int) :=
  if x1.Volume < 0 then
    image_fits_J1_S x0 x1 true
  else
    image_fits_J1_S x0 x1 (decide ((x0.length : Int) ≤ x1.Volume))
theorem image_fits_sound (x0 : List (List Sec)) (x1 : api_Write) {Φ : Int → Prop} {o} (h : image_fits_S x0 x1 = some o) (hK : Φ o) : image_fits_W x0 x1 Φ := by
  unfold image_fits_S at h
  unfold image_fits_W
  exact ifS h (fun h => image_fits_J1_sound _ _ _ h hK) fun h => image_fits_J1_sound _ _ _ h hK
def image_Fits_S (x0 : List (List Sec)) (x1 : api_Write) : Option (Int) :=
  Option.bind (image_Check_S x0) fun v1 =>
  if v1 ≠ 0 then
    some (v1)
  else
    Option.bind (image_fits_S x0 x1) fun v2 =>
    some (v2)
theorem image_Fits_sound (x0 : List (List Sec)) (x1 : api_Write) {Φ : Int → Prop} {o} (h : image_Fits_S x0 x1 = some o) (hK : Φ o) : image_Fits_W x0 x1 Φ := by
  unfold image_Fits_S at h
  unfold image_Fits_W
  exact blS h fun _ hv h => image_Check_sound _ hv (ifS h (fun h => have t := lfS h hK; t) fun h => blS h fun _ hv h => image_fits_sound _ _ hv (have t := lfS h hK; t))
def history_check_J3_S (v4 : Int) : (Int × List Int × List Int) → Option ((Int × List Int × List Int) ⊕ ((Int) ⊕ (history_checked × Int)))
  | (v7, v8, v9) =>
    if v7 ≠ 0 then
      some (.inr (.inr ((history_checked.mk (api_History.mk ([] : List Int) ([] : List api_Write) ([] : List api_HistoryEvent)) (history_timeline.mk ([] : List Int) ([] : List Int))), v7)))
    else
      if inI (v4 + 1) then
      some (.inl ((v4 + 1), v8, v9))
      else none
theorem history_check_J3_sound (v4 : Int) (s : Int × List Int × List Int) {Φ : history_checked × Int → Prop} {rec1 : (Int) → Prop} {rec2 : (Int × List Int × List Int) → Prop} {o} (h : history_check_J3_S v4 s = some o) (hK : (orK rec2 (orK rec1 Φ)) o) : history_check_J3 v4 rec2 Φ s := by
  obtain ⟨v7, v8, v9⟩ := s
  unfold history_check_J3_S at h
  unfold history_check_J3
  exact ifS h (fun h => have t := lfS h hK; t) fun h => adS h fun h => have t := lfS h hK; t
def history_check_L2_S (x0 : api_History) : (Int × List Int × List Int) → Option ((Int × List Int × List Int) ⊕ ((Int) ⊕ (history_checked × Int)))
  | (v4, v5, v6) =>
    if v4 < (x0.Events.length : Int) then
      if inX v4 x0.Events.length then
      if ((ix x0.Events v4).Kind) = 0 then
        if ((ix x0.Events v4).Write) ≠ (v5.length : Int) then
          history_check_J3_S v4 (3, v5, v6)
        else
          if (x0.Writes.length : Int) ≤ ((ix x0.Events v4).Write) then
            history_check_J3_S v4 (3, v5, v6)
          else
            if lenOk (v5 ++ ([v4] : List Int)).length 8 then
            if lenOk (v6 ++ ([(-1)] : List Int)).length 8 then
            history_check_J3_S v4 (0, (v5 ++ ([v4] : List Int)), (v6 ++ ([(-1)] : List Int)))
            else none
            else none
      else
        if ((ix x0.Events v4).Kind) = 1 then
          if ((ix x0.Events v4).Write) < 0 then
            history_check_J3_S v4 (7, v5, v6)
          else
            if (v5.length : Int) ≤ ((ix x0.Events v4).Write) then
              history_check_J3_S v4 (7, v5, v6)
            else
              if inX ((ix x0.Events v4).Write) v6.length then
              if 0 ≤ (ix v6 ((ix x0.Events v4).Write)) then
                history_check_J3_S v4 (8, v5, v6)
              else
                if inX ((ix x0.Events v4).Write) v6.length then
                history_check_J3_S v4 (0, v5, (put v6 ((ix x0.Events v4).Write) v4))
                else none
              else none
        else
          history_check_J3_S v4 (3, v5, v6)
      else none
    else
      if (v5.length : Int) < (x0.Writes.length : Int) then
        some (.inr (.inr ((history_checked.mk (api_History.mk ([] : List Int) ([] : List api_Write) ([] : List api_HistoryEvent)) (history_timeline.mk ([] : List Int) ([] : List Int))), 3)))
      else
        some (.inr (.inr ((history_checked.mk x0 (history_timeline.mk v5 v6)), 0)))
theorem history_check_L2_sound (x0 : api_History) (s : Int × List Int × List Int) {Φ : history_checked × Int → Prop} {rec1 : (Int) → Prop} {rec2 : (Int × List Int × List Int) → Prop} {o} (h : history_check_L2_S x0 s = some o) (hK : (orK rec2 (orK rec1 Φ)) o) : history_check_L2 x0 Φ s rec2 := by
  obtain ⟨v4, v5, v6⟩ := s
  unfold history_check_L2_S at h
  unfold history_check_L2
  exact ifS h (fun h => adS h fun h => ifS h (fun h => ifS h (fun h => history_check_J3_sound _ _ h hK) fun h => ifS h (fun h => history_check_J3_sound _ _ h hK) fun h => adS h fun h => adS h fun h => history_check_J3_sound _ _ h hK) fun h => ifS h (fun h => ifS h (fun h => history_check_J3_sound _ _ h hK) fun h => ifS h (fun h => history_check_J3_sound _ _ h hK) fun h => adS h fun h => ifS h (fun h => history_check_J3_sound _ _ h hK) fun h => adS h fun h => history_check_J3_sound _ _ h hK) fun h => history_check_J3_sound _ _ h hK) fun h => ifS h (fun h => have t := lfS h hK; t) fun h => have t := lfS h hK; t
def history_check_L1_S (x0 : api_History) (v1 : List (List Sec) × Int) : (Int) → Option ((Int) ⊕ (history_checked × Int))
  | v2 =>
    if v2 < (x0.Writes.length : Int) then
      if inX v2 x0.Writes.length then
      Option.bind (image_Fits_S v1.1 (ix x0.Writes v2)) fun v3 =>
      if v3 ≠ 0 then
        some (.inr ((history_checked.mk (api_History.mk ([] : List Int) ([] : List api_Write) ([] : List api_HistoryEvent)) (history_timeline.mk ([] : List Int) ([] : List Int))), v3))
      else
        if inI (v2 + 1) then
        some (.inl (v2 + 1))
        else none
      else none
    else
      loopS (history_check_L2_S x0) 100000 (0, ([] : List Int), ([] : List Int))
theorem history_check_L1_sound (x0 : api_History) (v1 : List (List Sec) × Int) (s : Int) {Φ : history_checked × Int → Prop} {rec1 : (Int) → Prop} {o} (h : history_check_L1_S x0 v1 s = some o) (hK : (orK rec1 Φ) o) : history_check_L1 x0 v1 Φ s rec1 := by
  unfold history_check_L1_S at h
  unfold history_check_L1
  exact ifS h (fun h => adS h fun h => blS h fun _ hv h => image_Fits_sound _ _ hv (ifS h (fun h => have t := lfS h hK; t) fun h => adS h fun h => have t := lfS h hK; t)) fun h => LoopW.of_S (fun s q rec hs hq => history_check_L2_sound _ s hs hq) _ _ h hK
def history_check_S (x0 : api_History) : Option (history_checked × Int) :=
  Option.bind (image_New_S x0.Sizes) fun v1 =>
  if v1.2 ≠ 0 then
    some (((history_checked.mk (api_History.mk ([] : List Int) ([] : List api_Write) ([] : List api_HistoryEvent)) (history_timeline.mk ([] : List Int) ([] : List Int))), v1.2))
  else
    if 4096 < (x0.Writes.length : Int) then
      some (((history_checked.mk (api_History.mk ([] : List Int) ([] : List api_Write) ([] : List api_HistoryEvent)) (history_timeline.mk ([] : List Int) ([] : List Int))), 6))
    else
      loopS (history_check_L1_S x0 v1) 100000 0
theorem history_check_sound (x0 : api_History) {Φ : history_checked × Int → Prop} {o} (h : history_check_S x0 = some o) (hK : Φ o) : history_check_W x0 Φ := by
  unfold history_check_S at h
  unfold history_check_W
  exact blS h fun _ hv h => image_New_sound _ hv (ifS h (fun h => have t := lfS h hK; t) fun h => ifS h (fun h => have t := lfS h hK; t) fun h => LoopW.of_S (fun s q rec hs hq => history_check_L1_sound _ _ s hs hq) _ _ h hK)
def history_Check_S (x0 : api_History) : Option (Int) :=
  Option.bind (history_check_S x0) fun v1 =>
  some (v1.2)
theorem history_Check_sound (x0 : api_History) {Φ : Int → Prop} {o} (h : history_Check_S x0 = some o) (hK : Φ o) : history_Check_W x0 Φ := by
  unfold history_Check_S at h
  unfold history_Check_W
  exact blS h fun _ hv h => history_check_sound _ hv (have t := lfS h hK; t)
def math_bits_Mul64_S (x0 : BitVec 64) (x1 : BitVec 64) : Option (BitVec 64 × BitVec 64) :=
  some ((((((x0 >>> ((32#64).toNat : Int).toNat) * (x1 >>> ((32#64).toNat : Int).toNat)) + ((((x0 >>> ((32#64).toNat : Int).toNat) * (x1 &&& (4294967295#64))) + (((x0 &&& (4294967295#64)) * (x1 &&& (4294967295#64))) >>> ((32#64).toNat : Int).toNat)) >>> ((32#64).toNat : Int).toNat)) + ((((((x0 >>> ((32#64).toNat : Int).toNat) * (x1 &&& (4294967295#64))) + (((x0 &&& (4294967295#64)) * (x1 &&& (4294967295#64))) >>> ((32#64).toNat : Int).toNat)) &&& (4294967295#64)) + ((x0 &&& (4294967295#64)) * (x1 >>> ((32#64).toNat : Int).toNat))) >>> ((32#64).toNat : Int).toNat)), (x0 * x1)))
theorem math_bits_Mul64_sound (x0 : BitVec 64) (x1 : BitVec 64) {Φ : BitVec 64 × BitVec 64 → Prop} {o} (h : math_bits_Mul64_S x0 x1 = some o) (hK : Φ o) : math_bits_Mul64_W x0 x1 Φ := by
  unfold math_bits_Mul64_S at h
  unfold math_bits_Mul64_W
  exact have t := lfS h hK; t
def math_bits_Mul_S (x0 : BitVec 64) (x1 : BitVec 64) : Option (BitVec 64 × BitVec 64) :=
  Option.bind (math_bits_Mul64_S x0 x1) fun v1 =>
  some ((v1.1, v1.2))
theorem math_bits_Mul_sound (x0 : BitVec 64) (x1 : BitVec 64) {Φ : BitVec 64 × BitVec 64 → Prop} {o} (h : math_bits_Mul_S x0 x1 = some o) (hK : Φ o) : math_bits_Mul_W x0 x1 Φ := by
  unfold math_bits_Mul_S at h
  unfold math_bits_Mul_W
  exact blS h fun _ hv h => math_bits_Mul64_sound _ _ hv (have t := lfS h hK; t)
def slices_Repeat_int_int_L2_S : (Int × List Int) → Option ((Int × List Int) ⊕ (List Int))
  | (v3, v4) =>
    if v3 < (v4.length : Int) then
      if inS v3 (v4.length : Int) v4.length then
      if inS 0 v3 v4.length then
      if inI (v3 + ((min (sub v4 0 v3).length (v4.length - (v3 : Int).toNat) : Nat) : Int)) then
      some (.inl ((v3 + ((min (sub v4 0 v3).length (v4.length - (v3 : Int).toNat) : Nat) : Int)), (paste v4 v3 (sub v4 0 v3))))
      else none
      else none
      else none
    else
      some (.inr v4)
theorem slices_Repeat_int_int_L2_sound (s : Int × List Int) {Φ : List Int → Prop} {rec2 : (Int × List Int) → Prop} {o} (h : slices_Repeat_int_int_L2_S s = some o) (hK : (orK rec2 Φ) o) : slices_Repeat_int_int_L2 Φ s rec2 := by
  obtain ⟨v3, v4⟩ := s
  unfold slices_Repeat_int_int_L2_S at h
  unfold slices_Repeat_int_int_L2
  exact ifS h (fun h => adS h fun h => adS h fun h => adS h fun h => have t := lfS h hK; t) fun h => have t := lfS h hK; t
def slices_Repeat_int_int_J1_S (x0 : List Int) (v1 : BitVec 64 × BitVec 64) : (Bool) → Option (List Int)
  | v2 =>
    if v2 = true then
      none
    else
      if 0 ≤ v1.2.toInt then
      if lenOk v1.2.toInt.toNat 8 then
      loopS (slices_Repeat_int_int_L2_S) 100000 (((min x0.length ((List.replicate v1.2.toInt.toNat (0 : Int)).length - (0 : Int).toNat) : Nat) : Int), (paste (List.replicate v1.2.toInt.toNat (0 : Int)) 0 x0))
      else none
      else none
theorem slices_Repeat_int_int_J1_sound (x0 : List Int) (v1 : BitVec 64 × BitVec 64) (s : Bool) {Φ : List Int → Prop} {o} (h : slices_Repeat_int_int_J1_S x0 v1 s = some o) (hK : Φ o) : slices_Repeat_int_int_J1 x0 v1 Φ s := by
  unfold slices_Repeat_int_int_J1_S at h
  unfold slices_Repeat_int_int_J1
  exact ifS h (fun h => (by cases h)) fun h => adS h fun h => adS h fun h => LoopW.of_S (fun s q rec hs hq => slices_Repeat_int_int_L2_sound s hs hq) _ _ h hK
def slices_Repeat_int_int_S (x0 : List Int) (x1 : Int) : Option (List Int) :=
  if x1 < 0 then
    none
  else
    Option.bind (math_bits_Mul_S (BitVec.ofInt 64 (x0.length : Int)) (BitVec.ofInt 64 x1)) fun v1 =>
    if (0#64) < v1.1 then
      slices_Repeat_int_int_J1_S x0 v1 true
    else
      slices_Repeat_int_int_J1_S x0 v1 (decide ((9223372036854775807#64) < v1.2))
theorem slices_Repeat_int_int_sound (x0 : List Int) (x1 : Int) {Φ : List Int → Prop} {o} (h : slices_Repeat_int_int_S x0 x1 = some o) (hK : Φ o) : slices_Repeat_int_int_W x0 x1 Φ := by
  unfold slices_Repeat_int_int_S at h
  unfold slices_Repeat_int_int_W
  exact ifS h (fun h => (by cases h)) fun h => blS h fun _ hv h => math_bits_Mul_sound _ _ hv (ifS h (fun h => slices_Repeat_int_int_J1_sound _ _ _ h hK) fun h => slices_Repeat_int_int_J1_sound _ _ _ h hK)
def cut_relation_mark_J2_S (x1 : List Int) (v1 : Int) (v2 : List Bool) : (Bool) → Option ((Int × List Bool) ⊕ (List Bool × Bool))
  | v3 =>
    if v3 = true then
      some (.inr (([] : List Bool), false))
    else
      if inX (ix x1 v1) v2.length then
      if inI (v1 + 1) then
      some (.inl ((v1 + 1), (put v2 (ix x1 v1) true)))
      else none
      else none
theorem cut_relation_mark_J2_sound (x1 : List Int) (v1 : Int) (v2 : List Bool) (s : Bool) {Φ : List Bool × Bool → Prop} {rec1 : (Int × List Bool) → Prop} {o} (h : cut_relation_mark_J2_S x1 v1 v2 s = some o) (hK : (orK rec1 Φ) o) : cut_relation_mark_J2 x1 v1 v2 rec1 Φ s := by
  unfold cut_relation_mark_J2_S at h
  unfold cut_relation_mark_J2
  exact ifS h (fun h => have t := lfS h hK; t) fun h => adS h fun h => adS h fun h => have t := lfS h hK; t
def cut_relation_mark_L1_S (x0 : Ptr cut_relation) (x1 : List Int) : (Int × List Bool) → Option ((Int × List Bool) ⊕ (List Bool × Bool))
  | (v1, v2) =>
    if v1 < (x1.length : Int) then
      if inX v1 x1.length then
      if (ix x1 v1) < 0 then
        cut_relation_mark_J2_S x1 v1 v2 true
      else
        if x0.val.n ≤ (ix x1 v1) then
          cut_relation_mark_J2_S x1 v1 v2 true
        else
          if 0 < v1 then
            if inI (v1 - 1) then
            if inX (v1 - 1) x1.length then
            cut_relation_mark_J2_S x1 v1 v2 (decide ((ix x1 v1) ≤ (ix x1 (v1 - 1))))
            else none
            else none
          else
            cut_relation_mark_J2_S x1 v1 v2 false
      else none
    else
      some (.inr (v2, true))
theorem cut_relation_mark_L1_sound (x0 : Ptr cut_relation) (x1 : List Int) (s : Int × List Bool) {Φ : List Bool × Bool → Prop} {rec1 : (Int × List Bool) → Prop} {o} (h : cut_relation_mark_L1_S x0 x1 s = some o) (hK : (orK rec1 Φ) o) : cut_relation_mark_L1 x0 x1 Φ s rec1 := by
  obtain ⟨v1, v2⟩ := s
  unfold cut_relation_mark_L1_S at h
  unfold cut_relation_mark_L1
  exact ifS h (fun h => adS h fun h => ifS h (fun h => cut_relation_mark_J2_sound _ _ _ _ h hK) fun h => ifS h (fun h => cut_relation_mark_J2_sound _ _ _ _ h hK) fun h => ifS h (fun h => adS h fun h => adS h fun h => cut_relation_mark_J2_sound _ _ _ _ h hK) fun h => cut_relation_mark_J2_sound _ _ _ _ h hK) fun h => have t := lfS h hK; t
def cut_relation_mark_S (x0 : Ptr cut_relation) (x1 : List Int) : Option (List Bool × Bool) :=
  if 0 ≤ x0.val.n then
  if lenOk x0.val.n.toNat 1 then
  loopS (cut_relation_mark_L1_S x0 x1) 100000 (0, (List.replicate x0.val.n.toNat (false : Bool)))
  else none
  else none
theorem cut_relation_mark_sound (x0 : Ptr cut_relation) (x1 : List Int) {Φ : List Bool × Bool → Prop} {o} (h : cut_relation_mark_S x0 x1 = some o) (hK : Φ o) : cut_relation_mark_W x0 x1 Φ := by
  unfold cut_relation_mark_S at h
  unfold cut_relation_mark_W
  exact adS h fun h => adS h fun h => LoopW.of_S (fun s q rec hs hq => cut_relation_mark_L1_sound _ _ s hs hq) _ _ h hK
def cut_relation_before_S (x0 : Ptr cut_relation) (x1 : Int) (x2 : Int) : Option (Bool) :=
  if inX x1 x0.val.acked.length then
  if inX x2 x0.val.issued.length then
  some (decide ((ix x0.val.acked x1) < (ix x0.val.issued x2)))
  else none
  else none
theorem cut_relation_before_sound (x0 : Ptr cut_relation) (x1 : Int) (x2 : Int) {Φ : Bool → Prop} {o} (h : cut_relation_before_S x0 x1 x2 = some o) (hK : Φ o) : cut_relation_before_W x0 x1 x2 Φ := by
  unfold cut_relation_before_S at h
  unfold cut_relation_before_W
  exact adS h fun h => adS h fun h => have t := lfS h hK; t
def cut_relation_ready_L1_S (x0 : Ptr cut_relation) (x1 : List Bool) (x2 : Int) : (Int) → Option ((Int) ⊕ (Bool))
  | v1 =>
    if v1 < x0.val.n then
      Option.bind (cut_relation_before_S x0 v1 x2) fun v2 =>
      if v2 = true then
        if inX v1 x1.length then
        if ¬ ((ix x1 v1) = true) then
          some (.inr false)
        else
          if inI (v1 + 1) then
          some (.inl (v1 + 1))
          else none
        else none
      else
        if inI (v1 + 1) then
        some (.inl (v1 + 1))
        else none
    else
      some (.inr true)
theorem cut_relation_ready_L1_sound (x0 : Ptr cut_relation) (x1 : List Bool) (x2 : Int) (s : Int) {Φ : Bool → Prop} {rec1 : (Int) → Prop} {o} (h : cut_relation_ready_L1_S x0 x1 x2 s = some o) (hK : (orK rec1 Φ) o) : cut_relation_ready_L1 x0 x1 x2 Φ s rec1 := by
  unfold cut_relation_ready_L1_S at h
  unfold cut_relation_ready_L1
  exact ifS h (fun h => blS h fun _ hv h => cut_relation_before_sound _ _ _ hv (ifS h (fun h => adS h fun h => ifS h (fun h => have t := lfS h hK; t) fun h => adS h fun h => have t := lfS h hK; t) fun h => adS h fun h => have t := lfS h hK; t)) fun h => have t := lfS h hK; t
def cut_relation_ready_S (x0 : Ptr cut_relation) (x1 : List Bool) (x2 : Int) : Option (Bool) :=
  loopS (cut_relation_ready_L1_S x0 x1 x2) 100000 0
theorem cut_relation_ready_sound (x0 : Ptr cut_relation) (x1 : List Bool) (x2 : Int) {Φ : Bool → Prop} {o} (h : cut_relation_ready_S x0 x1 x2 = some o) (hK : Φ o) : cut_relation_ready_W x0 x1 x2 Φ := by
  unfold cut_relation_ready_S at h
  unfold cut_relation_ready_W
  exact LoopW.of_S (fun s q rec hs hq => cut_relation_ready_L1_sound _ _ _ s hs hq) _ _ h hK
def slices_Clone_int_int_S (x0 : List Int) : Option (List Int) :=
  bothS (decide (x0 = [])) (
    some (([] : List Int))) (
    if lenOk (([] : List Int) ++ x0).length 8 then
    some ((([] : List Int) ++ x0))
    else none)
theorem slices_Clone_int_int_sound (x0 : List Int) {Φ : List Int → Prop} {o} (h : slices_Clone_int_int_S x0 = some o) (hK : Φ o) : slices_Clone_int_int_W x0 Φ := by
  unfold slices_Clone_int_int_S at h
  unfold slices_Clone_int_int_W
  exact nl2S h (fun h => have t := lfS h hK; t) fun h => adS h fun h => have t := lfS h hK; t
def slices_Sort_int_int_S (xs : List (Int)) : Option (List (Int)) := if xs.length ≤ 1099511627776 then some (sortI xs) else none
theorem slices_Sort_int_int_sound (xs : List (Int)) {Φ : List (Int) → Prop} {o} (h : slices_Sort_int_int_S xs = some o) (hK : Φ o) : slices_Sort_int_int_W xs Φ := by
  unfold slices_Sort_int_int_S at h
  unfold slices_Sort_int_int_W
  exact adS h fun h => lfS h hK
def cut_text_S (x0 : List Int) : Option ByteArray := if smallB x0 = true then some (textS x0) else none
theorem cut_text_sound (x0 : List Int) {Φ : ByteArray → Prop} {o} (h : cut_text_S x0 = some o) (hK : Φ o) : cut_text_W x0 Φ := by
  unfold cut_text_S at h
  unfold cut_text_W
  exact adS h fun h => lfS h hK
def slices_SortFunc_int_int_S (xs : List (List Int)) : Option (List (List Int)) := if xs.length ≤ 1099511627776 then some (sortL xs) else none
theorem slices_SortFunc_int_int_sound (xs : List (List Int)) {Φ : List (List Int) → Prop} {o} (h : slices_SortFunc_int_int_S xs = some o) (hK : Φ o) : slices_SortFunc_int_int_W xs Φ := by
  unfold slices_SortFunc_int_int_S at h
  unfold slices_SortFunc_int_int_W
  exact adS h fun h => lfS h hK
def cut_relation_next_J4_S (x2 : Int) (v5 : Int) : ((List (ByteArray × Bool)) × List (List Int)) → Option ((Int × (List (ByteArray × Bool)) × List (List Int)) ⊕ ((Int × (List (ByteArray × Bool)) × List (List Int)) ⊕ (List (List Int) × Bool)))
  | (v11, v12) =>
    if x2 < (v12.length : Int) then
      some (.inr (.inr (([] : List (List Int)), false)))
    else
      if inI (v5 + 1) then
      some (.inl ((v5 + 1), v11, v12))
      else none
theorem cut_relation_next_J4_sound (x2 : Int) (v5 : Int) (s : (List (ByteArray × Bool)) × List (List Int)) {Φ : List (List Int) × Bool → Prop} {rec1 : (Int × (List (ByteArray × Bool)) × List (List Int)) → Prop} {rec2 : (Int × (List (ByteArray × Bool)) × List (List Int)) → Prop} {o} (h : cut_relation_next_J4_S x2 v5 s = some o) (hK : (orK rec2 (orK rec1 Φ)) o) : cut_relation_next_J4 x2 v5 rec2 Φ s := by
  obtain ⟨v11, v12⟩ := s
  unfold cut_relation_next_J4_S at h
  unfold cut_relation_next_J4
  exact ifS h (fun h => have t := lfS h hK; t) fun h => adS h fun h => have t := lfS h hK; t
def cut_relation_next_J3_S (x1 : List (List Int)) (x2 : Int) (v1 : Int) (v5 : Int) (v6 : List (ByteArray × Bool)) (v7 : List (List Int)) : (Bool) → Option ((Int × (List (ByteArray × Bool)) × List (List Int)) ⊕ ((Int × (List (ByteArray × Bool)) × List (List Int)) ⊕ (List (List Int) × Bool)))
  | v8 =>
    if v8 = true then
      if inI (v5 + 1) then
      some (.inl ((v5 + 1), v6, v7))
      else none
    else
      Option.bind (slices_Clone_int_int_S (ix x1 v1)) fun v9 =>
      if lenOk (v9 ++ ([v5] : List Int)).length 8 then
      Option.bind (slices_Sort_int_int_S (v9 ++ ([v5] : List Int))) fun v10 =>
      Option.bind (cut_text_S v10) fun v13 =>
      if ¬ ((mget v6 v13 false) = true) then
        if lenOk (v7 ++ ([v10] : List (List Int))).length 24 then
        cut_relation_next_J4_S x2 v5 ((mput v6 v13 true), (v7 ++ ([v10] : List (List Int))))
        else none
      else
        cut_relation_next_J4_S x2 v5 (v6, v7)
      else none
theorem cut_relation_next_J3_sound (x1 : List (List Int)) (x2 : Int) (v1 : Int) (v5 : Int) (v6 : List (ByteArray × Bool)) (v7 : List (List Int)) (s : Bool) {Φ : List (List Int) × Bool → Prop} {rec1 : (Int × (List (ByteArray × Bool)) × List (List Int)) → Prop} {rec2 : (Int × (List (ByteArray × Bool)) × List (List Int)) → Prop} {o} (h : cut_relation_next_J3_S x1 x2 v1 v5 v6 v7 s = some o) (hK : (orK rec2 (orK rec1 Φ)) o) : cut_relation_next_J3 x1 x2 v1 v5 v6 v7 rec2 Φ s := by
  unfold cut_relation_next_J3_S at h
  unfold cut_relation_next_J3
  exact ifS h (fun h => adS h fun h => have t := lfS h hK; t) fun h => blS h fun _ hv h => slices_Clone_int_int_sound _ hv (adS h fun h => blS h fun _ hv h => slices_Sort_int_int_sound _ hv (joinI (blS h fun _ hv h => cut_text_sound _ hv (ifS h (fun h => adS h fun h => cut_relation_next_J4_sound _ _ _ h hK) fun h => cut_relation_next_J4_sound _ _ _ h hK))))
def cut_relation_next_L2_S (x0 : Ptr cut_relation) (x1 : List (List Int)) (x2 : Int) (v1 : Int) (v4 : List Bool × Bool) : (Int × (List (ByteArray × Bool)) × List (List Int)) → Option ((Int × (List (ByteArray × Bool)) × List (List Int)) ⊕ ((Int × (List (ByteArray × Bool)) × List (List Int)) ⊕ (List (List Int) × Bool)))
  | (v5, v6, v7) =>
    if v5 < x0.val.n then
      if inX v5 v4.1.length then
      if (ix v4.1 v5) = true then
        cut_relation_next_J3_S x1 x2 v1 v5 v6 v7 true
      else
        Option.bind (cut_relation_ready_S x0 v4.1 v5) fun v14 =>
        cut_relation_next_J3_S x1 x2 v1 v5 v6 v7 (decide (¬ (v14 = true)))
      else none
    else
      if inI (v1 + 1) then
      some (.inr (.inl ((v1 + 1), v6, v7)))
      else none
theorem cut_relation_next_L2_sound (x0 : Ptr cut_relation) (x1 : List (List Int)) (x2 : Int) (v1 : Int) (v4 : List Bool × Bool) (s : Int × (List (ByteArray × Bool)) × List (List Int)) {Φ : List (List Int) × Bool → Prop} {rec1 : (Int × (List (ByteArray × Bool)) × List (List Int)) → Prop} {rec2 : (Int × (List (ByteArray × Bool)) × List (List Int)) → Prop} {o} (h : cut_relation_next_L2_S x0 x1 x2 v1 v4 s = some o) (hK : (orK rec2 (orK rec1 Φ)) o) : cut_relation_next_L2 x0 x1 x2 v1 rec1 v4 Φ s rec2 := by
  obtain ⟨v5, v6, v7⟩ := s
  unfold cut_relation_next_L2_S at h
  unfold cut_relation_next_L2
  exact ifS h (fun h => adS h fun h => ifS h (fun h => cut_relation_next_J3_sound _ _ _ _ _ _ _ h hK) fun h => blS h fun _ hv h => cut_relation_ready_sound _ _ _ hv (cut_relation_next_J3_sound _ _ _ _ _ _ _ h hK)) fun h => adS h fun h => have t := lfS h hK; t
def cut_relation_next_L1_S (x0 : Ptr cut_relation) (x1 : List (List Int)) (x2 : Int) : (Int × (List (ByteArray × Bool)) × List (List Int)) → Option ((Int × (List (ByteArray × Bool)) × List (List Int)) ⊕ (List (List Int) × Bool))
  | (v1, v2, v3) =>
    if v1 < (x1.length : Int) then
      if inX v1 x1.length then
      Option.bind (cut_relation_mark_S x0 (ix x1 v1)) fun v4 =>
      loopS (cut_relation_next_L2_S x0 x1 x2 v1 v4) 100000 (0, v2, v3)
      else none
    else
      Option.bind (slices_SortFunc_int_int_S v3) fun v15 =>
      some (.inr (v15, true))
theorem cut_relation_next_L1_sound (x0 : Ptr cut_relation) (x1 : List (List Int)) (x2 : Int) (s : Int × (List (ByteArray × Bool)) × List (List Int)) {Φ : List (List Int) × Bool → Prop} {rec1 : (Int × (List (ByteArray × Bool)) × List (List Int)) → Prop} {o} (h : cut_relation_next_L1_S x0 x1 x2 s = some o) (hK : (orK rec1 Φ) o) : cut_relation_next_L1 x0 x1 x2 Φ s rec1 := by
  obtain ⟨v1, v2, v3⟩ := s
  unfold cut_relation_next_L1_S at h
  unfold cut_relation_next_L1
  exact ifS h (fun h => adS h fun h => blS h fun _ hv h => cut_relation_mark_sound _ _ hv (LoopW.of_S (fun s q rec hs hq => cut_relation_next_L2_sound _ _ _ _ _ s hs hq) _ _ h hK)) fun h => blS h fun _ hv h => slices_SortFunc_int_int_sound _ hv (have t := lfS h hK; t)
def cut_relation_next_S (x0 : Ptr cut_relation) (x1 : List (List Int)) (x2 : Int) : Option (List (List Int) × Bool) :=
  loopS (cut_relation_next_L1_S x0 x1 x2) 100000 (0, ([] : List (ByteArray × Bool)), ([] : List (List Int)))
theorem cut_relation_next_sound (x0 : Ptr cut_relation) (x1 : List (List Int)) (x2 : Int) {Φ : List (List Int) × Bool → Prop} {o} (h : cut_relation_next_S x0 x1 x2 = some o) (hK : Φ o) : cut_relation_next_W x0 x1 x2 Φ := by
  unfold cut_relation_next_S at h
  unfold cut_relation_next_W
  exact LoopW.of_S (fun s q rec hs hq => cut_relation_next_L1_sound _ _ _ s hs hq) _ _ h hK
def cut_All_L2_S (x1 : Int) : (Unit) → Option ((Unit) ⊕ (List (List Int) × Int))
  | _ =>
    if 0 < (([([] : List Int)] : List (List Int)).length : Int) then
      if inI (0 + (([([] : List Int)] : List (List Int)).length : Int)) then
      if x1 < (0 + (([([] : List Int)] : List (List Int)).length : Int)) then
        some (.inr (([] : List (List Int)), 6))
      else
        if lenOk ([([] : List Int)] : List (List Int)).length 24 then
        if inI (x1 - (([([] : List Int)] : List (List Int)).length : Int)) then
        none
        else none
        else none
      else none
    else
      some (.inr (([] : List (List Int)), 0))
theorem cut_All_L2_sound (x1 : Int) (s : Unit) {Φ : List (List Int) × Int → Prop} {rec2 : (Unit) → Prop} {o} (h : cut_All_L2_S x1 s = some o) (hK : (orK rec2 Φ) o) : cut_All_L2 x1 Φ s rec2 := by
  unfold cut_All_L2_S at h
  unfold cut_All_L2
  exact ifS h (fun h => adS h fun h => ifS h (fun h => have t := lfS h hK; t) fun h => adS h fun h => adS h fun h => (by cases h)) fun h => have t := lfS h hK; t
def cut_All_J1_S (x1 : Int) : (Bool) → Option (List (List Int) × Int)
  | v2 =>
    if v2 = true then
      some ((([] : List (List Int)), 2))
    else
      loopS (cut_All_L2_S x1) 100000 ()
theorem cut_All_J1_sound (x1 : Int) (s : Bool) {Φ : List (List Int) × Int → Prop} {o} (h : cut_All_J1_S x1 s = some o) (hK : Φ o) : cut_All_J1 x1 Φ s := by
  unfold cut_All_J1_S at h
  unfold cut_All_J1
  exact ifS h (fun h => have t := lfS h hK; t) fun h => LoopW.of_S (fun s q rec hs hq => cut_All_L2_sound _ s hs hq) _ _ h hK
def cut_All_L5_S (x0 : api_History) (x1 : Int) (v6 : List Int) (v7 : List Int) : (List (List Int) × List (List Int)) → Option ((List (List Int) × List (List Int)) ⊕ ((Int × List Int × List Int) ⊕ (List (List Int) × Int)))
  | (v9, v10) =>
    if 0 < (v10.length : Int) then
      if inI ((v9.length : Int) + (v10.length : Int)) then
      if x1 < ((v9.length : Int) + (v10.length : Int)) then
        some (.inr (.inr (([] : List (List Int)), 6)))
      else
        if lenOk (v9 ++ v10).length 24 then
        if inI (x1 - ((v9 ++ v10).length : Int)) then
        Option.bind (cut_relation_next_S (Ptr.mk (cut_relation.mk (x0.Writes.length : Int) (x0.Events.length : Int) v6 v7)) v10 (x1 - ((v9 ++ v10).length : Int))) fun v11 =>
        if ¬ (v11.2 = true) then
          some (.inr (.inr (([] : List (List Int)), 6)))
        else
          some (.inl ((v9 ++ v10), v11.1))
        else none
        else none
      else none
    else
      some (.inr (.inr (v9, 0)))
theorem cut_All_L5_sound (x0 : api_History) (x1 : Int) (v6 : List Int) (v7 : List Int) (s : List (List Int) × List (List Int)) {Φ : List (List Int) × Int → Prop} {rec3 : (Int × List Int × List Int) → Prop} {rec5 : (List (List Int) × List (List Int)) → Prop} {o} (h : cut_All_L5_S x0 x1 v6 v7 s = some o) (hK : (orK rec5 (orK rec3 Φ)) o) : cut_All_L5 x0 x1 v6 v7 Φ s rec5 := by
  obtain ⟨v9, v10⟩ := s
  unfold cut_All_L5_S at h
  unfold cut_All_L5
  exact ifS h (fun h => adS h fun h => ifS h (fun h => have t := lfS h hK; t) fun h => adS h fun h => adS h fun h => blS h fun _ hv h => cut_relation_next_sound _ _ _ hv (ifS h (fun h => have t := lfS h hK; t) fun h => have t := lfS h hK; t)) fun h => have t := lfS h hK; t
def cut_All_J4_S (x0 : api_History) (x1 : Int) (v6 : List Int) (v7 : List Int) : (Bool) → Option ((Int × List Int × List Int) ⊕ (List (List Int) × Int))
  | v8 =>
    if v8 = true then
      some (.inr (([] : List (List Int)), 2))
    else
      loopS (cut_All_L5_S x0 x1 v6 v7) 100000 (([] : List (List Int)), ([([] : List Int)] : List (List Int)))
theorem cut_All_J4_sound (x0 : api_History) (x1 : Int) (v6 : List Int) (v7 : List Int) (s : Bool) {Φ : List (List Int) × Int → Prop} {rec3 : (Int × List Int × List Int) → Prop} {o} (h : cut_All_J4_S x0 x1 v6 v7 s = some o) (hK : (orK rec3 Φ) o) : cut_All_J4 x0 x1 v6 v7 Φ s := by
  unfold cut_All_J4_S at h
  unfold cut_All_J4
  exact ifS h (fun h => have t := lfS h hK; t) fun h => LoopW.of_S (fun s q rec hs hq => cut_All_L5_sound _ _ _ _ s hs hq) _ _ h hK
def cut_All_L3_S (x0 : api_History) (x1 : Int) : (Int × List Int × List Int) → Option ((Int × List Int × List Int) ⊕ (List (List Int) × Int))
  | (v5, v6, v7) =>
    if v5 < (x0.Events.length : Int) then
      if inX v5 x0.Events.length then
      if ((ix x0.Events v5).Kind) = 0 then
        if inX ((ix x0.Events v5).Write) v6.length then
        if inI (v5 + 1) then
        some (.inl ((v5 + 1), (put v6 ((ix x0.Events v5).Write) v5), v7))
        else none
        else none
      else
        if inX ((ix x0.Events v5).Write) v7.length then
        if inI (v5 + 1) then
        some (.inl ((v5 + 1), v6, (put v7 ((ix x0.Events v5).Write) v5)))
        else none
        else none
      else none
    else
      if (0 : Int) ≠ 0 then
        some (.inr (([] : List (List Int)), 0))
      else
        if x1 < 0 then
          cut_All_J4_S x0 x1 v6 v7 true
        else
          cut_All_J4_S x0 x1 v6 v7 (decide (4096 < x1))
theorem cut_All_L3_sound (x0 : api_History) (x1 : Int) (s : Int × List Int × List Int) {Φ : List (List Int) × Int → Prop} {rec3 : (Int × List Int × List Int) → Prop} {o} (h : cut_All_L3_S x0 x1 s = some o) (hK : (orK rec3 Φ) o) : cut_All_L3 x0 x1 Φ s rec3 := by
  obtain ⟨v5, v6, v7⟩ := s
  unfold cut_All_L3_S at h
  unfold cut_All_L3
  exact ifS h (fun h => adS h fun h => ifS h (fun h => adS h fun h => adS h fun h => have t := lfS h hK; t) fun h => adS h fun h => adS h fun h => have t := lfS h hK; t) fun h => ifS h (fun h => have t := lfS h hK; t) fun h => ifS h (fun h => cut_All_J4_sound _ _ _ _ _ h hK) fun h => cut_All_J4_sound _ _ _ _ _ h hK
def cut_All_S (x0 : api_History) (x1 : Int) : Option (List (List Int) × Int) :=
  Option.bind (history_Check_S x0) fun v1 =>
  if v1 ≠ 0 then
    if v1 ≠ 0 then
      some ((([] : List (List Int)), v1))
    else
      if x1 < 0 then
        cut_All_J1_S x1 true
      else
        cut_All_J1_S x1 (decide (4096 < x1))
  else
    Option.bind (slices_Repeat_int_int_S ([(x0.Events.length : Int)] : List Int) (x0.Writes.length : Int)) fun z =>
    let v3 : List Int × Unit := (z, ())
    Option.bind (slices_Repeat_int_int_S ([(x0.Events.length : Int)] : List Int) (x0.Writes.length : Int)) fun z =>
    let v4 : List Int × Unit := (z, ())
    loopS (cut_All_L3_S x0 x1) 100000 (0, v3.1, v4.1)
theorem cut_All_sound (x0 : api_History) (x1 : Int) {Φ : List (List Int) × Int → Prop} {o} (h : cut_All_S x0 x1 = some o) (hK : Φ o) : cut_All_W x0 x1 Φ := by
  unfold cut_All_S at h
  unfold cut_All_W
  exact blS h fun _ hv h => history_Check_sound _ hv (ifS h (fun h => ifS h (fun h => have t := lfS h hK; t) fun h => ifS h (fun h => cut_All_J1_sound _ _ h hK) fun h => cut_All_J1_sound _ _ h hK) fun h => blS h fun _ hv h => ⟨_, slices_Repeat_int_int_sound _ _ hv rfl, blS h fun _ hv h => ⟨_, slices_Repeat_int_int_sound _ _ hv rfl, LoopW.of_S (fun s q rec hs hq => cut_All_L3_sound _ _ s hs hq) _ _ h hK⟩⟩)
def slices_Clone_cut_marks_bool_S (x0 : List Bool) : Option (List Bool) :=
  bothS (decide (x0 = [])) (
    some (([] : List Bool))) (
    if lenOk (([] : List Bool) ++ x0).length 1 then
    some ((([] : List Bool) ++ x0))
    else none)
theorem slices_Clone_cut_marks_bool_sound (x0 : List Bool) {Φ : List Bool → Prop} {o} (h : slices_Clone_cut_marks_bool_S x0 = some o) (hK : Φ o) : slices_Clone_cut_marks_bool_W x0 Φ := by
  unfold slices_Clone_cut_marks_bool_S at h
  unfold slices_Clone_cut_marks_bool_W
  exact nl2S h (fun h => have t := lfS h hK; t) fun h => adS h fun h => have t := lfS h hK; t
def cut_marks_members_1_L1_S (x0 : List Bool) : (Int) → Option (List (Int × Unit) × ((Int) ⊕ (Unit)))
  | v1 =>
    if v1 < (x0.length : Int) then
      if inX v1 x0.length then
      if (ix x0 v1) = true then
        Option.map (fun q => ((v1, ()) :: q.1, q.2)) (
          if inI (v1 + 1) then
          some ([], .inl (v1 + 1))
          else none)
      else
        if inI (v1 + 1) then
        some ([], .inl (v1 + 1))
        else none
      else none
    else
      some ([], .inr ())
theorem cut_marks_members_1_L1_sound (x0 : List Bool) (s : Int) {ys : List (Int × Unit)} {q} {r : List (Int × Unit)} {rec1 : (List (Int × Unit) × Int) → Prop} (h : cut_marks_members_1_L1_S x0 s = some (ys, q)) (hr : (orK (fun s => rec1 (r, s)) (fun _ => r = [])) q) : cut_marks_members_1_L1 x0 (ys ++ r, s) rec1 := by
  unfold cut_marks_members_1_L1_S at h
  unfold cut_marks_members_1_L1
  exact ifS h (fun h => adS h fun h => ifS h (fun h => mpS h fun q_ h_ he => (by obtain ⟨_, _⟩ := q_; cases he; exact ⟨rfl, (have h := h_; adS h fun h => (by cases h; exact hr)), trivial⟩)) fun h => adS h fun h => (by cases h; exact hr)) fun h => (by cases h; exact hr)
def cut_marks_members_1_S0 (x0 : List Bool) : Option (List (Int × Unit) × Unit) :=
  genS (cut_marks_members_1_L1_S x0) 100000 0
def cut_marks_members_1_S (x0 : List Bool) : Option (List (Int × Unit)) := Option.map Prod.fst (cut_marks_members_1_S0 x0)
theorem cut_marks_members_1_sound (x0 : List Bool) {l : List (Int × Unit)} (h : cut_marks_members_1_S x0 = some l) : cut_marks_members_1_I x0 l := by
  obtain ⟨⟨ys, q⟩, h0, h1⟩ := Option.map_eq_some_iff.1 h
  clear h
  have h := h0
  subst h1
  unfold cut_marks_members_1_S0 at h
  unfold cut_marks_members_1_I
  have hr : (fun _ => ([] : List (Int × Unit)) = []) q := rfl
  rw [← List.append_nil ys]
  exact LoopW.of_G (K := fun r => (fun _ => r = [])) (fun s ys q r rec hs hr => cut_marks_members_1_L1_sound _ s hs hr) _ _ _ h hr
def cut_marks_list_L1_S : (List (Int × Unit) × List Int) → Option ((List (Int × Unit) × List Int) ⊕ (List Int))
  | (lst, v1) =>
    match lst with
    | [] =>
      some (.inr v1)
    | v2 :: r3 =>
      if lenOk (v1 ++ ([v2.1] : List Int)).length 8 then
      some (.inl (r3, (v1 ++ ([v2.1] : List Int))))
      else none
theorem cut_marks_list_L1_sound (s : List (Int × Unit) × List Int) {Φ : List Int → Prop} {rec1 : (List (Int × Unit) × List Int) → Prop} {o} (h : cut_marks_list_L1_S s = some o) (hK : (orK rec1 Φ) o) : cut_marks_list_L1 Φ s rec1 := by
  obtain ⟨lst, v1⟩ := s
  unfold cut_marks_list_L1_S at h
  unfold cut_marks_list_L1
  cases lst with
  | nil => exact have t := lfS h hK; t
  | cons _ _ => exact adS h fun h => have t := lfS h hK; t
def cut_marks_list_S (x0 : List Bool) : Option (List Int) :=
  Option.bind (cut_marks_members_1_S x0) fun l4 =>
  loopS (cut_marks_list_L1_S) 100000 (l4, ([] : List Int))
theorem cut_marks_list_sound (x0 : List Bool) {Φ : List Int → Prop} {o} (h : cut_marks_list_S x0 = some o) (hK : Φ o) : cut_marks_list_W x0 Φ := by
  unfold cut_marks_list_S at h
  unfold cut_marks_list_W
  exact blS h fun _ hv h => ⟨_, cut_marks_members_1_sound _ hv, LoopW.of_S (fun s q rec hs hq => cut_marks_list_L1_sound s hs hq) _ _ h hK⟩
def cut_Least_L1_S (x1 : List Int) : (Unit) → Option ((Unit) ⊕ (List Int × Int))
  | _ =>
    if 0 < (([x1] : List (List Int)).length : Int) then
      if inX 0 ([x1] : List (List Int)).length then
      none
      else none
    else
      if (0 : Int) ≠ 0 then
        some (.inr (([] : List Int), 0))
      else
        none
theorem cut_Least_L1_sound (x1 : List Int) (s : Unit) {Φ : List Int × Int → Prop} {rec1 : (Unit) → Prop} {o} (h : cut_Least_L1_S x1 s = some o) (hK : (orK rec1 Φ) o) : cut_Least_L1 x1 Φ s rec1 := by
  unfold cut_Least_L1_S at h
  unfold cut_Least_L1
  exact ifS h (fun h => adS h fun h => (by cases h)) fun h => ifS h (fun h => have t := lfS h hK; t) fun h => (by cases h)
def cut_Least_L5_S (x0 : api_History) (v5 : List Int) (v6 : List Int) (v12 : Int × Unit) (r13 : List (Int × Unit)) : (Int × List Bool) → Option ((Int × List Bool) ⊕ ((List (Int × Unit) × List Bool) ⊕ ((Int × List (List Bool)) ⊕ ((Int × List Int × List Int) ⊕ (List Int × Int)))))
  | (v14, v15) =>
    if v14 < (x0.Writes.length : Int) then
      if inX v14 v15.length then
      if (ix v15 v14) = true then
        if inX v14 v15.length then
        if inI (v14 + 1) then
        some (.inl ((v14 + 1), (put v15 v14 true)))
        else none
        else none
      else
        Option.bind (cut_relation_before_S (Ptr.mk (cut_relation.mk (x0.Writes.length : Int) (x0.Events.length : Int) v5 v6)) v14 v12.1) fun z =>
        let v16 : Bool × Unit := (z, ())
        if inX v14 v15.length then
        if inI (v14 + 1) then
        some (.inl ((v14 + 1), (put v15 v14 v16.1)))
        else none
        else none
      else none
    else
      some (.inr (.inl (r13, v15)))
theorem cut_Least_L5_sound (x0 : api_History) (v5 : List Int) (v6 : List Int) (v12 : Int × Unit) (r13 : List (Int × Unit)) (s : Int × List Bool) {Φ : List Int × Int → Prop} {rec2 : (Int × List Int × List Int) → Prop} {rec3 : (Int × List (List Bool)) → Prop} {rec4 : (List (Int × Unit) × List Bool) → Prop} {rec5 : (Int × List Bool) → Prop} {o} (h : cut_Least_L5_S x0 v5 v6 v12 r13 s = some o) (hK : (orK rec5 (orK rec4 (orK rec3 (orK rec2 Φ)))) o) : cut_Least_L5 x0 v5 v6 rec4 v12 r13 Φ s rec5 := by
  obtain ⟨v14, v15⟩ := s
  unfold cut_Least_L5_S at h
  unfold cut_Least_L5
  exact ifS h (fun h => adS h fun h => ifS h (fun h => adS h fun h => adS h fun h => have t := lfS h hK; t) fun h => blS h fun _ hv h => ⟨_, cut_relation_before_sound _ _ _ hv rfl, adS h fun h => adS h fun h => have t := lfS h hK; t⟩) fun h => have t := lfS h hK; t
def cut_Least_L4_S (x0 : api_History) (v5 : List Int) (v6 : List Int) : (List (Int × Unit) × List Bool) → Option ((List (Int × Unit) × List Bool) ⊕ ((Int × List (List Bool)) ⊕ ((Int × List Int × List Int) ⊕ (List Int × Int))))
  | (lst, v11) =>
    match lst with
    | [] =>
      Option.bind (cut_marks_list_S v11) fun v17 =>
      some (.inr (.inr (.inr (v17, 0))))
    | v12 :: r13 =>
      loopS (cut_Least_L5_S x0 v5 v6 v12 r13) 100000 (0, v11)
theorem cut_Least_L4_sound (x0 : api_History) (v5 : List Int) (v6 : List Int) (s : List (Int × Unit) × List Bool) {Φ : List Int × Int → Prop} {rec2 : (Int × List Int × List Int) → Prop} {rec3 : (Int × List (List Bool)) → Prop} {rec4 : (List (Int × Unit) × List Bool) → Prop} {o} (h : cut_Least_L4_S x0 v5 v6 s = some o) (hK : (orK rec4 (orK rec3 (orK rec2 Φ))) o) : cut_Least_L4 x0 v5 v6 Φ s rec4 := by
  obtain ⟨lst, v11⟩ := s
  unfold cut_Least_L4_S at h
  unfold cut_Least_L4
  cases lst with
  | nil => exact blS h fun _ hv h => cut_marks_list_sound _ hv (have t := lfS h hK; t)
  | cons _ _ => exact LoopW.of_S (fun s q rec hs hq => cut_Least_L5_sound _ _ _ _ _ s hs hq) _ _ h hK
def cut_Least_L3_S (x0 : api_History) (x1 : List Int) (v5 : List Int) (v6 : List Int) : (Int × List (List Bool)) → Option ((Int × List (List Bool)) ⊕ ((Int × List Int × List Int) ⊕ (List Int × Int)))
  | (v7, v8) =>
    if v7 < (([x1] : List (List Int)).length : Int) then
      if inX v7 ([x1] : List (List Int)).length then
      Option.bind (cut_relation_mark_S (Ptr.mk (cut_relation.mk (x0.Writes.length : Int) (x0.Events.length : Int) v5 v6)) (ix ([x1] : List (List Int)) v7)) fun v9 =>
      if ¬ (v9.2 = true) then
        if (2 : Int) ≠ 0 then
          some (.inr (.inr (([] : List Int), 2)))
        else
          none
      else
        if lenOk (v8 ++ ([v9.1] : List (List Bool))).length 24 then
        if inI (v7 + 1) then
        some (.inl ((v7 + 1), (v8 ++ ([v9.1] : List (List Bool)))))
        else none
        else none
      else none
    else
      if (0 : Int) ≠ 0 then
        some (.inr (.inr (([] : List Int), 0)))
      else
        if inX 0 v8.length then
        Option.bind (slices_Clone_cut_marks_bool_S (ix v8 0)) fun v10 =>
        if inX 0 v8.length then
        Option.bind (cut_marks_members_1_S (ix v8 0)) fun l18 =>
        loopS (cut_Least_L4_S x0 v5 v6) 100000 (l18, v10)
        else none
        else none
theorem cut_Least_L3_sound (x0 : api_History) (x1 : List Int) (v5 : List Int) (v6 : List Int) (s : Int × List (List Bool)) {Φ : List Int × Int → Prop} {rec2 : (Int × List Int × List Int) → Prop} {rec3 : (Int × List (List Bool)) → Prop} {o} (h : cut_Least_L3_S x0 x1 v5 v6 s = some o) (hK : (orK rec3 (orK rec2 Φ)) o) : cut_Least_L3 x0 x1 v5 v6 Φ s rec3 := by
  obtain ⟨v7, v8⟩ := s
  unfold cut_Least_L3_S at h
  unfold cut_Least_L3
  exact ifS h (fun h => adS h fun h => blS h fun _ hv h => cut_relation_mark_sound _ _ hv (ifS h (fun h => ifS h (fun h => have t := lfS h hK; t) fun h => (by cases h)) fun h => adS h fun h => adS h fun h => have t := lfS h hK; t)) fun h => ifS h (fun h => have t := lfS h hK; t) fun h => adS h fun h => blS h fun _ hv h => slices_Clone_cut_marks_bool_sound _ hv (adS h fun h => blS h fun _ hv h => ⟨_, cut_marks_members_1_sound _ hv, LoopW.of_S (fun s q rec hs hq => cut_Least_L4_sound _ _ _ s hs hq) _ _ h hK⟩)
def cut_Least_L2_S (x0 : api_History) (x1 : List Int) : (Int × List Int × List Int) → Option ((Int × List Int × List Int) ⊕ (List Int × Int))
  | (v4, v5, v6) =>
    if v4 < (x0.Events.length : Int) then
      if inX v4 x0.Events.length then
      if ((ix x0.Events v4).Kind) = 0 then
        if inX ((ix x0.Events v4).Write) v5.length then
        if inI (v4 + 1) then
        some (.inl ((v4 + 1), (put v5 ((ix x0.Events v4).Write) v4), v6))
        else none
        else none
      else
        if inX ((ix x0.Events v4).Write) v6.length then
        if inI (v4 + 1) then
        some (.inl ((v4 + 1), v5, (put v6 ((ix x0.Events v4).Write) v4)))
        else none
        else none
      else none
    else
      if (0 : Int) ≠ 0 then
        if (0 : Int) ≠ 0 then
          some (.inr (([] : List Int), 0))
        else
          none
      else
        loopS (cut_Least_L3_S x0 x1 v5 v6) 100000 (0, ([] : List (List Bool)))
theorem cut_Least_L2_sound (x0 : api_History) (x1 : List Int) (s : Int × List Int × List Int) {Φ : List Int × Int → Prop} {rec2 : (Int × List Int × List Int) → Prop} {o} (h : cut_Least_L2_S x0 x1 s = some o) (hK : (orK rec2 Φ) o) : cut_Least_L2 x0 x1 Φ s rec2 := by
  obtain ⟨v4, v5, v6⟩ := s
  unfold cut_Least_L2_S at h
  unfold cut_Least_L2
  exact ifS h (fun h => adS h fun h => ifS h (fun h => adS h fun h => adS h fun h => have t := lfS h hK; t) fun h => adS h fun h => adS h fun h => have t := lfS h hK; t) fun h => ifS h (fun h => ifS h (fun h => have t := lfS h hK; t) fun h => (by cases h)) fun h => LoopW.of_S (fun s q rec hs hq => cut_Least_L3_sound _ _ _ _ s hs hq) _ _ h hK
def cut_Least_S (x0 : api_History) (x1 : List Int) : Option (List Int × Int) :=
  Option.bind (history_Check_S x0) fun v1 =>
  if v1 ≠ 0 then
    if v1 ≠ 0 then
      if v1 ≠ 0 then
        some ((([] : List Int), v1))
      else
        none
    else
      loopS (cut_Least_L1_S x1) 100000 ()
  else
    Option.bind (slices_Repeat_int_int_S ([(x0.Events.length : Int)] : List Int) (x0.Writes.length : Int)) fun z =>
    let v2 : List Int × Unit := (z, ())
    Option.bind (slices_Repeat_int_int_S ([(x0.Events.length : Int)] : List Int) (x0.Writes.length : Int)) fun z =>
    let v3 : List Int × Unit := (z, ())
    loopS (cut_Least_L2_S x0 x1) 100000 (0, v2.1, v3.1)
theorem cut_Least_sound (x0 : api_History) (x1 : List Int) {Φ : List Int × Int → Prop} {o} (h : cut_Least_S x0 x1 = some o) (hK : Φ o) : cut_Least_W x0 x1 Φ := by
  unfold cut_Least_S at h
  unfold cut_Least_W
  exact blS h fun _ hv h => history_Check_sound _ hv (ifS h (fun h => ifS h (fun h => ifS h (fun h => have t := lfS h hK; t) fun h => (by cases h)) fun h => LoopW.of_S (fun s q rec hs hq => cut_Least_L1_sound _ s hs hq) _ _ h hK) fun h => blS h fun _ hv h => ⟨_, slices_Repeat_int_int_sound _ _ hv rfl, blS h fun _ hv h => ⟨_, slices_Repeat_int_int_sound _ _ hv rfl, LoopW.of_S (fun s q rec hs hq => cut_Least_L2_sound _ _ s hs hq) _ _ h hK⟩⟩)
def cut_Greatest_L1_S (x1 : List Int) : (Unit) → Option ((Unit) ⊕ (List Int × Int))
  | _ =>
    if 0 < (([x1] : List (List Int)).length : Int) then
      if inX 0 ([x1] : List (List Int)).length then
      none
      else none
    else
      if (0 : Int) ≠ 0 then
        some (.inr (([] : List Int), 0))
      else
        none
theorem cut_Greatest_L1_sound (x1 : List Int) (s : Unit) {Φ : List Int × Int → Prop} {rec1 : (Unit) → Prop} {o} (h : cut_Greatest_L1_S x1 s = some o) (hK : (orK rec1 Φ) o) : cut_Greatest_L1 x1 Φ s rec1 := by
  unfold cut_Greatest_L1_S at h
  unfold cut_Greatest_L1
  exact ifS h (fun h => adS h fun h => (by cases h)) fun h => ifS h (fun h => have t := lfS h hK; t) fun h => (by cases h)
def cut_Greatest_L5_S (x0 : api_History) (v5 : List Int) (v6 : List Int) (v8 : List (List Bool)) (v12 : Int × Unit) (r13 : List (Int × Unit)) : (Int × List Bool) → Option ((Int × List Bool) ⊕ ((List (Int × Unit) × List Bool) ⊕ ((Int × List (List Bool)) ⊕ ((Int × List Int × List Int) ⊕ (List Int × Int)))))
  | (v14, v15) =>
    if v14 < (x0.Writes.length : Int) then
      if inX v12.1 v15.length then
      if (ix v15 v12.1) = true then
        if inX 0 v8.length then
        if inX v14 (ix v8 0).length then
        if (ix (ix v8 0) v14) = true then
          if inX v12.1 v15.length then
          if inI (v14 + 1) then
          some (.inl ((v14 + 1), (put v15 v12.1 true)))
          else none
          else none
        else
          Option.bind (cut_relation_before_S (Ptr.mk (cut_relation.mk (x0.Writes.length : Int) (x0.Events.length : Int) v5 v6)) v14 v12.1) fun z =>
          let v16 : Bool × Unit := (z, ())
          if inX v12.1 v15.length then
          if inI (v14 + 1) then
          some (.inl ((v14 + 1), (put v15 v12.1 (decide (¬ (v16.1 = true))))))
          else none
          else none
        else none
        else none
      else
        if inX v12.1 v15.length then
        if inI (v14 + 1) then
        some (.inl ((v14 + 1), (put v15 v12.1 false)))
        else none
        else none
      else none
    else
      some (.inr (.inl (r13, v15)))
theorem cut_Greatest_L5_sound (x0 : api_History) (v5 : List Int) (v6 : List Int) (v8 : List (List Bool)) (v12 : Int × Unit) (r13 : List (Int × Unit)) (s : Int × List Bool) {Φ : List Int × Int → Prop} {rec2 : (Int × List Int × List Int) → Prop} {rec3 : (Int × List (List Bool)) → Prop} {rec4 : (List (Int × Unit) × List Bool) → Prop} {rec5 : (Int × List Bool) → Prop} {o} (h : cut_Greatest_L5_S x0 v5 v6 v8 v12 r13 s = some o) (hK : (orK rec5 (orK rec4 (orK rec3 (orK rec2 Φ)))) o) : cut_Greatest_L5 x0 v5 v6 v8 rec4 v12 r13 Φ s rec5 := by
  obtain ⟨v14, v15⟩ := s
  unfold cut_Greatest_L5_S at h
  unfold cut_Greatest_L5
  exact ifS h (fun h => adS h fun h => ifS h (fun h => adS h fun h => adS h fun h => ifS h (fun h => adS h fun h => adS h fun h => have t := lfS h hK; t) fun h => blS h fun _ hv h => ⟨_, cut_relation_before_sound _ _ _ hv rfl, adS h fun h => adS h fun h => have t := lfS h hK; t⟩) fun h => adS h fun h => adS h fun h => have t := lfS h hK; t) fun h => have t := lfS h hK; t
def cut_Greatest_L4_S (x0 : api_History) (v5 : List Int) (v6 : List Int) (v8 : List (List Bool)) : (List (Int × Unit) × List Bool) → Option ((List (Int × Unit) × List Bool) ⊕ ((Int × List (List Bool)) ⊕ ((Int × List Int × List Int) ⊕ (List Int × Int))))
  | (lst, v11) =>
    match lst with
    | [] =>
      Option.bind (cut_marks_list_S v11) fun v17 =>
      some (.inr (.inr (.inr (v17, 0))))
    | v12 :: r13 =>
      loopS (cut_Greatest_L5_S x0 v5 v6 v8 v12 r13) 100000 (0, v11)
theorem cut_Greatest_L4_sound (x0 : api_History) (v5 : List Int) (v6 : List Int) (v8 : List (List Bool)) (s : List (Int × Unit) × List Bool) {Φ : List Int × Int → Prop} {rec2 : (Int × List Int × List Int) → Prop} {rec3 : (Int × List (List Bool)) → Prop} {rec4 : (List (Int × Unit) × List Bool) → Prop} {o} (h : cut_Greatest_L4_S x0 v5 v6 v8 s = some o) (hK : (orK rec4 (orK rec3 (orK rec2 Φ))) o) : cut_Greatest_L4 x0 v5 v6 v8 Φ s rec4 := by
  obtain ⟨lst, v11⟩ := s
  unfold cut_Greatest_L4_S at h
  unfold cut_Greatest_L4
  cases lst with
  | nil => exact blS h fun _ hv h => cut_marks_list_sound _ hv (have t := lfS h hK; t)
  | cons _ _ => exact LoopW.of_S (fun s q rec hs hq => cut_Greatest_L5_sound _ _ _ _ _ _ s hs hq) _ _ h hK
def cut_Greatest_L3_S (x0 : api_History) (x1 : List Int) (v5 : List Int) (v6 : List Int) : (Int × List (List Bool)) → Option ((Int × List (List Bool)) ⊕ ((Int × List Int × List Int) ⊕ (List Int × Int)))
  | (v7, v8) =>
    if v7 < (([x1] : List (List Int)).length : Int) then
      if inX v7 ([x1] : List (List Int)).length then
      Option.bind (cut_relation_mark_S (Ptr.mk (cut_relation.mk (x0.Writes.length : Int) (x0.Events.length : Int) v5 v6)) (ix ([x1] : List (List Int)) v7)) fun v9 =>
      if ¬ (v9.2 = true) then
        if (2 : Int) ≠ 0 then
          some (.inr (.inr (([] : List Int), 2)))
        else
          none
      else
        if lenOk (v8 ++ ([v9.1] : List (List Bool))).length 24 then
        if inI (v7 + 1) then
        some (.inl ((v7 + 1), (v8 ++ ([v9.1] : List (List Bool)))))
        else none
        else none
      else none
    else
      if (0 : Int) ≠ 0 then
        some (.inr (.inr (([] : List Int), 0)))
      else
        if inX 0 v8.length then
        Option.bind (slices_Clone_cut_marks_bool_S (ix v8 0)) fun v10 =>
        if inX 0 v8.length then
        Option.bind (cut_marks_members_1_S (ix v8 0)) fun l18 =>
        loopS (cut_Greatest_L4_S x0 v5 v6 v8) 100000 (l18, v10)
        else none
        else none
theorem cut_Greatest_L3_sound (x0 : api_History) (x1 : List Int) (v5 : List Int) (v6 : List Int) (s : Int × List (List Bool)) {Φ : List Int × Int → Prop} {rec2 : (Int × List Int × List Int) → Prop} {rec3 : (Int × List (List Bool)) → Prop} {o} (h : cut_Greatest_L3_S x0 x1 v5 v6 s = some o) (hK : (orK rec3 (orK rec2 Φ)) o) : cut_Greatest_L3 x0 x1 v5 v6 Φ s rec3 := by
  obtain ⟨v7, v8⟩ := s
  unfold cut_Greatest_L3_S at h
  unfold cut_Greatest_L3
  exact ifS h (fun h => adS h fun h => blS h fun _ hv h => cut_relation_mark_sound _ _ hv (ifS h (fun h => ifS h (fun h => have t := lfS h hK; t) fun h => (by cases h)) fun h => adS h fun h => adS h fun h => have t := lfS h hK; t)) fun h => ifS h (fun h => have t := lfS h hK; t) fun h => adS h fun h => blS h fun _ hv h => slices_Clone_cut_marks_bool_sound _ hv (adS h fun h => blS h fun _ hv h => ⟨_, cut_marks_members_1_sound _ hv, LoopW.of_S (fun s q rec hs hq => cut_Greatest_L4_sound _ _ _ _ s hs hq) _ _ h hK⟩)
def cut_Greatest_L2_S (x0 : api_History) (x1 : List Int) : (Int × List Int × List Int) → Option ((Int × List Int × List Int) ⊕ (List Int × Int))
  | (v4, v5, v6) =>
    if v4 < (x0.Events.length : Int) then
      if inX v4 x0.Events.length then
      if ((ix x0.Events v4).Kind) = 0 then
        if inX ((ix x0.Events v4).Write) v5.length then
        if inI (v4 + 1) then
        some (.inl ((v4 + 1), (put v5 ((ix x0.Events v4).Write) v4), v6))
        else none
        else none
      else
        if inX ((ix x0.Events v4).Write) v6.length then
        if inI (v4 + 1) then
        some (.inl ((v4 + 1), v5, (put v6 ((ix x0.Events v4).Write) v4)))
        else none
        else none
      else none
    else
      if (0 : Int) ≠ 0 then
        if (0 : Int) ≠ 0 then
          some (.inr (([] : List Int), 0))
        else
          none
      else
        loopS (cut_Greatest_L3_S x0 x1 v5 v6) 100000 (0, ([] : List (List Bool)))
theorem cut_Greatest_L2_sound (x0 : api_History) (x1 : List Int) (s : Int × List Int × List Int) {Φ : List Int × Int → Prop} {rec2 : (Int × List Int × List Int) → Prop} {o} (h : cut_Greatest_L2_S x0 x1 s = some o) (hK : (orK rec2 Φ) o) : cut_Greatest_L2 x0 x1 Φ s rec2 := by
  obtain ⟨v4, v5, v6⟩ := s
  unfold cut_Greatest_L2_S at h
  unfold cut_Greatest_L2
  exact ifS h (fun h => adS h fun h => ifS h (fun h => adS h fun h => adS h fun h => have t := lfS h hK; t) fun h => adS h fun h => adS h fun h => have t := lfS h hK; t) fun h => ifS h (fun h => ifS h (fun h => have t := lfS h hK; t) fun h => (by cases h)) fun h => LoopW.of_S (fun s q rec hs hq => cut_Greatest_L3_sound _ _ _ _ s hs hq) _ _ h hK
def cut_Greatest_S (x0 : api_History) (x1 : List Int) : Option (List Int × Int) :=
  Option.bind (history_Check_S x0) fun v1 =>
  if v1 ≠ 0 then
    if v1 ≠ 0 then
      if v1 ≠ 0 then
        some ((([] : List Int), v1))
      else
        none
    else
      loopS (cut_Greatest_L1_S x1) 100000 ()
  else
    Option.bind (slices_Repeat_int_int_S ([(x0.Events.length : Int)] : List Int) (x0.Writes.length : Int)) fun z =>
    let v2 : List Int × Unit := (z, ())
    Option.bind (slices_Repeat_int_int_S ([(x0.Events.length : Int)] : List Int) (x0.Writes.length : Int)) fun z =>
    let v3 : List Int × Unit := (z, ())
    loopS (cut_Greatest_L2_S x0 x1) 100000 (0, v2.1, v3.1)
theorem cut_Greatest_sound (x0 : api_History) (x1 : List Int) {Φ : List Int × Int → Prop} {o} (h : cut_Greatest_S x0 x1 = some o) (hK : Φ o) : cut_Greatest_W x0 x1 Φ := by
  unfold cut_Greatest_S at h
  unfold cut_Greatest_W
  exact blS h fun _ hv h => history_Check_sound _ hv (ifS h (fun h => ifS h (fun h => ifS h (fun h => have t := lfS h hK; t) fun h => (by cases h)) fun h => LoopW.of_S (fun s q rec hs hq => cut_Greatest_L1_sound _ s hs hq) _ _ h hK) fun h => blS h fun _ hv h => ⟨_, slices_Repeat_int_int_sound _ _ hv rfl, blS h fun _ hv h => ⟨_, slices_Repeat_int_int_sound _ _ hv rfl, LoopW.of_S (fun s q rec hs hq => cut_Greatest_L2_sound _ _ s hs hq) _ _ h hK⟩⟩)
def cut_relation_closed_L2_S (x0 : Ptr cut_relation) (x1 : List Bool) (v1 : Int × Unit) (r2 : List (Int × Unit)) : (Int) → Option ((Int) ⊕ ((List (Int × Unit) × Unit) ⊕ (Bool)))
  | v3 =>
    if v3 < x0.val.n then
      Option.bind (cut_relation_before_S x0 v3 v1.1) fun v4 =>
      if v4 = true then
        if inX v3 x1.length then
        if ¬ ((ix x1 v3) = true) then
          some (.inr (.inr false))
        else
          if inI (v3 + 1) then
          some (.inl (v3 + 1))
          else none
        else none
      else
        if inI (v3 + 1) then
        some (.inl (v3 + 1))
        else none
    else
      some (.inr (.inl (r2, ())))
theorem cut_relation_closed_L2_sound (x0 : Ptr cut_relation) (x1 : List Bool) (v1 : Int × Unit) (r2 : List (Int × Unit)) (s : Int) {Φ : Bool → Prop} {rec1 : (List (Int × Unit) × Unit) → Prop} {rec2 : (Int) → Prop} {o} (h : cut_relation_closed_L2_S x0 x1 v1 r2 s = some o) (hK : (orK rec2 (orK rec1 Φ)) o) : cut_relation_closed_L2 x0 x1 rec1 v1 r2 Φ s rec2 := by
  unfold cut_relation_closed_L2_S at h
  unfold cut_relation_closed_L2
  exact ifS h (fun h => blS h fun _ hv h => cut_relation_before_sound _ _ _ hv (ifS h (fun h => adS h fun h => ifS h (fun h => have t := lfS h hK; t) fun h => adS h fun h => have t := lfS h hK; t) fun h => adS h fun h => have t := lfS h hK; t)) fun h => have t := lfS h hK; t
def cut_relation_closed_L1_S (x0 : Ptr cut_relation) (x1 : List Bool) : (List (Int × Unit) × Unit) → Option ((List (Int × Unit) × Unit) ⊕ (Bool))
  | (lst, _) =>
    match lst with
    | [] =>
      some (.inr true)
    | v1 :: r2 =>
      loopS (cut_relation_closed_L2_S x0 x1 v1 r2) 100000 0
theorem cut_relation_closed_L1_sound (x0 : Ptr cut_relation) (x1 : List Bool) (s : List (Int × Unit) × Unit) {Φ : Bool → Prop} {rec1 : (List (Int × Unit) × Unit) → Prop} {o} (h : cut_relation_closed_L1_S x0 x1 s = some o) (hK : (orK rec1 Φ) o) : cut_relation_closed_L1 x0 x1 Φ s rec1 := by
  obtain ⟨lst, _⟩ := s
  unfold cut_relation_closed_L1_S at h
  unfold cut_relation_closed_L1
  cases lst with
  | nil => exact have t := lfS h hK; t
  | cons _ _ => exact LoopW.of_S (fun s q rec hs hq => cut_relation_closed_L2_sound _ _ _ _ s hs hq) _ _ h hK
def cut_relation_closed_S (x0 : Ptr cut_relation) (x1 : List Bool) : Option (Bool) :=
  Option.bind (cut_marks_members_1_S x1) fun l5 =>
  loopS (cut_relation_closed_L1_S x0 x1) 100000 (l5, ())
theorem cut_relation_closed_sound (x0 : Ptr cut_relation) (x1 : List Bool) {Φ : Bool → Prop} {o} (h : cut_relation_closed_S x0 x1 = some o) (hK : Φ o) : cut_relation_closed_W x0 x1 Φ := by
  unfold cut_relation_closed_S at h
  unfold cut_relation_closed_W
  exact blS h fun _ hv h => ⟨_, cut_marks_members_1_sound _ hv, LoopW.of_S (fun s q rec hs hq => cut_relation_closed_L1_sound _ _ s hs hq) _ _ h hK⟩
def cut_Frontier_L2_S : (Unit) → Option ((Unit) ⊕ ((Unit) ⊕ (List Int × Int)))
  | _ =>
    if (0 : Int) < 0 then
      none
    else
      if 0 ≤ ((-1) : Int) then
        if (27 : Int) ≠ 0 then
          some (.inr (.inr (([] : List Int), 27)))
        else
          none
      else
        if (0 : Int) ≠ 0 then
          some (.inr (.inr (([] : List Int), 0)))
        else
          none
theorem cut_Frontier_L2_sound (s : Unit) {Φ : List Int × Int → Prop} {rec1 : (Unit) → Prop} {rec2 : (Unit) → Prop} {o} (h : cut_Frontier_L2_S s = some o) (hK : (orK rec2 (orK rec1 Φ)) o) : cut_Frontier_L2 Φ s rec2 := by
  unfold cut_Frontier_L2_S at h
  unfold cut_Frontier_L2
  exact ifS h (fun h => (by cases h)) fun h => ifS h (fun h => ifS h (fun h => have t := lfS h hK; t) fun h => (by cases h)) fun h => ifS h (fun h => have t := lfS h hK; t) fun h => (by cases h)
def cut_Frontier_L1_S (x1 : List Int) : (Unit) → Option ((Unit) ⊕ (List Int × Int))
  | _ =>
    if 0 < (([x1] : List (List Int)).length : Int) then
      if inX 0 ([x1] : List (List Int)).length then
      none
      else none
    else
      loopS (cut_Frontier_L2_S) 100000 ()
theorem cut_Frontier_L1_sound (x1 : List Int) (s : Unit) {Φ : List Int × Int → Prop} {rec1 : (Unit) → Prop} {o} (h : cut_Frontier_L1_S x1 s = some o) (hK : (orK rec1 Φ) o) : cut_Frontier_L1 x1 Φ s rec1 := by
  unfold cut_Frontier_L1_S at h
  unfold cut_Frontier_L1
  exact ifS h (fun h => adS h fun h => (by cases h)) fun h => LoopW.of_S (fun s q rec hs hq => cut_Frontier_L2_sound s hs hq) _ _ h hK
def cut_Frontier_L7_S (x0 : api_History) (v5 : List Int) (v6 : List Int) (v13 : Int × Unit) (r14 : List (Int × Unit)) : (Int × List Bool) → Option ((Int × List Bool) ⊕ ((List (Int × Unit) × List Bool) ⊕ ((Int × List (List Bool)) ⊕ ((Int × List Int × List Int) ⊕ (List Int × Int)))))
  | (v15, v16) =>
    if v15 < (x0.Writes.length : Int) then
      if inX v15 v16.length then
      if (ix v16 v15) = true then
        Option.bind (cut_relation_before_S (Ptr.mk (cut_relation.mk (x0.Writes.length : Int) (x0.Events.length : Int) v5 v6)) v15 v13.1) fun z =>
        let v17 : Bool × Unit := (z, ())
        if inX v15 v16.length then
        if inI (v15 + 1) then
        some (.inl ((v15 + 1), (put v16 v15 (decide (¬ (v17.1 = true))))))
        else none
        else none
      else
        if inX v15 v16.length then
        if inI (v15 + 1) then
        some (.inl ((v15 + 1), (put v16 v15 false)))
        else none
        else none
      else none
    else
      some (.inr (.inl (r14, v16)))
theorem cut_Frontier_L7_sound (x0 : api_History) (v5 : List Int) (v6 : List Int) (v13 : Int × Unit) (r14 : List (Int × Unit)) (s : Int × List Bool) {Φ : List Int × Int → Prop} {rec3 : (Int × List Int × List Int) → Prop} {rec4 : (Int × List (List Bool)) → Prop} {rec6 : (List (Int × Unit) × List Bool) → Prop} {rec7 : (Int × List Bool) → Prop} {o} (h : cut_Frontier_L7_S x0 v5 v6 v13 r14 s = some o) (hK : (orK rec7 (orK rec6 (orK rec4 (orK rec3 Φ)))) o) : cut_Frontier_L7 x0 v5 v6 rec6 v13 r14 Φ s rec7 := by
  obtain ⟨v15, v16⟩ := s
  unfold cut_Frontier_L7_S at h
  unfold cut_Frontier_L7
  exact ifS h (fun h => adS h fun h => ifS h (fun h => blS h fun _ hv h => ⟨_, cut_relation_before_sound _ _ _ hv rfl, adS h fun h => adS h fun h => have t := lfS h hK; t⟩) fun h => adS h fun h => adS h fun h => have t := lfS h hK; t) fun h => have t := lfS h hK; t
def cut_Frontier_L6_S (x0 : api_History) (v5 : List Int) (v6 : List Int) : (List (Int × Unit) × List Bool) → Option ((List (Int × Unit) × List Bool) ⊕ ((Int × List (List Bool)) ⊕ ((Int × List Int × List Int) ⊕ (List Int × Int))))
  | (lst, v12) =>
    match lst with
    | [] =>
      Option.bind (cut_marks_list_S v12) fun v18 =>
      some (.inr (.inr (.inr (v18, 0))))
    | v13 :: r14 =>
      loopS (cut_Frontier_L7_S x0 v5 v6 v13 r14) 100000 (0, v12)
theorem cut_Frontier_L6_sound (x0 : api_History) (v5 : List Int) (v6 : List Int) (s : List (Int × Unit) × List Bool) {Φ : List Int × Int → Prop} {rec3 : (Int × List Int × List Int) → Prop} {rec4 : (Int × List (List Bool)) → Prop} {rec6 : (List (Int × Unit) × List Bool) → Prop} {o} (h : cut_Frontier_L6_S x0 v5 v6 s = some o) (hK : (orK rec6 (orK rec4 (orK rec3 Φ))) o) : cut_Frontier_L6 x0 v5 v6 Φ s rec6 := by
  obtain ⟨lst, v12⟩ := s
  unfold cut_Frontier_L6_S at h
  unfold cut_Frontier_L6
  cases lst with
  | nil => exact blS h fun _ hv h => cut_marks_list_sound _ hv (have t := lfS h hK; t)
  | cons _ _ => exact LoopW.of_S (fun s q rec hs hq => cut_Frontier_L7_sound _ _ _ _ _ s hs hq) _ _ h hK
def cut_Frontier_J5_S (x0 : api_History) (v5 : List Int) (v6 : List Int) (v8 : List (List Bool)) : (Bool) → Option ((Int × List (List Bool)) ⊕ ((Int × List Int × List Int) ⊕ (List Int × Int)))
  | v10 =>
    if v10 = true then
      if (27 : Int) ≠ 0 then
        some (.inr (.inr (([] : List Int), 27)))
      else
        none
    else
      if (0 : Int) ≠ 0 then
        some (.inr (.inr (([] : List Int), 0)))
      else
        if inX 0 v8.length then
        Option.bind (slices_Clone_cut_marks_bool_S (ix v8 0)) fun v11 =>
        if inX 0 v8.length then
        Option.bind (cut_marks_members_1_S (ix v8 0)) fun l19 =>
        loopS (cut_Frontier_L6_S x0 v5 v6) 100000 (l19, v11)
        else none
        else none
theorem cut_Frontier_J5_sound (x0 : api_History) (v5 : List Int) (v6 : List Int) (v8 : List (List Bool)) (s : Bool) {Φ : List Int × Int → Prop} {rec3 : (Int × List Int × List Int) → Prop} {rec4 : (Int × List (List Bool)) → Prop} {o} (h : cut_Frontier_J5_S x0 v5 v6 v8 s = some o) (hK : (orK rec4 (orK rec3 Φ)) o) : cut_Frontier_J5 x0 v5 v6 v8 Φ s := by
  unfold cut_Frontier_J5_S at h
  unfold cut_Frontier_J5
  exact ifS h (fun h => ifS h (fun h => have t := lfS h hK; t) fun h => (by cases h)) fun h => ifS h (fun h => have t := lfS h hK; t) fun h => adS h fun h => blS h fun _ hv h => slices_Clone_cut_marks_bool_sound _ hv (adS h fun h => blS h fun _ hv h => ⟨_, cut_marks_members_1_sound _ hv, LoopW.of_S (fun s q rec hs hq => cut_Frontier_L6_sound _ _ _ s hs hq) _ _ h hK⟩)
def cut_Frontier_L8_S (x0 : api_History) (v5 : List Int) (v6 : List Int) (v8 : List (List Bool)) : (Int) → Option ((Int) ⊕ ((Int × List (List Bool)) ⊕ ((Int × List Int × List Int) ⊕ (List Int × Int))))
  | v20 =>
    if v20 < (v8.length : Int) then
      if inX v20 v8.length then
      Option.bind (cut_relation_closed_S (Ptr.mk (cut_relation.mk (x0.Writes.length : Int) (x0.Events.length : Int) v5 v6)) (ix v8 v20)) fun v21 =>
      if ¬ (v21 = true) then
        Option.map (fun z => .inr z) (cut_Frontier_J5_S x0 v5 v6 v8 (decide (0 ≤ v20)))
      else
        if inI (v20 + 1) then
        some (.inl (v20 + 1))
        else none
      else none
    else
      Option.map (fun z => .inr z) (cut_Frontier_J5_S x0 v5 v6 v8 (decide (0 ≤ ((-1) : Int))))
theorem cut_Frontier_L8_sound (x0 : api_History) (v5 : List Int) (v6 : List Int) (v8 : List (List Bool)) (s : Int) {Φ : List Int × Int → Prop} {rec3 : (Int × List Int × List Int) → Prop} {rec4 : (Int × List (List Bool)) → Prop} {rec8 : (Int) → Prop} {o} (h : cut_Frontier_L8_S x0 v5 v6 v8 s = some o) (hK : (orK rec8 (orK rec4 (orK rec3 Φ))) o) : cut_Frontier_L8 x0 v5 v6 v8 Φ s rec8 := by
  unfold cut_Frontier_L8_S at h
  unfold cut_Frontier_L8
  exact ifS h (fun h => adS h fun h => blS h fun _ hv h => cut_relation_closed_sound _ _ hv (ifS h (fun h => mpS h fun _ hx he => cut_Frontier_J5_sound _ _ _ _ _ hx (by subst he; exact hK)) fun h => adS h fun h => have t := lfS h hK; t)) fun h => mpS h fun _ hx he => cut_Frontier_J5_sound _ _ _ _ _ hx (by subst he; exact hK)
def cut_Frontier_L4_S (x0 : api_History) (x1 : List Int) (v5 : List Int) (v6 : List Int) : (Int × List (List Bool)) → Option ((Int × List (List Bool)) ⊕ ((Int × List Int × List Int) ⊕ (List Int × Int)))
  | (v7, v8) =>
    if v7 < (([x1] : List (List Int)).length : Int) then
      if inX v7 ([x1] : List (List Int)).length then
      Option.bind (cut_relation_mark_S (Ptr.mk (cut_relation.mk (x0.Writes.length : Int) (x0.Events.length : Int) v5 v6)) (ix ([x1] : List (List Int)) v7)) fun v9 =>
      if ¬ (v9.2 = true) then
        if (2 : Int) ≠ 0 then
          some (.inr (.inr (([] : List Int), 2)))
        else
          none
      else
        if lenOk (v8 ++ ([v9.1] : List (List Bool))).length 24 then
        if inI (v7 + 1) then
        some (.inl ((v7 + 1), (v8 ++ ([v9.1] : List (List Bool)))))
        else none
        else none
      else none
    else
      loopS (cut_Frontier_L8_S x0 v5 v6 v8) 100000 0
theorem cut_Frontier_L4_sound (x0 : api_History) (x1 : List Int) (v5 : List Int) (v6 : List Int) (s : Int × List (List Bool)) {Φ : List Int × Int → Prop} {rec3 : (Int × List Int × List Int) → Prop} {rec4 : (Int × List (List Bool)) → Prop} {o} (h : cut_Frontier_L4_S x0 x1 v5 v6 s = some o) (hK : (orK rec4 (orK rec3 Φ)) o) : cut_Frontier_L4 x0 x1 v5 v6 Φ s rec4 := by
  obtain ⟨v7, v8⟩ := s
  unfold cut_Frontier_L4_S at h
  unfold cut_Frontier_L4
  exact ifS h (fun h => adS h fun h => blS h fun _ hv h => cut_relation_mark_sound _ _ hv (ifS h (fun h => ifS h (fun h => have t := lfS h hK; t) fun h => (by cases h)) fun h => adS h fun h => adS h fun h => have t := lfS h hK; t)) fun h => LoopW.of_S (fun s q rec hs hq => cut_Frontier_L8_sound _ _ _ _ s hs hq) _ _ h hK
def cut_Frontier_L3_S (x0 : api_History) (x1 : List Int) : (Int × List Int × List Int) → Option ((Int × List Int × List Int) ⊕ (List Int × Int))
  | (v4, v5, v6) =>
    if v4 < (x0.Events.length : Int) then
      if inX v4 x0.Events.length then
      if ((ix x0.Events v4).Kind) = 0 then
        if inX ((ix x0.Events v4).Write) v5.length then
        if inI (v4 + 1) then
        some (.inl ((v4 + 1), (put v5 ((ix x0.Events v4).Write) v4), v6))
        else none
        else none
      else
        if inX ((ix x0.Events v4).Write) v6.length then
        if inI (v4 + 1) then
        some (.inl ((v4 + 1), v5, (put v6 ((ix x0.Events v4).Write) v4)))
        else none
        else none
      else none
    else
      if (0 : Int) ≠ 0 then
        if (0 : Int) ≠ 0 then
          some (.inr (([] : List Int), 0))
        else
          none
      else
        loopS (cut_Frontier_L4_S x0 x1 v5 v6) 100000 (0, ([] : List (List Bool)))
theorem cut_Frontier_L3_sound (x0 : api_History) (x1 : List Int) (s : Int × List Int × List Int) {Φ : List Int × Int → Prop} {rec3 : (Int × List Int × List Int) → Prop} {o} (h : cut_Frontier_L3_S x0 x1 s = some o) (hK : (orK rec3 Φ) o) : cut_Frontier_L3 x0 x1 Φ s rec3 := by
  obtain ⟨v4, v5, v6⟩ := s
  unfold cut_Frontier_L3_S at h
  unfold cut_Frontier_L3
  exact ifS h (fun h => adS h fun h => ifS h (fun h => adS h fun h => adS h fun h => have t := lfS h hK; t) fun h => adS h fun h => adS h fun h => have t := lfS h hK; t) fun h => ifS h (fun h => ifS h (fun h => have t := lfS h hK; t) fun h => (by cases h)) fun h => LoopW.of_S (fun s q rec hs hq => cut_Frontier_L4_sound _ _ _ _ s hs hq) _ _ h hK
def cut_Frontier_S (x0 : api_History) (x1 : List Int) : Option (List Int × Int) :=
  Option.bind (history_Check_S x0) fun v1 =>
  if v1 ≠ 0 then
    if v1 ≠ 0 then
      if v1 ≠ 0 then
        some ((([] : List Int), v1))
      else
        none
    else
      loopS (cut_Frontier_L1_S x1) 100000 ()
  else
    Option.bind (slices_Repeat_int_int_S ([(x0.Events.length : Int)] : List Int) (x0.Writes.length : Int)) fun z =>
    let v2 : List Int × Unit := (z, ())
    Option.bind (slices_Repeat_int_int_S ([(x0.Events.length : Int)] : List Int) (x0.Writes.length : Int)) fun z =>
    let v3 : List Int × Unit := (z, ())
    loopS (cut_Frontier_L3_S x0 x1) 100000 (0, v2.1, v3.1)
theorem cut_Frontier_sound (x0 : api_History) (x1 : List Int) {Φ : List Int × Int → Prop} {o} (h : cut_Frontier_S x0 x1 = some o) (hK : Φ o) : cut_Frontier_W x0 x1 Φ := by
  unfold cut_Frontier_S at h
  unfold cut_Frontier_W
  exact blS h fun _ hv h => history_Check_sound _ hv (ifS h (fun h => ifS h (fun h => ifS h (fun h => have t := lfS h hK; t) fun h => (by cases h)) fun h => LoopW.of_S (fun s q rec hs hq => cut_Frontier_L1_sound _ s hs hq) _ _ h hK) fun h => blS h fun _ hv h => ⟨_, slices_Repeat_int_int_sound _ _ hv rfl, blS h fun _ hv h => ⟨_, slices_Repeat_int_int_sound _ _ hv rfl, LoopW.of_S (fun s q rec hs hq => cut_Frontier_L3_sound _ _ s hs hq) _ _ h hK⟩⟩)
def cut_Age_L2_S : (Unit) → Option ((Unit) ⊕ ((Unit) ⊕ (Int × Int)))
  | _ =>
    if (0 : Int) < 0 then
      none
    else
      if 0 ≤ ((-1) : Int) then
        if (27 : Int) ≠ 0 then
          some (.inr (.inr (0, 27)))
        else
          none
      else
        if (0 : Int) ≠ 0 then
          some (.inr (.inr (0, 0)))
        else
          none
theorem cut_Age_L2_sound (s : Unit) {Φ : Int × Int → Prop} {rec1 : (Unit) → Prop} {rec2 : (Unit) → Prop} {o} (h : cut_Age_L2_S s = some o) (hK : (orK rec2 (orK rec1 Φ)) o) : cut_Age_L2 Φ s rec2 := by
  unfold cut_Age_L2_S at h
  unfold cut_Age_L2
  exact ifS h (fun h => (by cases h)) fun h => ifS h (fun h => ifS h (fun h => have t := lfS h hK; t) fun h => (by cases h)) fun h => ifS h (fun h => have t := lfS h hK; t) fun h => (by cases h)
def cut_Age_L1_S (x1 : List Int) : (Unit) → Option ((Unit) ⊕ (Int × Int))
  | _ =>
    if 0 < (([x1] : List (List Int)).length : Int) then
      if inX 0 ([x1] : List (List Int)).length then
      none
      else none
    else
      loopS (cut_Age_L2_S) 100000 ()
theorem cut_Age_L1_sound (x1 : List Int) (s : Unit) {Φ : Int × Int → Prop} {rec1 : (Unit) → Prop} {o} (h : cut_Age_L1_S x1 s = some o) (hK : (orK rec1 Φ) o) : cut_Age_L1 x1 Φ s rec1 := by
  unfold cut_Age_L1_S at h
  unfold cut_Age_L1
  exact ifS h (fun h => adS h fun h => (by cases h)) fun h => LoopW.of_S (fun s q rec hs hq => cut_Age_L2_sound s hs hq) _ _ h hK
def cut_Age_J7_S (v11 : Int) (v12 : Int) : (Bool) → Option ((Int × Int) ⊕ ((Int × List (List Bool)) ⊕ ((Int × List Int × List Int) ⊕ (Int × Int))))
  | v13 =>
    if v13 = true then
      if inI (v11 + 1) then
      if inI (v12 + 1) then
      some (.inl ((v11 + 1), (v12 + 1)))
      else none
      else none
    else
      if inI (v12 + 1) then
      some (.inl (v11, (v12 + 1)))
      else none
theorem cut_Age_J7_sound (v11 : Int) (v12 : Int) (s : Bool) {Φ : Int × Int → Prop} {rec3 : (Int × List Int × List Int) → Prop} {rec4 : (Int × List (List Bool)) → Prop} {rec6 : (Int × Int) → Prop} {o} (h : cut_Age_J7_S v11 v12 s = some o) (hK : (orK rec6 (orK rec4 (orK rec3 Φ))) o) : cut_Age_J7 v11 v12 rec6 Φ s := by
  unfold cut_Age_J7_S at h
  unfold cut_Age_J7
  exact ifS h (fun h => adS h fun h => adS h fun h => have t := lfS h hK; t) fun h => adS h fun h => have t := lfS h hK; t
def cut_Age_L6_S (x0 : api_History) (v6 : List Int) (v8 : List (List Bool)) : (Int × Int) → Option ((Int × Int) ⊕ ((Int × List (List Bool)) ⊕ ((Int × List Int × List Int) ⊕ (Int × Int))))
  | (v11, v12) =>
    if v12 < (x0.Writes.length : Int) then
      if inX v12 v6.length then
      if (ix v6 v12) < (x0.Events.length : Int) then
        if inX 0 v8.length then
        if inX v12 (ix v8 0).length then
        cut_Age_J7_S v11 v12 (decide (¬ ((ix (ix v8 0) v12) = true)))
        else none
        else none
      else
        cut_Age_J7_S v11 v12 false
      else none
    else
      some (.inr (.inr (.inr (v11, 0))))
theorem cut_Age_L6_sound (x0 : api_History) (v6 : List Int) (v8 : List (List Bool)) (s : Int × Int) {Φ : Int × Int → Prop} {rec3 : (Int × List Int × List Int) → Prop} {rec4 : (Int × List (List Bool)) → Prop} {rec6 : (Int × Int) → Prop} {o} (h : cut_Age_L6_S x0 v6 v8 s = some o) (hK : (orK rec6 (orK rec4 (orK rec3 Φ))) o) : cut_Age_L6 x0 v6 v8 Φ s rec6 := by
  obtain ⟨v11, v12⟩ := s
  unfold cut_Age_L6_S at h
  unfold cut_Age_L6
  exact ifS h (fun h => adS h fun h => ifS h (fun h => adS h fun h => adS h fun h => cut_Age_J7_sound _ _ _ h hK) fun h => cut_Age_J7_sound _ _ _ h hK) fun h => have t := lfS h hK; t
def cut_Age_J5_S (x0 : api_History) (v6 : List Int) (v8 : List (List Bool)) : (Bool) → Option ((Int × List (List Bool)) ⊕ ((Int × List Int × List Int) ⊕ (Int × Int)))
  | v10 =>
    if v10 = true then
      if (27 : Int) ≠ 0 then
        some (.inr (.inr (0, 27)))
      else
        none
    else
      if (0 : Int) ≠ 0 then
        some (.inr (.inr (0, 0)))
      else
        loopS (cut_Age_L6_S x0 v6 v8) 100000 (0, 0)
theorem cut_Age_J5_sound (x0 : api_History) (v6 : List Int) (v8 : List (List Bool)) (s : Bool) {Φ : Int × Int → Prop} {rec3 : (Int × List Int × List Int) → Prop} {rec4 : (Int × List (List Bool)) → Prop} {o} (h : cut_Age_J5_S x0 v6 v8 s = some o) (hK : (orK rec4 (orK rec3 Φ)) o) : cut_Age_J5 x0 v6 v8 Φ s := by
  unfold cut_Age_J5_S at h
  unfold cut_Age_J5
  exact ifS h (fun h => ifS h (fun h => have t := lfS h hK; t) fun h => (by cases h)) fun h => ifS h (fun h => have t := lfS h hK; t) fun h => LoopW.of_S (fun s q rec hs hq => cut_Age_L6_sound _ _ _ s hs hq) _ _ h hK
def cut_Age_L8_S (x0 : api_History) (v5 : List Int) (v6 : List Int) (v8 : List (List Bool)) : (Int) → Option ((Int) ⊕ ((Int × List (List Bool)) ⊕ ((Int × List Int × List Int) ⊕ (Int × Int))))
  | v14 =>
    if v14 < (v8.length : Int) then
      if inX v14 v8.length then
      Option.bind (cut_relation_closed_S (Ptr.mk (cut_relation.mk (x0.Writes.length : Int) (x0.Events.length : Int) v5 v6)) (ix v8 v14)) fun v15 =>
      if ¬ (v15 = true) then
        Option.map (fun z => .inr z) (cut_Age_J5_S x0 v6 v8 (decide (0 ≤ v14)))
      else
        if inI (v14 + 1) then
        some (.inl (v14 + 1))
        else none
      else none
    else
      Option.map (fun z => .inr z) (cut_Age_J5_S x0 v6 v8 (decide (0 ≤ ((-1) : Int))))
theorem cut_Age_L8_sound (x0 : api_History) (v5 : List Int) (v6 : List Int) (v8 : List (List Bool)) (s : Int) {Φ : Int × Int → Prop} {rec3 : (Int × List Int × List Int) → Prop} {rec4 : (Int × List (List Bool)) → Prop} {rec8 : (Int) → Prop} {o} (h : cut_Age_L8_S x0 v5 v6 v8 s = some o) (hK : (orK rec8 (orK rec4 (orK rec3 Φ))) o) : cut_Age_L8 x0 v5 v6 v8 Φ s rec8 := by
  unfold cut_Age_L8_S at h
  unfold cut_Age_L8
  exact ifS h (fun h => adS h fun h => blS h fun _ hv h => cut_relation_closed_sound _ _ hv (ifS h (fun h => mpS h fun _ hx he => cut_Age_J5_sound _ _ _ _ hx (by subst he; exact hK)) fun h => adS h fun h => have t := lfS h hK; t)) fun h => mpS h fun _ hx he => cut_Age_J5_sound _ _ _ _ hx (by subst he; exact hK)
def cut_Age_L4_S (x0 : api_History) (x1 : List Int) (v5 : List Int) (v6 : List Int) : (Int × List (List Bool)) → Option ((Int × List (List Bool)) ⊕ ((Int × List Int × List Int) ⊕ (Int × Int)))
  | (v7, v8) =>
    if v7 < (([x1] : List (List Int)).length : Int) then
      if inX v7 ([x1] : List (List Int)).length then
      Option.bind (cut_relation_mark_S (Ptr.mk (cut_relation.mk (x0.Writes.length : Int) (x0.Events.length : Int) v5 v6)) (ix ([x1] : List (List Int)) v7)) fun v9 =>
      if ¬ (v9.2 = true) then
        if (2 : Int) ≠ 0 then
          some (.inr (.inr (0, 2)))
        else
          none
      else
        if lenOk (v8 ++ ([v9.1] : List (List Bool))).length 24 then
        if inI (v7 + 1) then
        some (.inl ((v7 + 1), (v8 ++ ([v9.1] : List (List Bool)))))
        else none
        else none
      else none
    else
      loopS (cut_Age_L8_S x0 v5 v6 v8) 100000 0
theorem cut_Age_L4_sound (x0 : api_History) (x1 : List Int) (v5 : List Int) (v6 : List Int) (s : Int × List (List Bool)) {Φ : Int × Int → Prop} {rec3 : (Int × List Int × List Int) → Prop} {rec4 : (Int × List (List Bool)) → Prop} {o} (h : cut_Age_L4_S x0 x1 v5 v6 s = some o) (hK : (orK rec4 (orK rec3 Φ)) o) : cut_Age_L4 x0 x1 v5 v6 Φ s rec4 := by
  obtain ⟨v7, v8⟩ := s
  unfold cut_Age_L4_S at h
  unfold cut_Age_L4
  exact ifS h (fun h => adS h fun h => blS h fun _ hv h => cut_relation_mark_sound _ _ hv (ifS h (fun h => ifS h (fun h => have t := lfS h hK; t) fun h => (by cases h)) fun h => adS h fun h => adS h fun h => have t := lfS h hK; t)) fun h => LoopW.of_S (fun s q rec hs hq => cut_Age_L8_sound _ _ _ _ s hs hq) _ _ h hK
def cut_Age_L3_S (x0 : api_History) (x1 : List Int) : (Int × List Int × List Int) → Option ((Int × List Int × List Int) ⊕ (Int × Int))
  | (v4, v5, v6) =>
    if v4 < (x0.Events.length : Int) then
      if inX v4 x0.Events.length then
      if ((ix x0.Events v4).Kind) = 0 then
        if inX ((ix x0.Events v4).Write) v5.length then
        if inI (v4 + 1) then
        some (.inl ((v4 + 1), (put v5 ((ix x0.Events v4).Write) v4), v6))
        else none
        else none
      else
        if inX ((ix x0.Events v4).Write) v6.length then
        if inI (v4 + 1) then
        some (.inl ((v4 + 1), v5, (put v6 ((ix x0.Events v4).Write) v4)))
        else none
        else none
      else none
    else
      if (0 : Int) ≠ 0 then
        if (0 : Int) ≠ 0 then
          some (.inr (0, 0))
        else
          none
      else
        loopS (cut_Age_L4_S x0 x1 v5 v6) 100000 (0, ([] : List (List Bool)))
theorem cut_Age_L3_sound (x0 : api_History) (x1 : List Int) (s : Int × List Int × List Int) {Φ : Int × Int → Prop} {rec3 : (Int × List Int × List Int) → Prop} {o} (h : cut_Age_L3_S x0 x1 s = some o) (hK : (orK rec3 Φ) o) : cut_Age_L3 x0 x1 Φ s rec3 := by
  obtain ⟨v4, v5, v6⟩ := s
  unfold cut_Age_L3_S at h
  unfold cut_Age_L3
  exact ifS h (fun h => adS h fun h => ifS h (fun h => adS h fun h => adS h fun h => have t := lfS h hK; t) fun h => adS h fun h => adS h fun h => have t := lfS h hK; t) fun h => ifS h (fun h => ifS h (fun h => have t := lfS h hK; t) fun h => (by cases h)) fun h => LoopW.of_S (fun s q rec hs hq => cut_Age_L4_sound _ _ _ _ s hs hq) _ _ h hK
def cut_Age_S (x0 : api_History) (x1 : List Int) : Option (Int × Int) :=
  Option.bind (history_Check_S x0) fun v1 =>
  if v1 ≠ 0 then
    if v1 ≠ 0 then
      if v1 ≠ 0 then
        some ((0, v1))
      else
        none
    else
      loopS (cut_Age_L1_S x1) 100000 ()
  else
    Option.bind (slices_Repeat_int_int_S ([(x0.Events.length : Int)] : List Int) (x0.Writes.length : Int)) fun z =>
    let v2 : List Int × Unit := (z, ())
    Option.bind (slices_Repeat_int_int_S ([(x0.Events.length : Int)] : List Int) (x0.Writes.length : Int)) fun z =>
    let v3 : List Int × Unit := (z, ())
    loopS (cut_Age_L3_S x0 x1) 100000 (0, v2.1, v3.1)
theorem cut_Age_sound (x0 : api_History) (x1 : List Int) {Φ : Int × Int → Prop} {o} (h : cut_Age_S x0 x1 = some o) (hK : Φ o) : cut_Age_W x0 x1 Φ := by
  unfold cut_Age_S at h
  unfold cut_Age_W
  exact blS h fun _ hv h => history_Check_sound _ hv (ifS h (fun h => ifS h (fun h => ifS h (fun h => have t := lfS h hK; t) fun h => (by cases h)) fun h => LoopW.of_S (fun s q rec hs hq => cut_Age_L1_sound _ s hs hq) _ _ h hK) fun h => blS h fun _ hv h => ⟨_, slices_Repeat_int_int_sound _ _ hv rfl, blS h fun _ hv h => ⟨_, slices_Repeat_int_int_sound _ _ hv rfl, LoopW.of_S (fun s q rec hs hq => cut_Age_L3_sound _ _ s hs hq) _ _ h hK⟩⟩)
def ref15_SameInts_L1_S (x0 : List Int) (x1 : List Int) : (Int) → Option ((Int) ⊕ (Bool))
  | v1 =>
    if v1 < (x0.length : Int) then
      if inX v1 x0.length then
      if inX v1 x1.length then
      if (ix x0 v1) ≠ (ix x1 v1) then
        some (.inr false)
      else
        if inI (v1 + 1) then
        some (.inl (v1 + 1))
        else none
      else none
      else none
    else
      some (.inr true)
theorem ref15_SameInts_L1_sound (x0 : List Int) (x1 : List Int) (s : Int) {Φ : Bool → Prop} {rec1 : (Int) → Prop} {o} (h : ref15_SameInts_L1_S x0 x1 s = some o) (hK : (orK rec1 Φ) o) : ref15_SameInts_L1 x0 x1 Φ s rec1 := by
  unfold ref15_SameInts_L1_S at h
  unfold ref15_SameInts_L1
  exact ifS h (fun h => adS h fun h => adS h fun h => ifS h (fun h => have t := lfS h hK; t) fun h => adS h fun h => have t := lfS h hK; t) fun h => have t := lfS h hK; t
def ref15_SameInts_S (x0 : List Int) (x1 : List Int) : Option (Bool) :=
  if (x0.length : Int) ≠ (x1.length : Int) then
    some (false)
  else
    loopS (ref15_SameInts_L1_S x0 x1) 100000 0
theorem ref15_SameInts_sound (x0 : List Int) (x1 : List Int) {Φ : Bool → Prop} {o} (h : ref15_SameInts_S x0 x1 = some o) (hK : Φ o) : ref15_SameInts_W x0 x1 Φ := by
  unfold ref15_SameInts_S at h
  unfold ref15_SameInts_W
  exact ifS h (fun h => have t := lfS h hK; t) fun h => LoopW.of_S (fun s q rec hs hq => ref15_SameInts_L1_sound _ _ s hs hq) _ _ h hK
def ref16_SameLists_L1_S (x0 : List (List Int)) (x1 : List (List Int)) : (Int) → Option ((Int) ⊕ (Bool))
  | v1 =>
    if v1 < (x0.length : Int) then
      if inX v1 x0.length then
      if inX v1 x1.length then
      Option.bind (ref15_SameInts_S (ix x0 v1) (ix x1 v1)) fun z =>
      let v2 : Bool × Unit := (z, ())
      if ¬ (v2.1 = true) then
        some (.inr false)
      else
        if inI (v1 + 1) then
        some (.inl (v1 + 1))
        else none
      else none
      else none
    else
      some (.inr true)
theorem ref16_SameLists_L1_sound (x0 : List (List Int)) (x1 : List (List Int)) (s : Int) {Φ : Bool → Prop} {rec1 : (Int) → Prop} {o} (h : ref16_SameLists_L1_S x0 x1 s = some o) (hK : (orK rec1 Φ) o) : ref16_SameLists_L1 x0 x1 Φ s rec1 := by
  unfold ref16_SameLists_L1_S at h
  unfold ref16_SameLists_L1
  exact ifS h (fun h => adS h fun h => adS h fun h => blS h fun _ hv h => ⟨_, ref15_SameInts_sound _ _ hv rfl, ifS h (fun h => have t := lfS h hK; t) fun h => adS h fun h => have t := lfS h hK; t⟩) fun h => have t := lfS h hK; t
def ref16_SameLists_S (x0 : List (List Int)) (x1 : List (List Int)) : Option (Bool) :=
  if (x0.length : Int) ≠ (x1.length : Int) then
    some (false)
  else
    loopS (ref16_SameLists_L1_S x0 x1) 100000 0
theorem ref16_SameLists_sound (x0 : List (List Int)) (x1 : List (List Int)) {Φ : Bool → Prop} {o} (h : ref16_SameLists_S x0 x1 = some o) (hK : Φ o) : ref16_SameLists_W x0 x1 Φ := by
  unfold ref16_SameLists_S at h
  unfold ref16_SameLists_W
  exact ifS h (fun h => have t := lfS h hK; t) fun h => LoopW.of_S (fun s q rec hs hq => ref16_SameLists_L1_sound _ _ s hs hq) _ _ h hK
def slices_Equal_int_int_L1_S (x0 : List Int) (x1 : List Int) : (Int) → Option ((Int) ⊕ (Bool))
  | v1 =>
    if v1 < (x0.length : Int) then
      if inX v1 x0.length then
      if inX v1 x1.length then
      if (ix x0 v1) ≠ (ix x1 v1) then
        some (.inr false)
      else
        if inI (v1 + 1) then
        some (.inl (v1 + 1))
        else none
      else none
      else none
    else
      some (.inr true)
theorem slices_Equal_int_int_L1_sound (x0 : List Int) (x1 : List Int) (s : Int) {Φ : Bool → Prop} {rec1 : (Int) → Prop} {o} (h : slices_Equal_int_int_L1_S x0 x1 s = some o) (hK : (orK rec1 Φ) o) : slices_Equal_int_int_L1 x0 x1 Φ s rec1 := by
  unfold slices_Equal_int_int_L1_S at h
  unfold slices_Equal_int_int_L1
  exact ifS h (fun h => adS h fun h => adS h fun h => ifS h (fun h => have t := lfS h hK; t) fun h => adS h fun h => have t := lfS h hK; t) fun h => have t := lfS h hK; t
def slices_Equal_int_int_S (x0 : List Int) (x1 : List Int) : Option (Bool) :=
  if (x0.length : Int) ≠ (x1.length : Int) then
    some (false)
  else
    loopS (slices_Equal_int_int_L1_S x0 x1) 100000 0
theorem slices_Equal_int_int_sound (x0 : List Int) (x1 : List Int) {Φ : Bool → Prop} {o} (h : slices_Equal_int_int_S x0 x1 = some o) (hK : Φ o) : slices_Equal_int_int_W x0 x1 Φ := by
  unfold slices_Equal_int_int_S at h
  unfold slices_Equal_int_int_W
  exact ifS h (fun h => have t := lfS h hK; t) fun h => LoopW.of_S (fun s q rec hs hq => slices_Equal_int_int_L1_sound _ _ s hs hq) _ _ h hK
def law16_awake_J1_S (v4 : List Int × Int) (v5 : List Int × Int) (v6 : List Int × Int) (v7 : Int × Int) (v8 : Int × Int) : (Bool) → Option (Bool)
  | v9 =>
    if v9 = true then
      Option.bind (slices_Equal_int_int_S v4.1 ([0, 2] : List Int)) fun v10 =>
      if v10 = true then
        Option.bind (slices_Equal_int_int_S v5.1 ([1] : List Int)) fun v11 =>
        if v11 = true then
          Option.bind (slices_Equal_int_int_S v6.1 ([1, 2] : List Int)) fun v12 =>
          if v12 = true then
            if v7.1 = 2 then
              some (decide (v8.1 = 0))
            else
              some (false)
          else
            some (false)
        else
          some (false)
      else
        some (false)
    else
      some (false)
theorem law16_awake_J1_sound (v4 : List Int × Int) (v5 : List Int × Int) (v6 : List Int × Int) (v7 : Int × Int) (v8 : Int × Int) (s : Bool) {Φ : Bool → Prop} {o} (h : law16_awake_J1_S v4 v5 v6 v7 v8 s = some o) (hK : Φ o) : law16_awake_J1 v4 v5 v6 v7 v8 Φ s := by
  unfold law16_awake_J1_S at h
  unfold law16_awake_J1
  exact ifS h (fun h => blS h fun _ hv h => slices_Equal_int_int_sound _ _ hv (ifS h (fun h => blS h fun _ hv h => slices_Equal_int_int_sound _ _ hv (ifS h (fun h => blS h fun _ hv h => slices_Equal_int_int_sound _ _ hv (ifS h (fun h => ifS h (fun h => have t := lfS h hK; t) fun h => have t := lfS h hK; t) fun h => have t := lfS h hK; t)) fun h => have t := lfS h hK; t)) fun h => have t := lfS h hK; t)) fun h => have t := lfS h hK; t
def law16_awake_S : Option (Bool) :=
  Option.bind (law16_example_S) fun v1 =>
  Option.bind (cut_All_S v1 6) fun v2 =>
  Option.bind (cut_All_S v1 5) fun v3 =>
  Option.bind (cut_Least_S v1 ([2] : List Int)) fun v4 =>
  Option.bind (cut_Greatest_S v1 ([1, 2] : List Int)) fun v5 =>
  Option.bind (cut_Frontier_S v1 ([0, 1, 2] : List Int)) fun v6 =>
  Option.bind (cut_Age_S v1 ([1] : List Int)) fun v7 =>
  Option.bind (cut_Age_S v1 ([0, 2] : List Int)) fun v8 =>
  if inI (v2.2 + v4.2) then
  if inI ((v2.2 + v4.2) + v5.2) then
  if inI (((v2.2 + v4.2) + v5.2) + v6.2) then
  if inI ((((v2.2 + v4.2) + v5.2) + v6.2) + v7.2) then
  if inI (((((v2.2 + v4.2) + v5.2) + v6.2) + v7.2) + v8.2) then
  if (((((v2.2 + v4.2) + v5.2) + v6.2) + v7.2) + v8.2) = 0 then
    if v3.2 = 6 then
      Option.bind (ref16_SameLists_S v2.1 ([([] : List Int), ([0] : List Int), ([1] : List Int), ([0, 1] : List Int), ([0, 2] : List Int), ([0, 1, 2] : List Int)] : List (List Int))) fun v13 =>
      law16_awake_J1_S v4 v5 v6 v7 v8 v13
    else
      law16_awake_J1_S v4 v5 v6 v7 v8 false
  else
    law16_awake_J1_S v4 v5 v6 v7 v8 false
  else none
  else none
  else none
  else none
  else none
theorem law16_awake_sound {Φ : Bool → Prop} {o} (h : law16_awake_S = some o) (hK : Φ o) : law16_awake_W Φ := by
  unfold law16_awake_S at h
  unfold law16_awake_W
  exact blS h fun _ hv h => law16_example_sound hv (blS h fun _ hv h => cut_All_sound _ _ hv (blS h fun _ hv h => cut_All_sound _ _ hv (blS h fun _ hv h => cut_Least_sound _ _ hv (blS h fun _ hv h => cut_Greatest_sound _ _ hv (blS h fun _ hv h => cut_Frontier_sound _ _ hv (blS h fun _ hv h => cut_Age_sound _ _ hv (blS h fun _ hv h => cut_Age_sound _ _ hv (adS h fun h => adS h fun h => adS h fun h => adS h fun h => adS h fun h => ifS h (fun h => ifS h (fun h => blS h fun _ hv h => ref16_SameLists_sound _ _ hv (law16_awake_J1_sound _ _ _ _ _ _ h hK)) fun h => law16_awake_J1_sound _ _ _ _ _ _ h hK) fun h => law16_awake_J1_sound _ _ _ _ _ _ h hK))))))))
theorem law16_awake_ok {Φ : Bool → Prop} (h : Φ true) : law16_awake_W Φ := law16_awake_sound (o := true) (by kernel_rfl) h
theorem leastR_ok {h : api_History} (hz : histE h = 0) {l : List Int} (hl : isSetB l (h.Writes.length : Int) = true) : leastR h l = (selL h.Writes.length (lowC h l), 0) := by
  unfold leastR
  rw [if_neg (fun t => t hz), if_neg (by rw [hl]; simp), leastC_sel hl]
theorem greatR_ok {h : api_History} (hz : histE h = 0) {l : List Int} (hl : isSetB l (h.Writes.length : Int) = true) : greatR h l = (greatC h l, 0) := by
  unfold greatR
  rw [if_neg (fun t => t hz), if_neg (by rw [hl]; simp)]
theorem sel_set {n : Nat} {p : Nat → Bool} : isSetB (selL n p) (n : Int) = true := selL_set (Nat.le_refl _) (Int.le_refl _)
section
section
variable {h : api_History} {a b c : List Int}
structure CutP (h : api_History) (l : List Int) : Prop where
  set : isSetB l (h.Writes.length : Int) = true
  cl : ClosedS h l
theorem CutP.len (hw : h.Writes.length ≤ 4096) (ha : CutP h a) : a.length ≤ 1000000 := by have := isSetB_le ha.set (by omega); omega
theorem CutP.join (ha : CutP h a) (hb : CutP h b) : CutP h (joinC h a b) := ⟨joinC_set, join_closed ha.cl hb.cl⟩
theorem CutP.meet (ha : CutP h a) (hb : CutP h b) : CutP h (meetC h a b) := ⟨meetC_set, meet_closed ha.cl hb.cl⟩
theorem join_step {Φ : List Int × Int → Prop} (hh : SmallH h) (hz : histE h = 0) (ha : CutP h a) (hb : CutP h b) (hΦ : Φ (joinC h a b, 0)) : cut_Join_W h a b Φ := by
  have hw := hist_wr hz
  refine cut_Join_ok hh (ha.len hw) (hb.len hw) ?_
  rw [joinR_ok hz ha.set hb.set ha.cl hb.cl]; exact hΦ
theorem meet_step {Φ : List Int × Int → Prop} (hh : SmallH h) (hz : histE h = 0) (ha : CutP h a) (hb : CutP h b) (hΦ : Φ (meetC h a b, 0)) : cut_Meet_W h a b Φ := by
  have hw := hist_wr hz
  refine cut_Meet_ok hh (ha.len hw) (hb.len hw) ?_
  rw [meetR_ok hz ha.set hb.set ha.cl hb.cl]; exact hΦ
theorem check_step {Φ : Int → Prop} (hh : SmallH h) (hz : histE h = 0) (ha : CutP h a) (hΦ : Φ 0) : cut_Check_W h a Φ := by
  have hw := hist_wr hz
  refine cut_Check_ok hh (ha.len hw) ?_
  rw [ckcR_ok hz ha.set ha.cl]; exact hΦ
theorem eq_step {Φ : Bool → Prop} (hw : h.Writes.length ≤ 4096) (ha : CutP h a) (e : a = b) (hΦ : Φ true) : slices_Equal_int_int_W a b Φ := by
  subst e
  exact equal_int_refl (ha.len hw) hΦ
theorem inI0 {x : Int} (e : x = 0) : inI x := by subst e; exact iI (by omega) (by omega)
theorem alg_J3 (hh : SmallH h) (hz : histE h = 0) (ha : CutP h a) (hb : CutP h b) {n : Int} (hn : n = 0) : law16_CutAlgebra_J3 h (a, 0, ()) (b, 0, ()) (fun y => y = true) (true, n) := by
  subst hn
  refine ⟨fun _ => ⟨fun _ => join_step hh hz ha hb ⟨inI0 rfl, check_step hh hz (ha.join hb) ⟨fun _ => meet_step hh hz ha hb ⟨inI0 rfl, check_step hh hz (ha.meet hb) ⟨fun _ => law16_awake_ok rfl, fun t => absurd rfl t⟩⟩, fun t => absurd rfl t⟩⟩, fun t => absurd rfl t⟩, fun t => absurd rfl t⟩
theorem alg_J2 (hh : SmallH h) (hz : histE h = 0) (ha : CutP h a) (hb : CutP h b) (hc : CutP h c) {n : Int} (hn : n = 0) : law16_CutAlgebra_J2 h (a, 0, ()) (b, 0, ()) (c, 0, ()) (fun y => y = true) (true, n) := by
  subst hn
  have hw := hist_wr hz
  refine ⟨fun _ => join_step hh hz hb hc ⟨inI0 rfl, meet_step hh hz ha (hb.join hc) ⟨inI0 rfl, meet_step hh hz ha hb ⟨inI0 rfl, meet_step hh hz ha hc ⟨inI0 rfl, join_step hh hz (ha.meet hb) (ha.meet hc) ⟨inI0 rfl, eq_step hw (ha.meet (hb.join hc)) meet_dist ⟨fun _ => ?_, fun t => absurd rfl t⟩⟩⟩⟩⟩⟩, fun t => absurd rfl t⟩
  exact meet_step hh hz hb hc ⟨inI0 rfl, join_step hh hz ha (hb.meet hc) ⟨inI0 rfl, join_step hh hz ha hb ⟨inI0 rfl, join_step hh hz ha hc ⟨inI0 rfl, meet_step hh hz (ha.join hb) (ha.join hc) ⟨inI0 rfl, eq_step hw (ha.join (hb.meet hc)) join_dist (alg_J3 hh hz ha hb rfl)⟩⟩⟩⟩⟩
end
theorem cutAlgebra_law (h : api_History) (s : standbylaw16_Sets) (l : List Int) (_ : Rg.rg h) (_ : Rg.rg s) (_ : Rg.rg l) : law16_CutAlgebra_W h s l fun y => y = true := by
  have j1 : law16_CutAlgebra_J1 h s l (fun y => y = true) true := ⟨fun _ => law16_awake_ok rfl, fun q => absurd rfl q⟩
  refine law16_few_ok (by simp) ⟨fun _ => j1, fun q => absurd (fun t => Bool.noConfusion t) q⟩ fun hh h40 _ hl => ⟨fun r => absurd rfl r, fun _ => history_Check_ok hh ?_⟩
  by_cases hz : histE h ≠ 0
  · rw [decide_eq_true hz]; exact j1
  · rw [decide_eq_false hz]
    have hz := Classical.not_not.1 hz
    have la : s.A.length ≤ 1000000 := by have := hl s.A (by simp); omega
    have lb : s.B.length ≤ 1000000 := by have := hl s.B (by simp); omega
    have ll : l.length ≤ 1000000 := by have := hl l (by simp); omega
    have hw : h.Writes.length ≤ 4096 := by omega
    have sel : ∀ {x : List Int}, isSetB (selL h.Writes.length fun w => decide ((w : Int) ∈ x)) (h.Writes.length : Int) = true := sel_set
    have len : ∀ {x : List Int}, isSetB x (h.Writes.length : Int) = true → x.length ≤ 1000000 := fun {x} hx => by have := isSetB_le hx (by omega); omega
    have ha : CutP h (selL h.Writes.length (lowC h (selL h.Writes.length fun w => decide ((w : Int) ∈ s.A)))) := ⟨sel_set, lowC_closed hz sel⟩
    have hb : CutP h (greatC h (selL h.Writes.length fun w => decide ((w : Int) ∈ s.B))) := ⟨greatC_set, greatC_closed hz⟩
    have hc : CutP h (selL h.Writes.length (lowC h (selL h.Writes.length fun w => decide ((w : Int) ∈ l)))) := ⟨sel_set, lowC_closed hz sel⟩
    have ea := leastR_ok hz (sel (x := s.A))
    have eb := greatR_ok hz (sel (x := s.B))
    have ec := leastR_ok hz (sel (x := l))
    refine ⟨fun t => Bool.noConfusion t, fun _ => ⟨_, law16_below_ok la hw rfl, (_, 0, ()), cut_Least_ok hh (len sel) (by rw [ea]), _, law16_below_ok lb hw rfl, (_, 0, ()), cut_Greatest_ok hh (len sel) (by rw [eb]), _, law16_below_ok ll hw rfl, (_, 0, ()), cut_Least_ok hh (len sel) (by rw [ec]), fun t => absurd rfl t, fun _ => ⟨fun t => absurd rfl t, fun _ => ⟨fun t => absurd rfl t, fun _ => ?_⟩⟩⟩⟩
    generalize selL h.Writes.length (lowC h (selL h.Writes.length fun w => decide ((w : Int) ∈ s.A))) = a at ha ⊢
    generalize greatC h (selL h.Writes.length fun w => decide ((w : Int) ∈ s.B)) = b at hb ⊢
    generalize selL h.Writes.length (lowC h (selL h.Writes.length fun w => decide ((w : Int) ∈ l))) = c at hc ⊢
    unfold Join
    dsimp only
    refine join_step hh hz ha hb ⟨inI0 rfl, meet_step hh hz ha (ha.join hb) ⟨inI0 rfl, eq_step hw (ha.meet (ha.join hb)) (meet_join ha.set) ⟨fun _ => ?_, fun t => absurd rfl t⟩⟩⟩
    refine meet_step hh hz ha hb ⟨inI0 rfl, join_step hh hz ha (ha.meet hb) ⟨inI0 rfl, eq_step hw (ha.join (ha.meet hb)) (join_meet ha.set) ⟨fun _ => ?_, fun t => absurd rfl t⟩⟩⟩
    exact join_step hh hz ha hb ⟨inI0 rfl, join_step hh hz hb ha ⟨inI0 rfl, eq_step hw (ha.join hb) join_comm (alg_J2 hh hz ha hb hc rfl)⟩⟩
end
end Go.Proofs.YtpmjodnmnffmhaaGreatDoor
namespace Go.Proofs.YtpmjodnmnffmhaaGreatDoor
open Go.RowKit Go.ChangeShapes Go.WideShapes Go.ChangeAt
set_option maxRecDepth 100000 in
theorem cutAlgebra_lifted (os : Os) (started : os.Started) (H : Type) (enc : TypeId × Value → H) :
    ReturnsInHanded {} Tryz.checked os 7 .any (fun w args => (Rows.cutAlgebraSpec.pre enc Tryz.prog Tryz.f7 [] false w args ∧ laidMetH Tryz.prog [("math/bits.deBruijn32tab", Rows.laid_math_bits_deBruijn32tab), ("math/bits.deBruijn64tab", Rows.laid_math_bits_deBruijn64tab), ("internal/strconv.uint64pow10", Rows.laid_internal_strconv_uint64pow10)] w) ∧ sizedMet enc Tryz.prog Tryz.f7 (OpenSpec.ofChange Rows.cutAlgebraSpec) false w args)
      (Rows.cutAlgebraSpec.post enc Tryz.prog Tryz.f7 false true false false) := by
  refine returnsInHanded_of_change_and (C := Tryz.checked) (X := fun w _ => laidMetH Tryz.prog [("math/bits.deBruijn32tab", Rows.laid_math_bits_deBruijn32tab), ("math/bits.deBruijn64tab", Rows.laid_math_bits_deBruijn64tab), ("internal/strconv.uint64pow10", Rows.laid_internal_strconv_uint64pow10)] w) (fun _ _ _ hh h => h.of_heap hh) Tryz.own started (by kernel_rfl) Tryz.func7
    (ChangeSpec.witness_shaped (enc := enc) (C := Tryz.checked) (os := os) (X := fun w _ => laidMetH Tryz.prog [("math/bits.deBruijn32tab", Rows.laid_math_bits_deBruijn32tab), ("math/bits.deBruijn64tab", Rows.laid_math_bits_deBruijn64tab), ("internal/strconv.uint64pow10", Rows.laid_internal_strconv_uint64pow10)] w) false (World.doorLaid Tryz.prog 24 os) #[.agg #[.slice none 0 0, .slice none 0 0, .slice none 0 0], .agg #[.slice none 0 0, .slice none 0 0], .slice none 0 0] 8 rfl (World.shaped_of_RefB (by kernel_rfl) (by kernel_rfl)) (by kernel_rfl) (by kernel_rfl) (by kernel_rfl) (Tryz.doorMet os _)) ?_
  intro W base args ds gs before hval0 hW _ _ hL _
  have hval : ∀ (j : Nat) t v, Tryz.f7.params[j]? = some t → args[j]? = some v → Value.okWide Tryz.prog W .any base t v := hval0
  have hW' := hW
  obtain ⟨p, q, hA0, hV, hpq, _, _⟩ := hW
  have hA : DataW.TrodAll enc Tryz.prog W 0 (fun _ => true) true Tryz.f7.params.toList args.toList ds p := hA0
  rw [Tryz.params7] at hA hval
  obtain ⟨v0, v1, v2, d0, d1, d2, p0, p1, p2, rfl, rfl, rfl, h0, h1, h2⟩ := trodAll_three hA
  obtain ⟨rfl, rfl⟩ := trodVars_none hV
  obtain ⟨ks0, x0, rfl, hr0, hg0⟩ := open_strD Tryz.underlying26 rd26 (hval 0 26 v0 rfl rfl) h0
  obtain ⟨ks1, x1, rfl, hr1, hg1⟩ := open_strD Tryz.underlying46 rd46 (hval 1 46 v1 rfl rfl) h1
  obtain ⟨Az2, nz2, cz2, sz2, x2, rfl, hz2, hg2⟩ := open_slD Tryz.underlying22 rd22 (hval 2 22 v2 rfl rfl) h2
  refine Calls.mono ((RetP.toV (y := true) (F := fun z => .bool z) (RetP.mono (ok7 (x0, x1, x2, ()) (fun y => y.1 = true) (cutAlgebra_law x0 x1 x2 hg0 hg1 hg2) (HW W) [.agg ks0.toArray, .agg ks1.toArray, .slice Az2 nz2 cz2] trivial ⟨_, ks0, _, rfl, by rw [pkw26], (show Dt.rd (α := api_History) (HW W) _ _ from hr0), ⟨_, ks1, _, rfl, by rw [pkw46], (show Dt.rd (α := standbylaw16_Sets) (HW W) _ _ from hr1), ⟨_, [.slice Az2 nz2 cz2], _, rfl, by rw [pkw22], (show Dt.rd (α := List Int) (HW W) _ _ from ⟨Az2, nz2, cz2, sz2, rfl, hz2⟩), rfl⟩⟩⟩) fun _ _ _ _ ⟨y, hy, hr⟩ => lawRes y hy hr)) W fun b o e => e) ?_
  rintro e W' ⟨v, _, rfl, _, _, _, hb, rfl⟩
  exact ⟨_, rfl, post_law Tryz.laidOut Tryz.underlying4 rfl (by kernel_rfl) hW' rfl rfl hb⟩
theorem cutAlgebra_holds : Rows.CutAlgebraSaid :=
  OpenClaim.holds_of_wide 7 Tryz.f7 rfl rfl rfl rfl rfl rfl rfl ⟨rfl, rfl, rfl, rfl, rfl⟩ rfl rfl rfl rfl rfl (by kernel_rfl) Tryz.func7 (by kernel_rfl)
    (of_decide_eq_true (by kernel_rfl)) (by unfold Func.isWrapper; first | (rw [if_pos (by decide +kernel)]; kernel_rfl) | (rw [if_neg (by decide +kernel)]; exact ⟨rfl, rfl⟩))
    (fun os started H enc _ => cutAlgebra_lifted os started H enc)
theorem cutAlgebra_card : Rows.CutAlgebraCardSaid :=
  Claim7.holds_tied_plain_at .later [] [.data, .data, .data] true (true, "982b85d7fc28f81cd50639e72151f7db201b988bd90d7a0b40d133412f752128") false
    cutAlgebra_holds (fun _ h => by cases h) (by kernel_rfl) (fun _ h => by cases h) cutAlgebra_row_tie rfl ⟨rfl, rfl⟩ (by kernel_rfl) rfl
    (fun f fn hf hfn => by
      obtain rfl : f = 7 := Option.some.inj ((show Tryz.prog.funcNamed "standby/standbylaw16.CutAlgebra" = some 7 by kernel_rfl).symm.trans hf) |>.symm
      obtain rfl : fn = Tryz.f7 := (Option.some.inj (Tryz.func7.symm.trans hfn)).symm
      exact ⟨by kernel_rfl, fun j t ht => by
        rw [Tryz.params7] at ht
        have hm : t ∈ [26, 46, 22] := by
          have := Array.mem_of_getElem? ht
          simpa using this
        have hall : ([26, 46, 22].all fun u => !Tryz.prog.wantsStandIn u) = true := by kernel_rfl
        exact (show Tryz.prog.wantsStandIn t = false by simpa using List.all_eq_true.1 hall t hm)⟩)
    (by kernel_rfl)
end Go.Proofs.YtpmjodnmnffmhaaGreatDoor
