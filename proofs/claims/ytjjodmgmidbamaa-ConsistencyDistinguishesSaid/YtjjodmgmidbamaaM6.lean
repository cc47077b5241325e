/- Proved: the tied card of the statement ConsistencyDistinguishes: for every argument that can be read the law returns true and leaves its arguments as they were. Conditions: the row's own alone. -/
import Derived.Lib.TrailingZeros
import Derived.Test.YtjjodmgmidbamaaM5
namespace Go.Proofs.Ytjjodmgmidbamaa
open Go.RowKit
def orK {S R : Type} (a : S → Prop) (b : R → Prop) : S ⊕ R → Prop
  | .inl s => a s
  | .inr r => b r
def loopS {S R : Type} (step : S → Option (S ⊕ R)) : Nat → S → Option R
  | 0, _ => none
  | n + 1, s => match step s with
    | none => none
    | some (.inl s') => loopS step n s'
    | some (.inr r) => some r
theorem LoopW.of_S {S R : Type} {step : S → (S → Prop) → Prop} {stepS : S → Option (S ⊕ R)} {K : R → Prop} (hs : ∀ s q rec, stepS s = some q → orK rec K q → step s rec) : ∀ (n : Nat) (s : S) {o : R}, loopS stepS n s = some o → K o → LoopW step s := by
  intro n s o h hK
  refine ⟨n, ?_⟩
  induction n generalizing s with
  | zero => cases h
  | succ n ih =>
    unfold loopS at h
    split at h
    · cases h
    · rename_i s' e
      exact hs s _ _ e (ih s' h)
    · rename_i r e
      cases h
      exact hs s _ _ e hK
theorem ofBind {α β : Type} {x : Option α} {f : α → Option β} {o : β} (h : Option.bind x f = some o) : ∃ v, x = some v ∧ f v = some o := Option.bind_eq_some_iff.1 h
theorem ofIf {α : Type} {p : Prop} [Decidable p] {x : Option α} {o : α} (h : (if p then x else none) = some o) : p ∧ x = some o := by
  by_cases hp : p
  · rw [if_pos hp] at h; exact ⟨hp, h⟩
  · rw [if_neg hp] at h; cases h
theorem ofT {α : Type} {p : Prop} [Decidable p] {x y : Option α} {o : α} (hp : p) (h : (if p then x else y) = some o) : x = some o := by rw [if_pos hp] at h; exact h
theorem ofF {α : Type} {p : Prop} [Decidable p] {x y : Option α} {o : α} (hp : ¬ p) (h : (if p then x else y) = some o) : y = some o := by rw [if_neg hp] at h; exact h
def bothS {α : Type} [DecidableEq α] (b : Bool) (x y : Option α) : Option α := if b = true then (if x = y then x else none) else y
theorem ofBoth {α : Type} [DecidableEq α] {b : Bool} {x y : Option α} {o : α} (h : bothS b x y = some o) : (b = true → x = some o) ∧ y = some o := by
  unfold bothS at h
  by_cases hb : b = true
  · rw [if_pos hb] at h
    by_cases he : x = y
    · rw [if_pos he] at h; exact ⟨fun _ => h, he ▸ h⟩
    · rw [if_neg he] at h; cases h
  · rw [if_neg hb] at h; exact ⟨fun q => absurd q hb, h⟩
theorem lfS {α : Type} {K : α → Prop} {a o : α} (h : some a = some o) (hK : K o) : K a := by
  cases h; exact hK
theorem adS {α : Type} {p : Prop} [Decidable p] {x : Option α} {o : α} {B : Prop} (h : (if p then x else none) = some o) (b : x = some o → B) : p ∧ B := ⟨(ofIf h).1, b (ofIf h).2⟩
theorem ifS {α : Type} {p : Prop} [Decidable p] {x y : Option α} {o : α} {A B : Prop} (h : (if p then x else y) = some o) (a : x = some o → A) (b : y = some o → B) : (p → A) ∧ (¬ p → B) := ⟨fun c => a (ofT c h), fun c => b (ofF c h)⟩
theorem mpS {α β : Type} {g : α → β} {x : Option α} {o : β} {G : Prop} (h : Option.map g x = some o) (k : ∀ v, x = some v → g v = o → G) : G := by
  obtain ⟨v, h1, h2⟩ := Option.map_eq_some_iff.1 h
  exact k v h1 h2
theorem blS {α β : Type} {x : Option α} {f : α → Option β} {o : β} {G : Prop} (h : Option.bind x f = some o) (k : ∀ v, x = some v → f v = some o → G) : G := by
  obtain ⟨v, h1, h2⟩ := ofBind h
  exact k v h1 h2
instance decI (x : Int) : Decidable (inI x) := inferInstanceAs (Decidable (_ ∧ _))
instance decX (i : Int) (n : Nat) : Decidable (inX i n) := inferInstanceAs (Decidable (_ ∧ _))
instance decS (a b : Int) (n : Nat) : Decidable (inS a b n) := inferInstanceAs (Decidable (_ ∧ _))
instance decL (n b : Nat) : Decidable (lenOk n b) := inferInstanceAs (Decidable (_ ∧ _))
theorem nl2S {α : Type} [DecidableEq α] {p : Prop} [Decidable p] {x y : Option α} {o : α} {A B : Prop} (h : bothS (decide p) x y = some o) (a : x = some o → A) (b : y = some o → B) : (p → A) ∧ B := ⟨fun c => a ((ofBoth h).1 (decide_eq_true c)), b (ofBoth h).2⟩
def genS {S Y R : Type} (step : S → Option (List Y × (S ⊕ R))) : Nat → S → Option (List Y × R)
  | 0, _ => none
  | n + 1, s => match step s with
    | none => none
    | some (ys, .inr o) => some (ys, o)
    | some (ys, .inl s') => (genS step n s').map fun q => (ys ++ q.1, q.2)
theorem LoopW.of_G {S Y R : Type} {step : (List Y × S) → ((List Y × S) → Prop) → Prop} {stepS : S → Option (List Y × (S ⊕ R))} {K : List Y → R → Prop} (hs : ∀ s ys q r rec, stepS s = some (ys, q) → orK (fun s => rec (r, s)) (K r) q → step (ys ++ r, s) rec) : ∀ (n : Nat) (s : S) {ys : List Y} {o : R} (r : List Y), genS stepS n s = some (ys, o) → K r o → LoopW step (ys ++ r, s) := by
  intro n s ys o r h hK
  refine ⟨n, ?_⟩
  induction n generalizing s ys with
  | zero => cases h
  | succ n ih =>
    unfold genS at h
    split at h
    · cases h
    · rename_i ys o e
      cases h
      exact hs s _ _ _ (LoopN step n) e hK
    · rename_i ys s' e
      obtain ⟨v, h1, h2⟩ := Option.map_eq_some_iff.1 h
      cases h2
      rw [List.append_assoc]
      exact hs s _ _ _ (LoopN step n) e (show LoopN step n (v.1 ++ r, s') from ih s' h1)
def law18_example_1_L1_S (x0 : List (BitVec 8)) : (Int × List Sec) → Option ((Int × List Sec) ⊕ (List Sec))
  | (v1, v2) =>
    if v1 < (x0.length : Int) then
      if inX v1 x0.length then
      if lenOk (v2 ++ ([(Sec.mk (ix x0 v1) (0#8) (0#8) (0#8) (0#8) (0#8) (0#8) (0#8))] : List Sec)).length 8 then
      if inI (v1 + 1) then
      some (.inl ((v1 + 1), (v2 ++ ([(Sec.mk (ix x0 v1) (0#8) (0#8) (0#8) (0#8) (0#8) (0#8) (0#8))] : List Sec))))
      else none
      else none
      else none
    else
      some (.inr v2)
theorem law18_example_1_L1_sound (x0 : List (BitVec 8)) (s : Int × List Sec) {Φ : List Sec → Prop} {rec1 : (Int × List Sec) → Prop} {o} (h : law18_example_1_L1_S x0 s = some o) (hK : (orK rec1 Φ) o) : law18_example_1_L1 x0 Φ s rec1 := by
  obtain ⟨v1, v2⟩ := s
  unfold law18_example_1_L1_S at h
  unfold law18_example_1_L1
  exact ifS h (fun h => adS h fun h => adS h fun h => adS h fun h => have t := lfS h hK; t) fun h => have t := lfS h hK; t
def law18_example_1_S (x0 : List (BitVec 8)) : Option (List Sec) :=
  loopS (law18_example_1_L1_S x0) 100000 (0, ([] : List Sec))
theorem law18_example_1_sound (x0 : List (BitVec 8)) {Φ : List Sec → Prop} {o} (h : law18_example_1_S x0 = some o) (hK : Φ o) : law18_example_1_W x0 Φ := by
  unfold law18_example_1_S at h
  unfold law18_example_1_W
  exact LoopW.of_S (fun s q rec hs hq => law18_example_1_L1_sound _ s hs hq) _ _ h hK
def law18_example_2_S (x0 : Int) (x1 : Int) : Option (api_HistoryEvent) :=
  some ((api_HistoryEvent.mk x0 x1))
theorem law18_example_2_sound (x0 : Int) (x1 : Int) {Φ : api_HistoryEvent → Prop} {o} (h : law18_example_2_S x0 x1 = some o) (hK : Φ o) : law18_example_2_W x0 x1 Φ := by
  unfold law18_example_2_S at h
  unfold law18_example_2_W
  exact have t := lfS h hK; t
def law18_example_S : Option (api_History) :=
  Option.bind (law18_example_1_S ([1#8] : List (BitVec 8))) fun v1 =>
  Option.bind (law18_example_1_S ([2#8] : List (BitVec 8))) fun v2 =>
  Option.bind (law18_example_1_S ([3#8, 4#8] : List (BitVec 8))) fun v3 =>
  Option.bind (law18_example_2_S 0 0) fun v4 =>
  Option.bind (law18_example_2_S 1 0) fun v5 =>
  Option.bind (law18_example_2_S 0 1) fun v6 =>
  Option.bind (law18_example_2_S 1 1) fun v7 =>
  Option.bind (law18_example_2_S 0 2) fun v8 =>
  some ((api_History.mk ([3] : List Int) ([(api_Write.mk 0 0 v1), (api_Write.mk 0 1 v2), (api_Write.mk 0 0 v3)] : List api_Write) ([v4, v5, v6, v7, v8] : List api_HistoryEvent)))
theorem law18_example_sound {Φ : api_History → Prop} {o} (h : law18_example_S = some o) (hK : Φ o) : law18_example_W Φ := by
  unfold law18_example_S at h
  unfold law18_example_W
  exact blS h fun _ hv h => law18_example_1_sound _ hv (blS h fun _ hv h => law18_example_1_sound _ hv (blS h fun _ hv h => law18_example_1_sound _ hv (blS h fun _ hv h => law18_example_2_sound _ _ hv (blS h fun _ hv h => law18_example_2_sound _ _ hv (blS h fun _ hv h => law18_example_2_sound _ _ hv (blS h fun _ hv h => law18_example_2_sound _ _ hv (blS h fun _ hv h => law18_example_2_sound _ _ hv (have t := lfS h hK; t))))))))
def law18_of_S (x0 : BitVec 8) (x1 : BitVec 8) (x2 : BitVec 8) : Option (List (List Sec)) :=
  some (([([(Sec.mk x0 (0#8) (0#8) (0#8) (0#8) (0#8) (0#8) (0#8)), (Sec.mk x1 (0#8) (0#8) (0#8) (0#8) (0#8) (0#8) (0#8)), (Sec.mk x2 (0#8) (0#8) (0#8) (0#8) (0#8) (0#8) (0#8))] : List Sec)] : List (List Sec)))
theorem law18_of_sound (x0 : BitVec 8) (x1 : BitVec 8) (x2 : BitVec 8) {Φ : List (List Sec) → Prop} {o} (h : law18_of_S x0 x1 x2 = some o) (hK : Φ o) : law18_of_W x0 x1 x2 Φ := by
  unfold law18_of_S at h
  unfold law18_of_W
  exact have t := lfS h hK; t
def image_checkSizes_1_S (x0 : Int) : Option (Bool) :=
  if x0 < 1 then
    some (true)
  else
    some (decide (4096 < x0))
theorem image_checkSizes_1_sound (x0 : Int) {Φ : Bool → Prop} {o} (h : image_checkSizes_1_S x0 = some o) (hK : Φ o) : image_checkSizes_1_W x0 Φ := by
  unfold image_checkSizes_1_S at h
  unfold image_checkSizes_1_W
  exact ifS h (fun h => have t := lfS h hK; t) fun h => have t := lfS h hK; t
def image_checkSizes_L1_S (x0 : List Int) : (Int) → Option ((Int) ⊕ (Int))
  | v1 =>
    if v1 < (x0.length : Int) then
      if inX v1 x0.length then
      Option.bind (image_checkSizes_1_S (ix x0 v1)) fun v2 =>
      if v2 = true then
        if 0 ≤ v1 then
          some (.inr 2)
        else
          some (.inr 0)
      else
        if inI (v1 + 1) then
        some (.inl (v1 + 1))
        else none
      else none
    else
      if 0 ≤ ((-1) : Int) then
        some (.inr 2)
      else
        some (.inr 0)
theorem image_checkSizes_L1_sound (x0 : List Int) (s : Int) {Φ : Int → Prop} {rec1 : (Int) → Prop} {o} (h : image_checkSizes_L1_S x0 s = some o) (hK : (orK rec1 Φ) o) : image_checkSizes_L1 x0 Φ s rec1 := by
  unfold image_checkSizes_L1_S at h
  unfold image_checkSizes_L1
  exact ifS h (fun h => adS h fun h => blS h fun _ hv h => image_checkSizes_1_sound _ hv (ifS h (fun h => ifS h (fun h => have t := lfS h hK; t) fun h => have t := lfS h hK; t) fun h => adS h fun h => have t := lfS h hK; t)) fun h => ifS h (fun h => have t := lfS h hK; t) fun h => have t := lfS h hK; t
def image_checkSizes_S (x0 : List Int) : Option (Int) :=
  if (x0.length : Int) < 1 then
    some (6)
  else
    if 8 < (x0.length : Int) then
      some (6)
    else
      loopS (image_checkSizes_L1_S x0) 100000 0
theorem image_checkSizes_sound (x0 : List Int) {Φ : Int → Prop} {o} (h : image_checkSizes_S x0 = some o) (hK : Φ o) : image_checkSizes_W x0 Φ := by
  unfold image_checkSizes_S at h
  unfold image_checkSizes_W
  exact ifS h (fun h => have t := lfS h hK; t) fun h => ifS h (fun h => have t := lfS h hK; t) fun h => LoopW.of_S (fun s q rec hs hq => image_checkSizes_L1_sound _ s hs hq) _ _ h hK
def image_New_1_S (x0 : Int) : Option (List Sec) :=
  if 0 ≤ x0 then
  if lenOk x0.toNat 8 then
  some ((List.replicate x0.toNat (sec0 : Sec)))
  else none
  else none
theorem image_New_1_sound (x0 : Int) {Φ : List Sec → Prop} {o} (h : image_New_1_S x0 = some o) (hK : Φ o) : image_New_1_W x0 Φ := by
  unfold image_New_1_S at h
  unfold image_New_1_W
  exact adS h fun h => adS h fun h => have t := lfS h hK; t
def image_New_L1_S (x0 : List Int) : (Int × List (List Sec)) → Option ((Int × List (List Sec)) ⊕ (List (List Sec) × Int))
  | (v2, v3) =>
    if v2 < (x0.length : Int) then
      if inX v2 x0.length then
      Option.bind (image_New_1_S (ix x0 v2)) fun v4 =>
      if lenOk (v3 ++ ([v4] : List (List Sec))).length 24 then
      if inI (v2 + 1) then
      some (.inl ((v2 + 1), (v3 ++ ([v4] : List (List Sec)))))
      else none
      else none
      else none
    else
      some (.inr (v3, 0))
theorem image_New_L1_sound (x0 : List Int) (s : Int × List (List Sec)) {Φ : List (List Sec) × Int → Prop} {rec1 : (Int × List (List Sec)) → Prop} {o} (h : image_New_L1_S x0 s = some o) (hK : (orK rec1 Φ) o) : image_New_L1 x0 Φ s rec1 := by
  obtain ⟨v2, v3⟩ := s
  unfold image_New_L1_S at h
  unfold image_New_L1
  exact ifS h (fun h => adS h fun h => blS h fun _ hv h => image_New_1_sound _ hv (adS h fun h => adS h fun h => have t := lfS h hK; t)) fun h => have t := lfS h hK; t
def image_New_S (x0 : List Int) : Option (List (List Sec) × Int) :=
  Option.bind (image_checkSizes_S x0) fun v1 =>
  if v1 ≠ 0 then
    some ((([] : List (List Sec)), v1))
  else
    if 0 ≤ (x0.length : Int) then
    if lenOk (x0.length : Int).toNat 24 then
    loopS (image_New_L1_S x0) 100000 (0, ([] : List (List Sec)))
    else none
    else none
theorem image_New_sound (x0 : List Int) {Φ : List (List Sec) × Int → Prop} {o} (h : image_New_S x0 = some o) (hK : Φ o) : image_New_W x0 Φ := by
  unfold image_New_S at h
  unfold image_New_W
  exact blS h fun _ hv h => image_checkSizes_sound _ hv (ifS h (fun h => have t := lfS h hK; t) fun h => adS h fun h => adS h fun h => LoopW.of_S (fun s q rec hs hq => image_New_L1_sound _ s hs hq) _ _ h hK)
def image_sizes_1_S (x0 : List Sec) : Option (Int) :=
  some ((x0.length : Int))
theorem image_sizes_1_sound (x0 : List Sec) {Φ : Int → Prop} {o} (h : image_sizes_1_S x0 = some o) (hK : Φ o) : image_sizes_1_W x0 Φ := by
  unfold image_sizes_1_S at h
  unfold image_sizes_1_W
  exact have t := lfS h hK; t
def image_sizes_L1_S (x0 : List (List Sec)) : (Int × List Int) → Option ((Int × List Int) ⊕ (List Int))
  | (v1, v2) =>
    if v1 < (x0.length : Int) then
      if inX v1 x0.length then
      Option.bind (image_sizes_1_S (ix x0 v1)) fun v3 =>
      if lenOk (v2 ++ ([v3] : List Int)).length 8 then
      if inI (v1 + 1) then
      some (.inl ((v1 + 1), (v2 ++ ([v3] : List Int))))
      else none
      else none
      else none
    else
      some (.inr v2)
theorem image_sizes_L1_sound (x0 : List (List Sec)) (s : Int × List Int) {Φ : List Int → Prop} {rec1 : (Int × List Int) → Prop} {o} (h : image_sizes_L1_S x0 s = some o) (hK : (orK rec1 Φ) o) : image_sizes_L1 x0 Φ s rec1 := by
  obtain ⟨v1, v2⟩ := s
  unfold image_sizes_L1_S at h
  unfold image_sizes_L1
  exact ifS h (fun h => adS h fun h => blS h fun _ hv h => image_sizes_1_sound _ hv (adS h fun h => adS h fun h => have t := lfS h hK; t)) fun h => have t := lfS h hK; t
def image_sizes_S (x0 : List (List Sec)) : Option (List Int) :=
  if 0 ≤ (x0.length : Int) then
  if lenOk (x0.length : Int).toNat 8 then
  loopS (image_sizes_L1_S x0) 100000 (0, ([] : List Int))
  else none
  else none
theorem image_sizes_sound (x0 : List (List Sec)) {Φ : List Int → Prop} {o} (h : image_sizes_S x0 = some o) (hK : Φ o) : image_sizes_W x0 Φ := by
  unfold image_sizes_S at h
  unfold image_sizes_W
  exact adS h fun h => adS h fun h => LoopW.of_S (fun s q rec hs hq => image_sizes_L1_sound _ s hs hq) _ _ h hK
def image_Check_S (x0 : List (List Sec)) : Option (Int) :=
  Option.bind (image_sizes_S x0) fun v1 =>
  Option.bind (image_checkSizes_S v1) fun v2 =>
  some (v2)
theorem image_Check_sound (x0 : List (List Sec)) {Φ : Int → Prop} {o} (h : image_Check_S x0 = some o) (hK : Φ o) : image_Check_W x0 Φ := by
  unfold image_Check_S at h
  unfold image_Check_W
  exact blS h fun _ hv h => image_sizes_sound _ hv (blS h fun _ hv h => image_checkSizes_sound _ hv (have t := lfS h hK; t))
def image_fits_J1_S (x0 : List (List Sec)) (x1 : api_Write) : (Bool) → Option (Int)
  | v1 =>
    if v1 = true then
      some (7)
    else
      if (x1.Data.length : Int) = 0 then
        some (1)
      else
        if x1.Start < 0 then
          some (2)
        else
          if inX x1.Volume x0.length then
          if inI (((ix x0 x1.Volume).length : Int) - (x1.Data.length : Int)) then
          if (((ix x0 x1.Volume).length : Int) - (x1.Data.length : Int)) < x1.Start then
            some (2)
          else
            some (0)
          else none
          else none
theorem image_fits_J1_sound (x0 : List (List Sec)) (x1 : api_Write) (s : Bool) {Φ : Int → Prop} {o} (h : image_fits_J1_S x0 x1 s = some o) (hK : Φ o) : image_fits_J1 x0 x1 Φ s := by
  unfold image_fits_J1_S at h
  unfold image_fits_J1
  exact ifS h (fun h => have t := lfS h hK; t) fun h => ifS h (fun h => have t := lfS h hK; t) fun h => ifS h (fun h => have t := lfS h hK; t) fun h => adS h fun h => adS h fun h => ifS h (fun h => have t := lfS h hK; t) fun h => have t := lfS h hK; t
def image_fits_S (x0 : List (List Sec)) (x1 : api_Write) : Option (Int) :=
  if x1.Volume < 0 then
    image_fits_J1_S x0 x1 true
  else
    image_fits_J1_S x0 x1 (decide ((x0.length : Int) ≤ x1.Volume))
theorem image_fits_sound (x0 : List (List Sec)) (x1 : api_Write) {Φ : Int → Prop} {o} (h : image_fits_S x0 x1 = some o) (hK : Φ o) : image_fits_W x0 x1 Φ := by
  unfold image_fits_S at h
  unfold image_fits_W
  exact ifS h (fun h => image_fits_J1_sound _ _ _ h hK) fun h => image_fits_J1_sound _ _ _ h hK
def image_Fits_S (x0 : List (List Sec)) (x1 : api_Write) : Option (Int) :=
  Option.bind (image_Check_S x0) fun v1 =>
  if v1 ≠ 0 then
    some (v1)
  else
    Option.bind (image_fits_S x0 x1) fun v2 =>
    some (v2)
theorem image_Fits_sound (x0 : List (List Sec)) (x1 : api_Write) {Φ : Int → Prop} {o} (h : image_Fits_S x0 x1 = some o) (hK : Φ o) : image_Fits_W x0 x1 Φ := by
  unfold image_Fits_S at h
  unfold image_Fits_W
  exact blS h fun _ hv h => image_Check_sound _ hv (ifS h (fun h => have t := lfS h hK; t) fun h => blS h fun _ hv h => image_fits_sound _ _ hv (have t := lfS h hK; t))
def history_check_J3_S (v4 : Int) : (Int × List Int × List Int) → Option ((Int × List Int × List Int) ⊕ ((Int) ⊕ (history_checked × Int)))
  | (v7, v8, v9) =>
    if v7 ≠ 0 then
      some (.inr (.inr ((history_checked.mk (api_History.mk ([] : List Int) ([] : List api_Write) ([] : List api_HistoryEvent)) (history_timeline.mk ([] : List Int) ([] : List Int))), v7)))
    else
      if inI (v4 + 1) then
      some (.inl ((v4 + 1), v8, v9))
      else none
theorem history_check_J3_sound (v4 : Int) (s : Int × List Int × List Int) {Φ : history_checked × Int → Prop} {rec1 : (Int) → Prop} {rec2 : (Int × List Int × List Int) → Prop} {o} (h : history_check_J3_S v4 s = some o) (hK : (orK rec2 (orK rec1 Φ)) o) : history_check_J3 v4 rec2 Φ s := by
  obtain ⟨v7, v8, v9⟩ := s
  unfold history_check_J3_S at h
  unfold history_check_J3
  exact ifS h (fun h => have t := lfS h hK; t) fun h => adS h fun h => have t := lfS h hK; t
def history_check_L2_S (x0 : api_History) : (Int × List Int × List Int) → Option ((Int × List Int × List Int) ⊕ ((Int) ⊕ (history_checked × Int)))
  | (v4, v5, v6) =>
    if v4 < (x0.Events.length : Int) then
      if inX v4 x0.Events.length then
      if ((ix x0.Events v4).Kind) = 0 then
        if ((ix x0.Events v4).Write) ≠ (v5.length : Int) then
          history_check_J3_S v4 (3, v5, v6)
        else
          if (x0.Writes.length : Int) ≤ ((ix x0.Events v4).Write) then
            history_check_J3_S v4 (3, v5, v6)
          else
            if lenOk (v5 ++ ([v4] : List Int)).length 8 then
            if lenOk (v6 ++ ([(-1)] : List Int)).length 8 then
            history_check_J3_S v4 (0, (v5 ++ ([v4] : List Int)), (v6 ++ ([(-1)] : List Int)))
            else none
            else none
      else
        if ((ix x0.Events v4).Kind) = 1 then
          if ((ix x0.Events v4).Write) < 0 then
            history_check_J3_S v4 (7, v5, v6)
          else
            if (v5.length : Int) ≤ ((ix x0.Events v4).Write) then
              history_check_J3_S v4 (7, v5, v6)
            else
              if inX ((ix x0.Events v4).Write) v6.length then
              if 0 ≤ (ix v6 ((ix x0.Events v4).Write)) then
                history_check_J3_S v4 (8, v5, v6)
              else
                if inX ((ix x0.Events v4).Write) v6.length then
                history_check_J3_S v4 (0, v5, (put v6 ((ix x0.Events v4).Write) v4))
                else none
              else none
        else
          history_check_J3_S v4 (3, v5, v6)
      else none
    else
      if (v5.length : Int) < (x0.Writes.length : Int) then
        some (.inr (.inr ((history_checked.mk (api_History.mk ([] : List Int) ([] : List api_Write) ([] : List api_HistoryEvent)) (history_timeline.mk ([] : List Int) ([] : List Int))), 3)))
      else
        some (.inr (.inr ((history_checked.mk x0 (history_timeline.mk v5 v6)), 0)))
theorem history_check_L2_sound (x0 : api_History) (s : Int × List Int × List Int) {Φ : history_checked × Int → Prop} {rec1 : (Int) → Prop} {rec2 : (Int × List Int × List Int) → Prop} {o} (h : history_check_L2_S x0 s = some o) (hK : (orK rec2 (orK rec1 Φ)) o) : history_check_L2 x0 Φ s rec2 := by
  obtain ⟨v4, v5, v6⟩ := s
  unfold history_check_L2_S at h
  unfold history_check_L2
  exact ifS h (fun h => adS h fun h => ifS h (fun h => ifS h (fun h => history_check_J3_sound _ _ h hK) fun h => ifS h (fun h => history_check_J3_sound _ _ h hK) fun h => adS h fun h => adS h fun h => history_check_J3_sound _ _ h hK) fun h => ifS h (fun h => ifS h (fun h => history_check_J3_sound _ _ h hK) fun h => ifS h (fun h => history_check_J3_sound _ _ h hK) fun h => adS h fun h => ifS h (fun h => history_check_J3_sound _ _ h hK) fun h => adS h fun h => history_check_J3_sound _ _ h hK) fun h => history_check_J3_sound _ _ h hK) fun h => ifS h (fun h => have t := lfS h hK; t) fun h => have t := lfS h hK; t
def history_check_L1_S (x0 : api_History) (v1 : List (List Sec) × Int) : (Int) → Option ((Int) ⊕ (history_checked × Int))
  | v2 =>
    if v2 < (x0.Writes.length : Int) then
      if inX v2 x0.Writes.length then
      Option.bind (image_Fits_S v1.1 (ix x0.Writes v2)) fun v3 =>
      if v3 ≠ 0 then
        some (.inr ((history_checked.mk (api_History.mk ([] : List Int) ([] : List api_Write) ([] : List api_HistoryEvent)) (history_timeline.mk ([] : List Int) ([] : List Int))), v3))
      else
        if inI (v2 + 1) then
        some (.inl (v2 + 1))
        else none
      else none
    else
      loopS (history_check_L2_S x0) 100000 (0, ([] : List Int), ([] : List Int))
theorem history_check_L1_sound (x0 : api_History) (v1 : List (List Sec) × Int) (s : Int) {Φ : history_checked × Int → Prop} {rec1 : (Int) → Prop} {o} (h : history_check_L1_S x0 v1 s = some o) (hK : (orK rec1 Φ) o) : history_check_L1 x0 v1 Φ s rec1 := by
  unfold history_check_L1_S at h
  unfold history_check_L1
  exact ifS h (fun h => adS h fun h => blS h fun _ hv h => image_Fits_sound _ _ hv (ifS h (fun h => have t := lfS h hK; t) fun h => adS h fun h => have t := lfS h hK; t)) fun h => LoopW.of_S (fun s q rec hs hq => history_check_L2_sound _ s hs hq) _ _ h hK
def history_check_S (x0 : api_History) : Option (history_checked × Int) :=
  Option.bind (image_New_S x0.Sizes) fun v1 =>
  if v1.2 ≠ 0 then
    some (((history_checked.mk (api_History.mk ([] : List Int) ([] : List api_Write) ([] : List api_HistoryEvent)) (history_timeline.mk ([] : List Int) ([] : List Int))), v1.2))
  else
    if 4096 < (x0.Writes.length : Int) then
      some (((history_checked.mk (api_History.mk ([] : List Int) ([] : List api_Write) ([] : List api_HistoryEvent)) (history_timeline.mk ([] : List Int) ([] : List Int))), 6))
    else
      loopS (history_check_L1_S x0 v1) 100000 0
theorem history_check_sound (x0 : api_History) {Φ : history_checked × Int → Prop} {o} (h : history_check_S x0 = some o) (hK : Φ o) : history_check_W x0 Φ := by
  unfold history_check_S at h
  unfold history_check_W
  exact blS h fun _ hv h => image_New_sound _ hv (ifS h (fun h => have t := lfS h hK; t) fun h => ifS h (fun h => have t := lfS h hK; t) fun h => LoopW.of_S (fun s q rec hs hq => history_check_L1_sound _ _ s hs hq) _ _ h hK)
def history_Check_S (x0 : api_History) : Option (Int) :=
  Option.bind (history_check_S x0) fun v1 =>
  some (v1.2)
theorem history_Check_sound (x0 : api_History) {Φ : Int → Prop} {o} (h : history_Check_S x0 = some o) (hK : Φ o) : history_Check_W x0 Φ := by
  unfold history_Check_S at h
  unfold history_Check_W
  exact blS h fun _ hv h => history_check_sound _ hv (have t := lfS h hK; t)
def consistency_newJudge_1_S (x0 : List Sec) (x1 : Int) : Option (Bool) :=
  some (decide ((x0.length : Int) = x1))
theorem consistency_newJudge_1_sound (x0 : List Sec) (x1 : Int) {Φ : Bool → Prop} {o} (h : consistency_newJudge_1_S x0 x1 = some o) (hK : Φ o) : consistency_newJudge_1_W x0 x1 Φ := by
  unfold consistency_newJudge_1_S at h
  unfold consistency_newJudge_1_W
  exact have t := lfS h hK; t
def consistency_single_S (x0 : consistency_place) (x1 : Sec) : Option (api_Write) :=
  some ((api_Write.mk x0.volume x0.sector ([x1] : List Sec)))
theorem consistency_single_sound (x0 : consistency_place) (x1 : Sec) {Φ : api_Write → Prop} {o} (h : consistency_single_S x0 x1 = some o) (hK : Φ o) : consistency_single_W x0 x1 Φ := by
  unfold consistency_single_S at h
  unfold consistency_single_W
  exact have t := lfS h hK; t
def math_bits_Mul64_S (x0 : BitVec 64) (x1 : BitVec 64) : Option (BitVec 64 × BitVec 64) :=
  some ((((((x0 >>> ((32#64).toNat : Int).toNat) * (x1 >>> ((32#64).toNat : Int).toNat)) + ((((x0 >>> ((32#64).toNat : Int).toNat) * (x1 &&& (4294967295#64))) + (((x0 &&& (4294967295#64)) * (x1 &&& (4294967295#64))) >>> ((32#64).toNat : Int).toNat)) >>> ((32#64).toNat : Int).toNat)) + ((((((x0 >>> ((32#64).toNat : Int).toNat) * (x1 &&& (4294967295#64))) + (((x0 &&& (4294967295#64)) * (x1 &&& (4294967295#64))) >>> ((32#64).toNat : Int).toNat)) &&& (4294967295#64)) + ((x0 &&& (4294967295#64)) * (x1 >>> ((32#64).toNat : Int).toNat))) >>> ((32#64).toNat : Int).toNat)), (x0 * x1)))
theorem math_bits_Mul64_sound (x0 : BitVec 64) (x1 : BitVec 64) {Φ : BitVec 64 × BitVec 64 → Prop} {o} (h : math_bits_Mul64_S x0 x1 = some o) (hK : Φ o) : math_bits_Mul64_W x0 x1 Φ := by
  unfold math_bits_Mul64_S at h
  unfold math_bits_Mul64_W
  exact have t := lfS h hK; t
def math_bits_Mul_S (x0 : BitVec 64) (x1 : BitVec 64) : Option (BitVec 64 × BitVec 64) :=
  Option.bind (math_bits_Mul64_S x0 x1) fun v1 =>
  some ((v1.1, v1.2))
theorem math_bits_Mul_sound (x0 : BitVec 64) (x1 : BitVec 64) {Φ : BitVec 64 × BitVec 64 → Prop} {o} (h : math_bits_Mul_S x0 x1 = some o) (hK : Φ o) : math_bits_Mul_W x0 x1 Φ := by
  unfold math_bits_Mul_S at h
  unfold math_bits_Mul_W
  exact blS h fun _ hv h => math_bits_Mul64_sound _ _ hv (have t := lfS h hK; t)
def slices_Repeat_int_int_L2_S : (Int × List Int) → Option ((Int × List Int) ⊕ (List Int))
  | (v3, v4) =>
    if v3 < (v4.length : Int) then
      if inS v3 (v4.length : Int) v4.length then
      if inS 0 v3 v4.length then
      if inI (v3 + ((min (sub v4 0 v3).length (v4.length - (v3 : Int).toNat) : Nat) : Int)) then
      some (.inl ((v3 + ((min (sub v4 0 v3).length (v4.length - (v3 : Int).toNat) : Nat) : Int)), (paste v4 v3 (sub v4 0 v3))))
      else none
      else none
      else none
    else
      some (.inr v4)
theorem slices_Repeat_int_int_L2_sound (s : Int × List Int) {Φ : List Int → Prop} {rec2 : (Int × List Int) → Prop} {o} (h : slices_Repeat_int_int_L2_S s = some o) (hK : (orK rec2 Φ) o) : slices_Repeat_int_int_L2 Φ s rec2 := by
  obtain ⟨v3, v4⟩ := s
  unfold slices_Repeat_int_int_L2_S at h
  unfold slices_Repeat_int_int_L2
  exact ifS h (fun h => adS h fun h => adS h fun h => adS h fun h => have t := lfS h hK; t) fun h => have t := lfS h hK; t
def slices_Repeat_int_int_J1_S (x0 : List Int) (v1 : BitVec 64 × BitVec 64) : (Bool) → Option (List Int)
  | v2 =>
    if v2 = true then
      none
    else
      if 0 ≤ v1.2.toInt then
      if lenOk v1.2.toInt.toNat 8 then
      loopS (slices_Repeat_int_int_L2_S) 100000 (((min x0.length ((List.replicate v1.2.toInt.toNat (0 : Int)).length - (0 : Int).toNat) : Nat) : Int), (paste (List.replicate v1.2.toInt.toNat (0 : Int)) 0 x0))
      else none
      else none
theorem slices_Repeat_int_int_J1_sound (x0 : List Int) (v1 : BitVec 64 × BitVec 64) (s : Bool) {Φ : List Int → Prop} {o} (h : slices_Repeat_int_int_J1_S x0 v1 s = some o) (hK : Φ o) : slices_Repeat_int_int_J1 x0 v1 Φ s := by
  unfold slices_Repeat_int_int_J1_S at h
  unfold slices_Repeat_int_int_J1
  exact ifS h (fun h => (by cases h)) fun h => adS h fun h => adS h fun h => LoopW.of_S (fun s q rec hs hq => slices_Repeat_int_int_L2_sound s hs hq) _ _ h hK
def slices_Repeat_int_int_S (x0 : List Int) (x1 : Int) : Option (List Int) :=
  if x1 < 0 then
    none
  else
    Option.bind (math_bits_Mul_S (BitVec.ofInt 64 (x0.length : Int)) (BitVec.ofInt 64 x1)) fun v1 =>
    if (0#64) < v1.1 then
      slices_Repeat_int_int_J1_S x0 v1 true
    else
      slices_Repeat_int_int_J1_S x0 v1 (decide ((9223372036854775807#64) < v1.2))
theorem slices_Repeat_int_int_sound (x0 : List Int) (x1 : Int) {Φ : List Int → Prop} {o} (h : slices_Repeat_int_int_S x0 x1 = some o) (hK : Φ o) : slices_Repeat_int_int_W x0 x1 Φ := by
  unfold slices_Repeat_int_int_S at h
  unfold slices_Repeat_int_int_W
  exact ifS h (fun h => (by cases h)) fun h => blS h fun _ hv h => math_bits_Mul_sound _ _ hv (ifS h (fun h => slices_Repeat_int_int_J1_sound _ _ _ h hK) fun h => slices_Repeat_int_int_J1_sound _ _ _ h hK)
def cut_relation_mark_J2_S (x1 : List Int) (v1 : Int) (v2 : List Bool) : (Bool) → Option ((Int × List Bool) ⊕ (List Bool × Bool))
  | v3 =>
    if v3 = true then
      some (.inr (([] : List Bool), false))
    else
      if inX (ix x1 v1) v2.length then
      if inI (v1 + 1) then
      some (.inl ((v1 + 1), (put v2 (ix x1 v1) true)))
      else none
      else none
theorem cut_relation_mark_J2_sound (x1 : List Int) (v1 : Int) (v2 : List Bool) (s : Bool) {Φ : List Bool × Bool → Prop} {rec1 : (Int × List Bool) → Prop} {o} (h : cut_relation_mark_J2_S x1 v1 v2 s = some o) (hK : (orK rec1 Φ) o) : cut_relation_mark_J2 x1 v1 v2 rec1 Φ s := by
  unfold cut_relation_mark_J2_S at h
  unfold cut_relation_mark_J2
  exact ifS h (fun h => have t := lfS h hK; t) fun h => adS h fun h => adS h fun h => have t := lfS h hK; t
def cut_relation_mark_L1_S (x0 : Ptr cut_relation) (x1 : List Int) : (Int × List Bool) → Option ((Int × List Bool) ⊕ (List Bool × Bool))
  | (v1, v2) =>
    if v1 < (x1.length : Int) then
      if inX v1 x1.length then
      if (ix x1 v1) < 0 then
        cut_relation_mark_J2_S x1 v1 v2 true
      else
        if x0.val.n ≤ (ix x1 v1) then
          cut_relation_mark_J2_S x1 v1 v2 true
        else
          if 0 < v1 then
            if inI (v1 - 1) then
            if inX (v1 - 1) x1.length then
            cut_relation_mark_J2_S x1 v1 v2 (decide ((ix x1 v1) ≤ (ix x1 (v1 - 1))))
            else none
            else none
          else
            cut_relation_mark_J2_S x1 v1 v2 false
      else none
    else
      some (.inr (v2, true))
theorem cut_relation_mark_L1_sound (x0 : Ptr cut_relation) (x1 : List Int) (s : Int × List Bool) {Φ : List Bool × Bool → Prop} {rec1 : (Int × List Bool) → Prop} {o} (h : cut_relation_mark_L1_S x0 x1 s = some o) (hK : (orK rec1 Φ) o) : cut_relation_mark_L1 x0 x1 Φ s rec1 := by
  obtain ⟨v1, v2⟩ := s
  unfold cut_relation_mark_L1_S at h
  unfold cut_relation_mark_L1
  exact ifS h (fun h => adS h fun h => ifS h (fun h => cut_relation_mark_J2_sound _ _ _ _ h hK) fun h => ifS h (fun h => cut_relation_mark_J2_sound _ _ _ _ h hK) fun h => ifS h (fun h => adS h fun h => adS h fun h => cut_relation_mark_J2_sound _ _ _ _ h hK) fun h => cut_relation_mark_J2_sound _ _ _ _ h hK) fun h => have t := lfS h hK; t
def cut_relation_mark_S (x0 : Ptr cut_relation) (x1 : List Int) : Option (List Bool × Bool) :=
  if 0 ≤ x0.val.n then
  if lenOk x0.val.n.toNat 1 then
  loopS (cut_relation_mark_L1_S x0 x1) 100000 (0, (List.replicate x0.val.n.toNat (false : Bool)))
  else none
  else none
theorem cut_relation_mark_sound (x0 : Ptr cut_relation) (x1 : List Int) {Φ : List Bool × Bool → Prop} {o} (h : cut_relation_mark_S x0 x1 = some o) (hK : Φ o) : cut_relation_mark_W x0 x1 Φ := by
  unfold cut_relation_mark_S at h
  unfold cut_relation_mark_W
  exact adS h fun h => adS h fun h => LoopW.of_S (fun s q rec hs hq => cut_relation_mark_L1_sound _ _ s hs hq) _ _ h hK
def slices_Clone_cut_marks_bool_S (x0 : List Bool) : Option (List Bool) :=
  bothS (decide (x0 = [])) (
    some (([] : List Bool))) (
    if lenOk (([] : List Bool) ++ x0).length 1 then
    some ((([] : List Bool) ++ x0))
    else none)
theorem slices_Clone_cut_marks_bool_sound (x0 : List Bool) {Φ : List Bool → Prop} {o} (h : slices_Clone_cut_marks_bool_S x0 = some o) (hK : Φ o) : slices_Clone_cut_marks_bool_W x0 Φ := by
  unfold slices_Clone_cut_marks_bool_S at h
  unfold slices_Clone_cut_marks_bool_W
  exact nl2S h (fun h => have t := lfS h hK; t) fun h => adS h fun h => have t := lfS h hK; t
def cut_marks_members_1_L1_S (x0 : List Bool) : (Int) → Option (List (Int × Unit) × ((Int) ⊕ (Unit)))
  | v1 =>
    if v1 < (x0.length : Int) then
      if inX v1 x0.length then
      if (ix x0 v1) = true then
        Option.map (fun q => ((v1, ()) :: q.1, q.2)) (
          if inI (v1 + 1) then
          some ([], .inl (v1 + 1))
          else none)
      else
        if inI (v1 + 1) then
        some ([], .inl (v1 + 1))
        else none
      else none
    else
      some ([], .inr ())
theorem cut_marks_members_1_L1_sound (x0 : List Bool) (s : Int) {ys : List (Int × Unit)} {q} {r : List (Int × Unit)} {rec1 : (List (Int × Unit) × Int) → Prop} (h : cut_marks_members_1_L1_S x0 s = some (ys, q)) (hr : (orK (fun s => rec1 (r, s)) (fun _ => r = [])) q) : cut_marks_members_1_L1 x0 (ys ++ r, s) rec1 := by
  unfold cut_marks_members_1_L1_S at h
  unfold cut_marks_members_1_L1
  exact ifS h (fun h => adS h fun h => ifS h (fun h => mpS h fun q_ h_ he => (by obtain ⟨_, _⟩ := q_; cases he; exact ⟨rfl, (have h := h_; adS h fun h => (by cases h; exact hr)), trivial⟩)) fun h => adS h fun h => (by cases h; exact hr)) fun h => (by cases h; exact hr)
def cut_marks_members_1_S0 (x0 : List Bool) : Option (List (Int × Unit) × Unit) :=
  genS (cut_marks_members_1_L1_S x0) 100000 0
def cut_marks_members_1_S (x0 : List Bool) : Option (List (Int × Unit)) := Option.map Prod.fst (cut_marks_members_1_S0 x0)
theorem cut_marks_members_1_sound (x0 : List Bool) {l : List (Int × Unit)} (h : cut_marks_members_1_S x0 = some l) : cut_marks_members_1_I x0 l := by
  obtain ⟨⟨ys, q⟩, h0, h1⟩ := Option.map_eq_some_iff.1 h
  clear h
  have h := h0
  subst h1
  unfold cut_marks_members_1_S0 at h
  unfold cut_marks_members_1_I
  have hr : (fun _ => ([] : List (Int × Unit)) = []) q := rfl
  rw [← List.append_nil ys]
  exact LoopW.of_G (K := fun r => (fun _ => r = [])) (fun s ys q r rec hs hr => cut_marks_members_1_L1_sound _ s hs hr) _ _ _ h hr
def cut_relation_before_S (x0 : Ptr cut_relation) (x1 : Int) (x2 : Int) : Option (Bool) :=
  if inX x1 x0.val.acked.length then
  if inX x2 x0.val.issued.length then
  some (decide ((ix x0.val.acked x1) < (ix x0.val.issued x2)))
  else none
  else none
theorem cut_relation_before_sound (x0 : Ptr cut_relation) (x1 : Int) (x2 : Int) {Φ : Bool → Prop} {o} (h : cut_relation_before_S x0 x1 x2 = some o) (hK : Φ o) : cut_relation_before_W x0 x1 x2 Φ := by
  unfold cut_relation_before_S at h
  unfold cut_relation_before_W
  exact adS h fun h => adS h fun h => have t := lfS h hK; t
def cut_marks_list_L1_S : (List (Int × Unit) × List Int) → Option ((List (Int × Unit) × List Int) ⊕ (List Int))
  | (lst, v1) =>
    match lst with
    | [] =>
      some (.inr v1)
    | v2 :: r3 =>
      if lenOk (v1 ++ ([v2.1] : List Int)).length 8 then
      some (.inl (r3, (v1 ++ ([v2.1] : List Int))))
      else none
theorem cut_marks_list_L1_sound (s : List (Int × Unit) × List Int) {Φ : List Int → Prop} {rec1 : (List (Int × Unit) × List Int) → Prop} {o} (h : cut_marks_list_L1_S s = some o) (hK : (orK rec1 Φ) o) : cut_marks_list_L1 Φ s rec1 := by
  obtain ⟨lst, v1⟩ := s
  unfold cut_marks_list_L1_S at h
  unfold cut_marks_list_L1
  cases lst with
  | nil => exact have t := lfS h hK; t
  | cons _ _ => exact adS h fun h => have t := lfS h hK; t
def cut_marks_list_S (x0 : List Bool) : Option (List Int) :=
  Option.bind (cut_marks_members_1_S x0) fun l4 =>
  loopS (cut_marks_list_L1_S) 100000 (l4, ([] : List Int))
theorem cut_marks_list_sound (x0 : List Bool) {Φ : List Int → Prop} {o} (h : cut_marks_list_S x0 = some o) (hK : Φ o) : cut_marks_list_W x0 Φ := by
  unfold cut_marks_list_S at h
  unfold cut_marks_list_W
  exact blS h fun _ hv h => ⟨_, cut_marks_members_1_sound _ hv, LoopW.of_S (fun s q rec hs hq => cut_marks_list_L1_sound s hs hq) _ _ h hK⟩
def cut_Least_L1_S (x1 : List Int) : (Unit) → Option ((Unit) ⊕ (List Int × Int))
  | _ =>
    if 0 < (([x1] : List (List Int)).length : Int) then
      if inX 0 ([x1] : List (List Int)).length then
      none
      else none
    else
      if (0 : Int) ≠ 0 then
        some (.inr (([] : List Int), 0))
      else
        none
theorem cut_Least_L1_sound (x1 : List Int) (s : Unit) {Φ : List Int × Int → Prop} {rec1 : (Unit) → Prop} {o} (h : cut_Least_L1_S x1 s = some o) (hK : (orK rec1 Φ) o) : cut_Least_L1 x1 Φ s rec1 := by
  unfold cut_Least_L1_S at h
  unfold cut_Least_L1
  exact ifS h (fun h => adS h fun h => (by cases h)) fun h => ifS h (fun h => have t := lfS h hK; t) fun h => (by cases h)
def cut_Least_L5_S (x0 : api_History) (v5 : List Int) (v6 : List Int) (v12 : Int × Unit) (r13 : List (Int × Unit)) : (Int × List Bool) → Option ((Int × List Bool) ⊕ ((List (Int × Unit) × List Bool) ⊕ ((Int × List (List Bool)) ⊕ ((Int × List Int × List Int) ⊕ (List Int × Int)))))
  | (v14, v15) =>
    if v14 < (x0.Writes.length : Int) then
      if inX v14 v15.length then
      if (ix v15 v14) = true then
        if inX v14 v15.length then
        if inI (v14 + 1) then
        some (.inl ((v14 + 1), (put v15 v14 true)))
        else none
        else none
      else
        Option.bind (cut_relation_before_S (Ptr.mk (cut_relation.mk (x0.Writes.length : Int) (x0.Events.length : Int) v5 v6)) v14 v12.1) fun z =>
        let v16 : Bool × Unit := (z, ())
        if inX v14 v15.length then
        if inI (v14 + 1) then
        some (.inl ((v14 + 1), (put v15 v14 v16.1)))
        else none
        else none
      else none
    else
      some (.inr (.inl (r13, v15)))
theorem cut_Least_L5_sound (x0 : api_History) (v5 : List Int) (v6 : List Int) (v12 : Int × Unit) (r13 : List (Int × Unit)) (s : Int × List Bool) {Φ : List Int × Int → Prop} {rec2 : (Int × List Int × List Int) → Prop} {rec3 : (Int × List (List Bool)) → Prop} {rec4 : (List (Int × Unit) × List Bool) → Prop} {rec5 : (Int × List Bool) → Prop} {o} (h : cut_Least_L5_S x0 v5 v6 v12 r13 s = some o) (hK : (orK rec5 (orK rec4 (orK rec3 (orK rec2 Φ)))) o) : cut_Least_L5 x0 v5 v6 rec4 v12 r13 Φ s rec5 := by
  obtain ⟨v14, v15⟩ := s
  unfold cut_Least_L5_S at h
  unfold cut_Least_L5
  exact ifS h (fun h => adS h fun h => ifS h (fun h => adS h fun h => adS h fun h => have t := lfS h hK; t) fun h => blS h fun _ hv h => ⟨_, cut_relation_before_sound _ _ _ hv rfl, adS h fun h => adS h fun h => have t := lfS h hK; t⟩) fun h => have t := lfS h hK; t
def cut_Least_L4_S (x0 : api_History) (v5 : List Int) (v6 : List Int) : (List (Int × Unit) × List Bool) → Option ((List (Int × Unit) × List Bool) ⊕ ((Int × List (List Bool)) ⊕ ((Int × List Int × List Int) ⊕ (List Int × Int))))
  | (lst, v11) =>
    match lst with
    | [] =>
      Option.bind (cut_marks_list_S v11) fun v17 =>
      some (.inr (.inr (.inr (v17, 0))))
    | v12 :: r13 =>
      loopS (cut_Least_L5_S x0 v5 v6 v12 r13) 100000 (0, v11)
theorem cut_Least_L4_sound (x0 : api_History) (v5 : List Int) (v6 : List Int) (s : List (Int × Unit) × List Bool) {Φ : List Int × Int → Prop} {rec2 : (Int × List Int × List Int) → Prop} {rec3 : (Int × List (List Bool)) → Prop} {rec4 : (List (Int × Unit) × List Bool) → Prop} {o} (h : cut_Least_L4_S x0 v5 v6 s = some o) (hK : (orK rec4 (orK rec3 (orK rec2 Φ))) o) : cut_Least_L4 x0 v5 v6 Φ s rec4 := by
  obtain ⟨lst, v11⟩ := s
  unfold cut_Least_L4_S at h
  unfold cut_Least_L4
  cases lst with
  | nil => exact blS h fun _ hv h => cut_marks_list_sound _ hv (have t := lfS h hK; t)
  | cons _ _ => exact LoopW.of_S (fun s q rec hs hq => cut_Least_L5_sound _ _ _ _ _ s hs hq) _ _ h hK
def cut_Least_L3_S (x0 : api_History) (x1 : List Int) (v5 : List Int) (v6 : List Int) : (Int × List (List Bool)) → Option ((Int × List (List Bool)) ⊕ ((Int × List Int × List Int) ⊕ (List Int × Int)))
  | (v7, v8) =>
    if v7 < (([x1] : List (List Int)).length : Int) then
      if inX v7 ([x1] : List (List Int)).length then
      Option.bind (cut_relation_mark_S (Ptr.mk (cut_relation.mk (x0.Writes.length : Int) (x0.Events.length : Int) v5 v6)) (ix ([x1] : List (List Int)) v7)) fun v9 =>
      if ¬ (v9.2 = true) then
        if (2 : Int) ≠ 0 then
          some (.inr (.inr (([] : List Int), 2)))
        else
          none
      else
        if lenOk (v8 ++ ([v9.1] : List (List Bool))).length 24 then
        if inI (v7 + 1) then
        some (.inl ((v7 + 1), (v8 ++ ([v9.1] : List (List Bool)))))
        else none
        else none
      else none
    else
      if (0 : Int) ≠ 0 then
        some (.inr (.inr (([] : List Int), 0)))
      else
        if inX 0 v8.length then
        Option.bind (slices_Clone_cut_marks_bool_S (ix v8 0)) fun v10 =>
        if inX 0 v8.length then
        Option.bind (cut_marks_members_1_S (ix v8 0)) fun l18 =>
        loopS (cut_Least_L4_S x0 v5 v6) 100000 (l18, v10)
        else none
        else none
theorem cut_Least_L3_sound (x0 : api_History) (x1 : List Int) (v5 : List Int) (v6 : List Int) (s : Int × List (List Bool)) {Φ : List Int × Int → Prop} {rec2 : (Int × List Int × List Int) → Prop} {rec3 : (Int × List (List Bool)) → Prop} {o} (h : cut_Least_L3_S x0 x1 v5 v6 s = some o) (hK : (orK rec3 (orK rec2 Φ)) o) : cut_Least_L3 x0 x1 v5 v6 Φ s rec3 := by
  obtain ⟨v7, v8⟩ := s
  unfold cut_Least_L3_S at h
  unfold cut_Least_L3
  exact ifS h (fun h => adS h fun h => blS h fun _ hv h => cut_relation_mark_sound _ _ hv (ifS h (fun h => ifS h (fun h => have t := lfS h hK; t) fun h => (by cases h)) fun h => adS h fun h => adS h fun h => have t := lfS h hK; t)) fun h => ifS h (fun h => have t := lfS h hK; t) fun h => adS h fun h => blS h fun _ hv h => slices_Clone_cut_marks_bool_sound _ hv (adS h fun h => blS h fun _ hv h => ⟨_, cut_marks_members_1_sound _ hv, LoopW.of_S (fun s q rec hs hq => cut_Least_L4_sound _ _ _ s hs hq) _ _ h hK⟩)
def cut_Least_L2_S (x0 : api_History) (x1 : List Int) : (Int × List Int × List Int) → Option ((Int × List Int × List Int) ⊕ (List Int × Int))
  | (v4, v5, v6) =>
    if v4 < (x0.Events.length : Int) then
      if inX v4 x0.Events.length then
      if ((ix x0.Events v4).Kind) = 0 then
        if inX ((ix x0.Events v4).Write) v5.length then
        if inI (v4 + 1) then
        some (.inl ((v4 + 1), (put v5 ((ix x0.Events v4).Write) v4), v6))
        else none
        else none
      else
        if inX ((ix x0.Events v4).Write) v6.length then
        if inI (v4 + 1) then
        some (.inl ((v4 + 1), v5, (put v6 ((ix x0.Events v4).Write) v4)))
        else none
        else none
      else none
    else
      if (0 : Int) ≠ 0 then
        if (0 : Int) ≠ 0 then
          some (.inr (([] : List Int), 0))
        else
          none
      else
        loopS (cut_Least_L3_S x0 x1 v5 v6) 100000 (0, ([] : List (List Bool)))
theorem cut_Least_L2_sound (x0 : api_History) (x1 : List Int) (s : Int × List Int × List Int) {Φ : List Int × Int → Prop} {rec2 : (Int × List Int × List Int) → Prop} {o} (h : cut_Least_L2_S x0 x1 s = some o) (hK : (orK rec2 Φ) o) : cut_Least_L2 x0 x1 Φ s rec2 := by
  obtain ⟨v4, v5, v6⟩ := s
  unfold cut_Least_L2_S at h
  unfold cut_Least_L2
  exact ifS h (fun h => adS h fun h => ifS h (fun h => adS h fun h => adS h fun h => have t := lfS h hK; t) fun h => adS h fun h => adS h fun h => have t := lfS h hK; t) fun h => ifS h (fun h => ifS h (fun h => have t := lfS h hK; t) fun h => (by cases h)) fun h => LoopW.of_S (fun s q rec hs hq => cut_Least_L3_sound _ _ _ _ s hs hq) _ _ h hK
def cut_Least_S (x0 : api_History) (x1 : List Int) : Option (List Int × Int) :=
  Option.bind (history_Check_S x0) fun v1 =>
  if v1 ≠ 0 then
    if v1 ≠ 0 then
      if v1 ≠ 0 then
        some ((([] : List Int), v1))
      else
        none
    else
      loopS (cut_Least_L1_S x1) 100000 ()
  else
    Option.bind (slices_Repeat_int_int_S ([(x0.Events.length : Int)] : List Int) (x0.Writes.length : Int)) fun z =>
    let v2 : List Int × Unit := (z, ())
    Option.bind (slices_Repeat_int_int_S ([(x0.Events.length : Int)] : List Int) (x0.Writes.length : Int)) fun z =>
    let v3 : List Int × Unit := (z, ())
    loopS (cut_Least_L2_S x0 x1) 100000 (0, v2.1, v3.1)
theorem cut_Least_sound (x0 : api_History) (x1 : List Int) {Φ : List Int × Int → Prop} {o} (h : cut_Least_S x0 x1 = some o) (hK : Φ o) : cut_Least_W x0 x1 Φ := by
  unfold cut_Least_S at h
  unfold cut_Least_W
  exact blS h fun _ hv h => history_Check_sound _ hv (ifS h (fun h => ifS h (fun h => ifS h (fun h => have t := lfS h hK; t) fun h => (by cases h)) fun h => LoopW.of_S (fun s q rec hs hq => cut_Least_L1_sound _ s hs hq) _ _ h hK) fun h => blS h fun _ hv h => ⟨_, slices_Repeat_int_int_sound _ _ hv rfl, blS h fun _ hv h => ⟨_, slices_Repeat_int_int_sound _ _ hv rfl, LoopW.of_S (fun s q rec hs hq => cut_Least_L2_sound _ _ s hs hq) _ _ h hK⟩⟩)
def history_checked_isSet_L1_S (x0 : history_checked) (x1 : List Int) : (Int) → Option ((Int) ⊕ (Bool))
  | v1 =>
    if v1 < (x1.length : Int) then
      if inX v1 x1.length then
      if (ix x1 v1) < 0 then
        some (.inr false)
      else
        if (x0.History.Writes.length : Int) ≤ (ix x1 v1) then
          some (.inr false)
        else
          if 0 < v1 then
            if inI (v1 - 1) then
            if inX (v1 - 1) x1.length then
            if (ix x1 v1) ≤ (ix x1 (v1 - 1)) then
              some (.inr false)
            else
              if inI (v1 + 1) then
              some (.inl (v1 + 1))
              else none
            else none
            else none
          else
            if inI (v1 + 1) then
            some (.inl (v1 + 1))
            else none
      else none
    else
      some (.inr true)
theorem history_checked_isSet_L1_sound (x0 : history_checked) (x1 : List Int) (s : Int) {Φ : Bool → Prop} {rec1 : (Int) → Prop} {o} (h : history_checked_isSet_L1_S x0 x1 s = some o) (hK : (orK rec1 Φ) o) : history_checked_isSet_L1 x0 x1 Φ s rec1 := by
  unfold history_checked_isSet_L1_S at h
  unfold history_checked_isSet_L1
  exact ifS h (fun h => adS h fun h => ifS h (fun h => have t := lfS h hK; t) fun h => ifS h (fun h => have t := lfS h hK; t) fun h => ifS h (fun h => adS h fun h => adS h fun h => ifS h (fun h => have t := lfS h hK; t) fun h => adS h fun h => have t := lfS h hK; t) fun h => adS h fun h => have t := lfS h hK; t) fun h => have t := lfS h hK; t
def history_checked_isSet_S (x0 : history_checked) (x1 : List Int) : Option (Bool) :=
  loopS (history_checked_isSet_L1_S x0 x1) 100000 0
theorem history_checked_isSet_sound (x0 : history_checked) (x1 : List Int) {Φ : Bool → Prop} {o} (h : history_checked_isSet_S x0 x1 = some o) (hK : Φ o) : history_checked_isSet_W x0 x1 Φ := by
  unfold history_checked_isSet_S at h
  unfold history_checked_isSet_W
  exact LoopW.of_S (fun s q rec hs hq => history_checked_isSet_L1_sound _ _ s hs hq) _ _ h hK
def history_checked_members_1_L1_S (x0 : List Int) (x1 : history_checked) : (Int) → Option (List (Int × api_Write × Unit) × ((Int) ⊕ (Unit)))
  | v1 =>
    if v1 < (x0.length : Int) then
      if inX v1 x0.length then
      if inX (ix x0 v1) x1.History.Writes.length then
      Option.map (fun q => (((ix x0 v1), (ix x1.History.Writes (ix x0 v1)), ()) :: q.1, q.2)) (
        if inI (v1 + 1) then
        some ([], .inl (v1 + 1))
        else none)
      else none
      else none
    else
      some ([], .inr ())
theorem history_checked_members_1_L1_sound (x0 : List Int) (x1 : history_checked) (s : Int) {ys : List (Int × api_Write × Unit)} {q} {r : List (Int × api_Write × Unit)} {rec1 : (List (Int × api_Write × Unit) × Int) → Prop} (h : history_checked_members_1_L1_S x0 x1 s = some (ys, q)) (hr : (orK (fun s => rec1 (r, s)) (fun _ => r = [])) q) : history_checked_members_1_L1 x0 x1 (ys ++ r, s) rec1 := by
  unfold history_checked_members_1_L1_S at h
  unfold history_checked_members_1_L1
  exact ifS h (fun h => adS h fun h => adS h fun h => mpS h fun q_ h_ he => (by obtain ⟨_, _⟩ := q_; cases he; exact ⟨rfl, (have h := h_; adS h fun h => (by cases h; exact hr)), trivial⟩)) fun h => (by cases h; exact hr)
def history_checked_members_1_S0 (x0 : List Int) (x1 : history_checked) : Option (List (Int × api_Write × Unit) × Unit) :=
  genS (history_checked_members_1_L1_S x0 x1) 100000 0
def history_checked_members_1_S (x0 : List Int) (x1 : history_checked) : Option (List (Int × api_Write × Unit)) := Option.map Prod.fst (history_checked_members_1_S0 x0 x1)
theorem history_checked_members_1_sound (x0 : List Int) (x1 : history_checked) {l : List (Int × api_Write × Unit)} (h : history_checked_members_1_S x0 x1 = some l) : history_checked_members_1_I x0 x1 l := by
  obtain ⟨⟨ys, q⟩, h0, h1⟩ := Option.map_eq_some_iff.1 h
  clear h
  have h := h0
  subst h1
  unfold history_checked_members_1_S0 at h
  unfold history_checked_members_1_I
  have hr : (fun _ => ([] : List (Int × api_Write × Unit)) = []) q := rfl
  rw [← List.append_nil ys]
  exact LoopW.of_G (K := fun r => (fun _ => r = [])) (fun s ys q r rec hs hr => history_checked_members_1_L1_sound _ _ s hs hr) _ _ _ h hr
def slices_Clone_api_Sector_api_Sector_S (x0 : List Sec) : Option (List Sec) :=
  bothS (decide (x0 = [])) (
    some (([] : List Sec))) (
    if lenOk (([] : List Sec) ++ x0).length 8 then
    some ((([] : List Sec) ++ x0))
    else none)
theorem slices_Clone_api_Sector_api_Sector_sound (x0 : List Sec) {Φ : List Sec → Prop} {o} (h : slices_Clone_api_Sector_api_Sector_S x0 = some o) (hK : Φ o) : slices_Clone_api_Sector_api_Sector_W x0 Φ := by
  unfold slices_Clone_api_Sector_api_Sector_S at h
  unfold slices_Clone_api_Sector_api_Sector_W
  exact nl2S h (fun h => have t := lfS h hK; t) fun h => adS h fun h => have t := lfS h hK; t
def image_mappedE_L1_S (x0 : List (List Sec)) : (List (List Sec) × Int) → Option ((List (List Sec) × Int) ⊕ (List (List Sec)))
  | (v12, v20) =>
    if v20 < (x0.length : Int) then
      if inX v20 x0.length then
      Option.bind (slices_Clone_api_Sector_api_Sector_S (ix x0 v20)) fun v27 =>
      if lenOk (v12 ++ [v27]).length 24 then
      if inI (v20 + 1) then
      some (.inl ((v12 ++ [v27]), v20 + 1))
      else none
      else none
      else none
    else
      some (.inr v12)
theorem image_mappedE_L1_sound (x0 : List (List Sec)) (s : List (List Sec) × Int) {Φ : List (List Sec) → Prop} {rec1 : (List (List Sec) × Int) → Prop} {o} (h : image_mappedE_L1_S x0 s = some o) (hK : (orK rec1 Φ) o) : image_mappedE_L1 x0 Φ s rec1 := by
  obtain ⟨v12, v20⟩ := s
  unfold image_mappedE_L1_S at h
  unfold image_mappedE_L1
  exact ifS h (fun h => adS h fun h => blS h fun _ hv h => slices_Clone_api_Sector_api_Sector_sound _ hv (adS h fun h => adS h fun h => have t := lfS h hK; t)) fun h => have t := lfS h hK; t
def image_mappedE_S (x0 : List (List Sec)) : Option (List (List Sec)) :=
  if 0 ≤ (x0.length : Int) then
  if lenOk (x0.length : Int).toNat 24 then
  loopS (image_mappedE_L1_S x0) 100000 (([] : List (List Sec)), 0)
  else none
  else none
theorem image_mappedE_sound (x0 : List (List Sec)) {Φ : List (List Sec) → Prop} {o} (h : image_mappedE_S x0 = some o) (hK : Φ o) : image_mappedE_W x0 Φ := by
  unfold image_mappedE_S at h
  unfold image_mappedE_W
  exact adS h fun h => adS h fun h => LoopW.of_S (fun s q rec hs hq => image_mappedE_L1_sound _ s hs hq) _ _ h hK
def image_copiedE_S (x0 : List (List Sec)) : Option (List (List Sec)) :=
  Option.bind (image_mappedE_S x0) fun v2 =>
  some (v2)
theorem image_copiedE_sound (x0 : List (List Sec)) {Φ : List (List Sec) → Prop} {o} (h : image_copiedE_S x0 = some o) (hK : Φ o) : image_copiedE_W x0 Φ := by
  unfold image_copiedE_S at h
  unfold image_copiedE_W
  exact blS h fun _ hv h => image_mappedE_sound _ hv (have t := lfS h hK; t)
def image_Apply_L1_S (x1 : List api_Write) : (List (List Sec) × Int) → Option ((List (List Sec) × Int) ⊕ (List (List Sec) × Int × Int))
  | (v16, v24) =>
    if v24 < (x1.length : Int) then
      if inX v24 x1.length then
      Option.bind (image_fits_S v16 (ix x1 v24)) fun v38 =>
      if v38 ≠ 0 then
        some (.inr (([] : List (List Sec)), v24, v38))
      else
        if inX ((ix x1 v24).Volume) v16.length then
        if inS ((ix x1 v24).Start) ((ix v16 ((ix x1 v24).Volume)).length : Int) (ix v16 ((ix x1 v24).Volume)).length then
        if inI (v24 + 1) then
        some (.inl ((put v16 ((ix x1 v24).Volume) (paste (ix v16 ((ix x1 v24).Volume)) ((ix x1 v24).Start) ((ix x1 v24).Data))), v24 + 1))
        else none
        else none
        else none
      else none
    else
      some (.inr (v16, 0, 0))
theorem image_Apply_L1_sound (x1 : List api_Write) (s : List (List Sec) × Int) {Φ : List (List Sec) × Int × Int → Prop} {rec1 : (List (List Sec) × Int) → Prop} {o} (h : image_Apply_L1_S x1 s = some o) (hK : (orK rec1 Φ) o) : image_Apply_L1 x1 Φ s rec1 := by
  obtain ⟨v16, v24⟩ := s
  unfold image_Apply_L1_S at h
  unfold image_Apply_L1
  exact ifS h (fun h => adS h fun h => blS h fun _ hv h => image_fits_sound _ _ hv (ifS h (fun h => have t := lfS h hK; t) fun h => adS h fun h => adS h fun h => adS h fun h => have t := lfS h hK; t)) fun h => have t := lfS h hK; t
def image_Apply_S (x0 : List (List Sec)) (x1 : List api_Write) : Option (List (List Sec) × Int × Int) :=
  Option.bind (image_Check_S x0) fun v3 =>
  if v3 ≠ 0 then
    some ((([] : List (List Sec)), 0, v3))
  else
    Option.bind (image_copiedE_S x0) fun v7 =>
    loopS (image_Apply_L1_S x1) 100000 (v7, 0)
theorem image_Apply_sound (x0 : List (List Sec)) (x1 : List api_Write) {Φ : List (List Sec) × Int × Int → Prop} {o} (h : image_Apply_S x0 x1 = some o) (hK : Φ o) : image_Apply_W x0 x1 Φ := by
  unfold image_Apply_S at h
  unfold image_Apply_W
  exact blS h fun _ hv h => image_Check_sound _ hv (ifS h (fun h => have t := lfS h hK; t) fun h => blS h fun _ hv h => image_copiedE_sound _ hv (LoopW.of_S (fun s q rec hs hq => image_Apply_L1_sound _ s hs hq) _ _ h hK))
def history_Image_L1_S (v3 : List (List Sec) × Int) : (List (Int × api_Write × Unit) × List api_Write) → Option ((List (Int × api_Write × Unit) × List api_Write) ⊕ (List (List Sec) × Int))
  | (lst, v4) =>
    match lst with
    | [] =>
      Option.bind (image_Apply_S v3.1 v4) fun v7 =>
      some (.inr (v7.1, v7.2.2))
    | v5 :: r6 =>
      if lenOk (v4 ++ ([v5.2.1] : List api_Write)).length 40 then
      some (.inl (r6, (v4 ++ ([v5.2.1] : List api_Write))))
      else none
theorem history_Image_L1_sound (v3 : List (List Sec) × Int) (s : List (Int × api_Write × Unit) × List api_Write) {Φ : List (List Sec) × Int → Prop} {rec1 : (List (Int × api_Write × Unit) × List api_Write) → Prop} {o} (h : history_Image_L1_S v3 s = some o) (hK : (orK rec1 Φ) o) : history_Image_L1 v3 Φ s rec1 := by
  obtain ⟨lst, v4⟩ := s
  unfold history_Image_L1_S at h
  unfold history_Image_L1
  cases lst with
  | nil => exact blS h fun _ hv h => image_Apply_sound _ _ hv (have t := lfS h hK; t)
  | cons _ _ => exact adS h fun h => have t := lfS h hK; t
def history_Image_S (x0 : api_History) (x1 : List Int) : Option (List (List Sec) × Int) :=
  Option.bind (history_check_S x0) fun v1 =>
  if v1.2 ≠ 0 then
    some ((([] : List (List Sec)), v1.2))
  else
    Option.bind (history_checked_isSet_S v1.1 x1) fun v2 =>
    if ¬ (v2 = true) then
      some ((([] : List (List Sec)), 2))
    else
      Option.bind (image_New_S x0.Sizes) fun v3 =>
      Option.bind (history_checked_members_1_S x1 v1.1) fun l8 =>
      loopS (history_Image_L1_S v3) 100000 (l8, ([] : List api_Write))
theorem history_Image_sound (x0 : api_History) (x1 : List Int) {Φ : List (List Sec) × Int → Prop} {o} (h : history_Image_S x0 x1 = some o) (hK : Φ o) : history_Image_W x0 x1 Φ := by
  unfold history_Image_S at h
  unfold history_Image_W
  exact blS h fun _ hv h => history_check_sound _ hv (ifS h (fun h => have t := lfS h hK; t) fun h => blS h fun _ hv h => history_checked_isSet_sound _ _ hv (ifS h (fun h => have t := lfS h hK; t) fun h => blS h fun _ hv h => image_New_sound _ hv (blS h fun _ hv h => ⟨_, history_checked_members_1_sound _ _ hv, LoopW.of_S (fun s q rec hs hq => history_Image_L1_sound _ s hs hq) _ _ h hK⟩)))
def consistency_Find_J3_S (v4 : Int) : (Bool × (List (consistency_content × Int))) → Option ((Int × (List (consistency_content × Int))) ⊕ (List Int × Bool × Int))
  | (v6, v7) =>
    if ¬ (v6 = true) then
      if (1 : Int) ≠ 0 then
        some (.inr (([] : List Int), false, 1))
      else
        none
    else
      if inI (v4 + 1) then
      some (.inl ((v4 + 1), v7))
      else none
theorem consistency_Find_J3_sound (v4 : Int) (s : Bool × (List (consistency_content × Int))) {Φ : List Int × Bool × Int → Prop} {rec2 : (Int × (List (consistency_content × Int))) → Prop} {o} (h : consistency_Find_J3_S v4 s = some o) (hK : (orK rec2 Φ) o) : consistency_Find_J3 v4 rec2 Φ s := by
  obtain ⟨v6, v7⟩ := s
  unfold consistency_Find_J3_S at h
  unfold consistency_Find_J3
  exact ifS h (fun h => ifS h (fun h => have t := lfS h hK; t) fun h => (by cases h)) fun h => adS h fun h => have t := lfS h hK; t
def consistency_Find_L4_S (x0 : api_History) (v4 : Int) : (Int × (List (consistency_content × Int))) → Option ((Int × (List (consistency_content × Int))) ⊕ ((Int × (List (consistency_content × Int))) ⊕ (List Int × Bool × Int)))
  | (v8, v9) =>
    if v8 < (((ix x0.Writes v4).Data).length : Int) then
      if inX v8 ((ix x0.Writes v4).Data).length then
      if inI (((ix x0.Writes v4).Start) + v8) then
      if ¬ ((mhas v9 (consistency_content.mk (consistency_place.mk ((ix x0.Writes v4).Volume) (((ix x0.Writes v4).Start) + v8)) (ix ((ix x0.Writes v4).Data) v8))) = true) then
        if ¬ ((ix ((ix x0.Writes v4).Data) v8) ≠ sec0) then
          Option.map (fun z => .inr z) (consistency_Find_J3_S v4 (false, (mput v9 (consistency_content.mk (consistency_place.mk ((ix x0.Writes v4).Volume) (((ix x0.Writes v4).Start) + v8)) (ix ((ix x0.Writes v4).Data) v8)) v4)))
        else
          if inI (v8 + 1) then
          some (.inl ((v8 + 1), (mput v9 (consistency_content.mk (consistency_place.mk ((ix x0.Writes v4).Volume) (((ix x0.Writes v4).Start) + v8)) (ix ((ix x0.Writes v4).Data) v8)) v4)))
          else none
      else
        Option.map (fun z => .inr z) (consistency_Find_J3_S v4 (false, (mput v9 (consistency_content.mk (consistency_place.mk ((ix x0.Writes v4).Volume) (((ix x0.Writes v4).Start) + v8)) (ix ((ix x0.Writes v4).Data) v8)) v4)))
      else none
      else none
    else
      Option.map (fun z => .inr z) (consistency_Find_J3_S v4 (true, v9))
theorem consistency_Find_L4_sound (x0 : api_History) (v4 : Int) (s : Int × (List (consistency_content × Int))) {Φ : List Int × Bool × Int → Prop} {rec2 : (Int × (List (consistency_content × Int))) → Prop} {rec4 : (Int × (List (consistency_content × Int))) → Prop} {o} (h : consistency_Find_L4_S x0 v4 s = some o) (hK : (orK rec4 (orK rec2 Φ)) o) : consistency_Find_L4 x0 v4 rec2 Φ s rec4 := by
  obtain ⟨v8, v9⟩ := s
  unfold consistency_Find_L4_S at h
  unfold consistency_Find_L4
  exact ifS h (fun h => adS h fun h => adS h fun h => ifS h (fun h => ifS h (fun h => mpS h fun _ hx he => consistency_Find_J3_sound _ _ hx (by subst he; exact hK)) fun h => adS h fun h => have t := lfS h hK; t) fun h => mpS h fun _ hx he => consistency_Find_J3_sound _ _ hx (by subst he; exact hK)) fun h => mpS h fun _ hx he => consistency_Find_J3_sound _ _ hx (by subst he; exact hK)
def consistency_Find_J6_S (v10 : Int) (v11 : List Int) : (Bool) → Option ((Int × (List (consistency_content × Int))) ⊕ (List Int × Bool × Int))
  | v13 =>
    if v13 = true then
      some (.inr (([] : List Int), false, v10))
    else
      some (.inr (v11, true, 0))
theorem consistency_Find_J6_sound (v10 : Int) (v11 : List Int) (s : Bool) {Φ : List Int × Bool × Int → Prop} {rec2 : (Int × (List (consistency_content × Int))) → Prop} {o} (h : consistency_Find_J6_S v10 v11 s = some o) (hK : (orK rec2 Φ) o) : consistency_Find_J6 v10 v11 Φ s := by
  unfold consistency_Find_J6_S at h
  unfold consistency_Find_J6
  exact ifS h (fun h => have t := lfS h hK; t) fun h => have t := lfS h hK; t
def consistency_Find_J5_S : (Int × List Int × Bool) → Option ((Int × (List (consistency_content × Int))) ⊕ (List Int × Bool × Int))
  | (v10, v11, v12) =>
    if v10 ≠ 0 then
      consistency_Find_J6_S v10 v11 true
    else
      consistency_Find_J6_S v10 v11 v12
theorem consistency_Find_J5_sound (s : Int × List Int × Bool) {Φ : List Int × Bool × Int → Prop} {rec2 : (Int × (List (consistency_content × Int))) → Prop} {o} (h : consistency_Find_J5_S s = some o) (hK : (orK rec2 Φ) o) : consistency_Find_J5 Φ s := by
  obtain ⟨v10, v11, v12⟩ := s
  unfold consistency_Find_J5_S at h
  unfold consistency_Find_J5
  exact ifS h (fun h => consistency_Find_J6_sound _ _ _ h hK) fun h => consistency_Find_J6_sound _ _ _ h hK
def consistency_Find_J9_S (v21 : List Int × Int) : (Bool × Int × Int × List Sec) → Option ((Int × List Int) ⊕ ((Int × (List (consistency_content × Int))) ⊕ (List Int × Bool × Int)))
  | (v23, _, _, _) =>
    Option.map (fun z => .inr z) (consistency_Find_J5_S (0, v21.1, v23))
theorem consistency_Find_J9_sound (v21 : List Int × Int) (s : Bool × Int × Int × List Sec) {Φ : List Int × Bool × Int → Prop} {rec2 : (Int × (List (consistency_content × Int))) → Prop} {rec8 : (Int × List Int) → Prop} {o} (h : consistency_Find_J9_S v21 s = some o) (hK : (orK rec8 (orK rec2 Φ)) o) : consistency_Find_J9 v21 Φ s := by
  obtain ⟨v23, v24, v25, v26⟩ := s
  unfold consistency_Find_J9_S at h
  unfold consistency_Find_J9
  exact mpS h fun _ hx he => consistency_Find_J5_sound _ hx (by subst he; exact hK)
def consistency_Find_L11_S (x1 : List (List Sec)) (v14 : Bool) (v15 : Int) (v16 : Int) (v18 : List Sec) (v21 : List Int × Int) (v22 : List (List Sec) × Int) (v27 : Int) : (Int) → Option ((Int) ⊕ ((Int) ⊕ ((Int × List Int) ⊕ ((Int × (List (consistency_content × Int))) ⊕ (List Int × Bool × Int)))))
  | v28 =>
    if v28 < ((ix v22.1 v27).length : Int) then
      if inX v28 (ix v22.1 v27).length then
      if inX v27 x1.length then
      if inX v28 (ix x1 v27).length then
      if (ix (ix v22.1 v27) v28) ≠ (ix (ix x1 v27) v28) then
        Option.bind (consistency_single_S (consistency_place.mk v27 v28) (ix (ix v22.1 v27) v28)) fun v29 =>
        Option.map (fun z => .inr (.inr z)) (consistency_Find_J9_S v21 (true, v29.Volume, v29.Start, v29.Data))
      else
        if ¬ (¬ (v14 = true)) then
          Option.map (fun z => .inr (.inr z)) (consistency_Find_J9_S v21 (v14, v15, v16, v18))
        else
          if inI (v28 + 1) then
          some (.inl (v28 + 1))
          else none
      else none
      else none
      else none
    else
      if inI (v27 + 1) then
      some (.inr (.inl (v27 + 1)))
      else none
theorem consistency_Find_L11_sound (x1 : List (List Sec)) (v14 : Bool) (v15 : Int) (v16 : Int) (v18 : List Sec) (v21 : List Int × Int) (v22 : List (List Sec) × Int) (v27 : Int) (s : Int) {Φ : List Int × Bool × Int → Prop} {rec2 : (Int × (List (consistency_content × Int))) → Prop} {rec8 : (Int × List Int) → Prop} {rec10 : (Int) → Prop} {rec11 : (Int) → Prop} {o} (h : consistency_Find_L11_S x1 v14 v15 v16 v18 v21 v22 v27 s = some o) (hK : (orK rec11 (orK rec10 (orK rec8 (orK rec2 Φ)))) o) : consistency_Find_L11 x1 v14 v15 v16 v18 v21 v22 v27 rec10 Φ s rec11 := by
  unfold consistency_Find_L11_S at h
  unfold consistency_Find_L11
  exact ifS h (fun h => adS h fun h => adS h fun h => adS h fun h => ifS h (fun h => blS h fun _ hv h => consistency_single_sound _ _ hv (mpS h fun _ hx he => consistency_Find_J9_sound _ _ hx (by subst he; exact hK))) fun h => ifS h (fun h => mpS h fun _ hx he => consistency_Find_J9_sound _ _ hx (by subst he; exact hK)) fun h => adS h fun h => have t := lfS h hK; t) fun h => adS h fun h => have t := lfS h hK; t
def consistency_Find_L10_S (x1 : List (List Sec)) (v14 : Bool) (v15 : Int) (v16 : Int) (v18 : List Sec) (v21 : List Int × Int) (v22 : List (List Sec) × Int) : (Int) → Option ((Int) ⊕ ((Int × List Int) ⊕ ((Int × (List (consistency_content × Int))) ⊕ (List Int × Bool × Int))))
  | v27 =>
    if v27 < (v22.1.length : Int) then
      if inX v27 v22.1.length then
      loopS (consistency_Find_L11_S x1 v14 v15 v16 v18 v21 v22 v27) 100000 0
      else none
    else
      Option.map (fun z => .inr z) (consistency_Find_J9_S v21 (v14, v15, v16, v18))
theorem consistency_Find_L10_sound (x1 : List (List Sec)) (v14 : Bool) (v15 : Int) (v16 : Int) (v18 : List Sec) (v21 : List Int × Int) (v22 : List (List Sec) × Int) (s : Int) {Φ : List Int × Bool × Int → Prop} {rec2 : (Int × (List (consistency_content × Int))) → Prop} {rec8 : (Int × List Int) → Prop} {rec10 : (Int) → Prop} {o} (h : consistency_Find_L10_S x1 v14 v15 v16 v18 v21 v22 s = some o) (hK : (orK rec10 (orK rec8 (orK rec2 Φ))) o) : consistency_Find_L10 x1 v14 v15 v16 v18 v21 v22 Φ s rec10 := by
  unfold consistency_Find_L10_S at h
  unfold consistency_Find_L10
  exact ifS h (fun h => adS h fun h => LoopW.of_S (fun s q rec hs hq => consistency_Find_L11_sound _ _ _ _ _ _ _ _ s hs hq) _ _ h hK) fun h => mpS h fun _ hx he => consistency_Find_J9_sound _ _ hx (by subst he; exact hK)
def consistency_Find_L8_S (x0 : api_History) (x1 : List (List Sec)) (v14 : Bool) (v15 : Int) (v16 : Int) (v17 : List (Int × Bool)) (v18 : List Sec) : (Int × List Int) → Option ((Int × List Int) ⊕ ((Int × (List (consistency_content × Int))) ⊕ (List Int × Bool × Int)))
  | (v19, v20) =>
    if v19 < (x0.Writes.length : Int) then
      if (mget v17 v19 false) = true then
        if lenOk (v20 ++ ([v19] : List Int)).length 8 then
        if inI (v19 + 1) then
        some (.inl ((v19 + 1), (v20 ++ ([v19] : List Int))))
        else none
        else none
      else
        if inI (v19 + 1) then
        some (.inl ((v19 + 1), v20))
        else none
    else
      Option.bind (cut_Least_S x0 v20) fun v21 =>
      if v21.2 ≠ 0 then
        Option.map (fun z => .inr z) (consistency_Find_J5_S (v21.2, ([] : List Int), false))
      else
        Option.bind (history_Image_S x0 v21.1) fun v22 =>
        if v22.2 ≠ 0 then
          Option.map (fun z => .inr z) (consistency_Find_J5_S (v22.2, ([] : List Int), false))
        else
          loopS (consistency_Find_L10_S x1 v14 v15 v16 v18 v21 v22) 100000 0
theorem consistency_Find_L8_sound (x0 : api_History) (x1 : List (List Sec)) (v14 : Bool) (v15 : Int) (v16 : Int) (v17 : List (Int × Bool)) (v18 : List Sec) (s : Int × List Int) {Φ : List Int × Bool × Int → Prop} {rec2 : (Int × (List (consistency_content × Int))) → Prop} {rec8 : (Int × List Int) → Prop} {o} (h : consistency_Find_L8_S x0 x1 v14 v15 v16 v17 v18 s = some o) (hK : (orK rec8 (orK rec2 Φ)) o) : consistency_Find_L8 x0 x1 v14 v15 v16 v17 v18 Φ s rec8 := by
  obtain ⟨v19, v20⟩ := s
  unfold consistency_Find_L8_S at h
  unfold consistency_Find_L8
  exact ifS h (fun h => ifS h (fun h => adS h fun h => adS h fun h => have t := lfS h hK; t) fun h => adS h fun h => have t := lfS h hK; t) fun h => blS h fun _ hv h => cut_Least_sound _ _ hv (ifS h (fun h => mpS h fun _ hx he => consistency_Find_J5_sound _ hx (by subst he; exact hK)) fun h => blS h fun _ hv h => history_Image_sound _ _ hv (ifS h (fun h => mpS h fun _ hx he => consistency_Find_J5_sound _ hx (by subst he; exact hK)) fun h => LoopW.of_S (fun s q rec hs hq => consistency_Find_L10_sound _ _ _ _ _ _ _ s hs hq) _ _ h hK))
def consistency_Find_J7_S (x0 : api_History) (x1 : List (List Sec)) : (Bool × Int × Int × (List (Int × Bool)) × List Sec) → Option ((Int × (List (consistency_content × Int))) ⊕ (List Int × Bool × Int))
  | (v14, v15, v16, v17, v18) =>
    if v14 = true then
      consistency_Find_J5_S (0, ([] : List Int), true)
    else
      loopS (consistency_Find_L8_S x0 x1 v14 v15 v16 v17 v18) 100000 (0, ([] : List Int))
theorem consistency_Find_J7_sound (x0 : api_History) (x1 : List (List Sec)) (s : Bool × Int × Int × (List (Int × Bool)) × List Sec) {Φ : List Int × Bool × Int → Prop} {rec2 : (Int × (List (consistency_content × Int))) → Prop} {o} (h : consistency_Find_J7_S x0 x1 s = some o) (hK : (orK rec2 Φ) o) : consistency_Find_J7 x0 x1 Φ s := by
  obtain ⟨v14, v15, v16, v17, v18⟩ := s
  unfold consistency_Find_J7_S at h
  unfold consistency_Find_J7
  exact ifS h (fun h => consistency_Find_J5_sound _ h hK) fun h => LoopW.of_S (fun s q rec hs hq => consistency_Find_L8_sound _ _ _ _ _ _ _ s hs hq) _ _ h hK
def consistency_Find_L13_S (x0 : api_History) (x1 : List (List Sec)) (v5 : List (consistency_content × Int)) (v30 : Int) : (Int × (List (Int × Bool))) → Option ((Int × (List (Int × Bool))) ⊕ ((Int × (List (Int × Bool))) ⊕ ((Int × (List (consistency_content × Int))) ⊕ (List Int × Bool × Int))))
  | (v32, v33) =>
    if v32 < ((ix x1 v30).length : Int) then
      if inX v32 (ix x1 v30).length then
      if (ix (ix x1 v30) v32) = sec0 then
        if inI (v32 + 1) then
        some (.inl ((v32 + 1), v33))
        else none
      else
        if ¬ ((mhas v5 (consistency_content.mk (consistency_place.mk v30 v32) (ix (ix x1 v30) v32))) = true) then
          Option.bind (consistency_single_S (consistency_place.mk v30 v32) (ix (ix x1 v30) v32)) fun v34 =>
          Option.map (fun z => .inr (.inr z)) (consistency_Find_J7_S x0 x1 (true, v34.Volume, v34.Start, v33, v34.Data))
        else
          if inI (v32 + 1) then
          some (.inl ((v32 + 1), (mput v33 (mget v5 (consistency_content.mk (consistency_place.mk v30 v32) (ix (ix x1 v30) v32)) 0) true)))
          else none
      else none
    else
      if inI (v30 + 1) then
      some (.inr (.inl ((v30 + 1), v33)))
      else none
theorem consistency_Find_L13_sound (x0 : api_History) (x1 : List (List Sec)) (v5 : List (consistency_content × Int)) (v30 : Int) (s : Int × (List (Int × Bool))) {Φ : List Int × Bool × Int → Prop} {rec2 : (Int × (List (consistency_content × Int))) → Prop} {rec12 : (Int × (List (Int × Bool))) → Prop} {rec13 : (Int × (List (Int × Bool))) → Prop} {o} (h : consistency_Find_L13_S x0 x1 v5 v30 s = some o) (hK : (orK rec13 (orK rec12 (orK rec2 Φ))) o) : consistency_Find_L13 x0 x1 v5 v30 rec12 Φ s rec13 := by
  obtain ⟨v32, v33⟩ := s
  unfold consistency_Find_L13_S at h
  unfold consistency_Find_L13
  exact ifS h (fun h => adS h fun h => ifS h (fun h => adS h fun h => have t := lfS h hK; t) fun h => ifS h (fun h => blS h fun _ hv h => consistency_single_sound _ _ hv (mpS h fun _ hx he => consistency_Find_J7_sound _ _ _ hx (by subst he; exact hK))) fun h => adS h fun h => have t := lfS h hK; t) fun h => adS h fun h => have t := lfS h hK; t
def consistency_Find_L12_S (x0 : api_History) (x1 : List (List Sec)) (v5 : List (consistency_content × Int)) : (Int × (List (Int × Bool))) → Option ((Int × (List (Int × Bool))) ⊕ ((Int × (List (consistency_content × Int))) ⊕ (List Int × Bool × Int)))
  | (v30, v31) =>
    if v30 < (x1.length : Int) then
      if inX v30 x1.length then
      loopS (consistency_Find_L13_S x0 x1 v5 v30) 100000 (0, v31)
      else none
    else
      Option.map (fun z => .inr z) (consistency_Find_J7_S x0 x1 (false, 0, 0, v31, ([] : List Sec)))
theorem consistency_Find_L12_sound (x0 : api_History) (x1 : List (List Sec)) (v5 : List (consistency_content × Int)) (s : Int × (List (Int × Bool))) {Φ : List Int × Bool × Int → Prop} {rec2 : (Int × (List (consistency_content × Int))) → Prop} {rec12 : (Int × (List (Int × Bool))) → Prop} {o} (h : consistency_Find_L12_S x0 x1 v5 s = some o) (hK : (orK rec12 (orK rec2 Φ)) o) : consistency_Find_L12 x0 x1 v5 Φ s rec12 := by
  obtain ⟨v30, v31⟩ := s
  unfold consistency_Find_L12_S at h
  unfold consistency_Find_L12
  exact ifS h (fun h => adS h fun h => LoopW.of_S (fun s q rec hs hq => consistency_Find_L13_sound _ _ _ _ s hs hq) _ _ h hK) fun h => mpS h fun _ hx he => consistency_Find_J7_sound _ _ _ hx (by subst he; exact hK)
def consistency_Find_L2_S (x0 : api_History) (x1 : List (List Sec)) : (Int × (List (consistency_content × Int))) → Option ((Int × (List (consistency_content × Int))) ⊕ (List Int × Bool × Int))
  | (v4, v5) =>
    if v4 < (x0.Writes.length : Int) then
      if inX v4 x0.Writes.length then
      loopS (consistency_Find_L4_S x0 v4) 100000 (0, v5)
      else none
    else
      if (0 : Int) ≠ 0 then
        some (.inr (([] : List Int), false, 0))
      else
        loopS (consistency_Find_L12_S x0 x1 v5) 100000 (0, ([] : List (Int × Bool)))
theorem consistency_Find_L2_sound (x0 : api_History) (x1 : List (List Sec)) (s : Int × (List (consistency_content × Int))) {Φ : List Int × Bool × Int → Prop} {rec2 : (Int × (List (consistency_content × Int))) → Prop} {o} (h : consistency_Find_L2_S x0 x1 s = some o) (hK : (orK rec2 Φ) o) : consistency_Find_L2 x0 x1 Φ s rec2 := by
  obtain ⟨v4, v5⟩ := s
  unfold consistency_Find_L2_S at h
  unfold consistency_Find_L2
  exact ifS h (fun h => adS h fun h => LoopW.of_S (fun s q rec hs hq => consistency_Find_L4_sound _ _ s hs hq) _ _ h hK) fun h => ifS h (fun h => have t := lfS h hK; t) fun h => LoopW.of_S (fun s q rec hs hq => consistency_Find_L12_sound _ _ _ s hs hq) _ _ h hK
def consistency_Find_J1_S (x0 : api_History) (x1 : List (List Sec)) : (Bool) → Option (List Int × Bool × Int)
  | v3 =>
    if v3 = true then
      if (22 : Int) ≠ 0 then
        some ((([] : List Int), false, 22))
      else
        none
    else
      loopS (consistency_Find_L2_S x0 x1) 100000 (0, ([] : List (consistency_content × Int)))
theorem consistency_Find_J1_sound (x0 : api_History) (x1 : List (List Sec)) (s : Bool) {Φ : List Int × Bool × Int → Prop} {o} (h : consistency_Find_J1_S x0 x1 s = some o) (hK : Φ o) : consistency_Find_J1 x0 x1 Φ s := by
  unfold consistency_Find_J1_S at h
  unfold consistency_Find_J1
  exact ifS h (fun h => ifS h (fun h => have t := lfS h hK; t) fun h => (by cases h)) fun h => LoopW.of_S (fun s q rec hs hq => consistency_Find_L2_sound _ _ s hs hq) _ _ h hK
def consistency_Find_L14_S (x0 : api_History) (x1 : List (List Sec)) : (Int) → Option ((Int) ⊕ (List Int × Bool × Int))
  | v35 =>
    if v35 < (x1.length : Int) then
      if inX v35 x1.length then
      if inX v35 x0.Sizes.length then
      Option.bind (consistency_newJudge_1_S (ix x1 v35) (ix x0.Sizes v35)) fun v36 =>
      if ¬ (v36 = true) then
        Option.map (fun z => .inr z) (consistency_Find_J1_S x0 x1 true)
      else
        if inI (v35 + 1) then
        some (.inl (v35 + 1))
        else none
      else none
      else none
    else
      Option.map (fun z => .inr z) (consistency_Find_J1_S x0 x1 false)
theorem consistency_Find_L14_sound (x0 : api_History) (x1 : List (List Sec)) (s : Int) {Φ : List Int × Bool × Int → Prop} {rec14 : (Int) → Prop} {o} (h : consistency_Find_L14_S x0 x1 s = some o) (hK : (orK rec14 Φ) o) : consistency_Find_L14 x0 x1 Φ s rec14 := by
  unfold consistency_Find_L14_S at h
  unfold consistency_Find_L14
  exact ifS h (fun h => adS h fun h => adS h fun h => blS h fun _ hv h => consistency_newJudge_1_sound _ _ hv (ifS h (fun h => mpS h fun _ hx he => consistency_Find_J1_sound _ _ _ hx (by subst he; exact hK)) fun h => adS h fun h => have t := lfS h hK; t)) fun h => mpS h fun _ hx he => consistency_Find_J1_sound _ _ _ hx (by subst he; exact hK)
def consistency_Find_S (x0 : api_History) (x1 : List (List Sec)) : Option (List Int × Bool × Int) :=
  Option.bind (history_Check_S x0) fun v1 =>
  if v1 ≠ 0 then
    if v1 ≠ 0 then
      some ((([] : List Int), false, v1))
    else
      none
  else
    Option.bind (image_Check_S x1) fun v2 =>
    if v2 ≠ 0 then
      if v2 ≠ 0 then
        some ((([] : List Int), false, v2))
      else
        none
    else
      if (x1.length : Int) ≠ (x0.Sizes.length : Int) then
        consistency_Find_J1_S x0 x1 true
      else
        loopS (consistency_Find_L14_S x0 x1) 100000 0
theorem consistency_Find_sound (x0 : api_History) (x1 : List (List Sec)) {Φ : List Int × Bool × Int → Prop} {o} (h : consistency_Find_S x0 x1 = some o) (hK : Φ o) : consistency_Find_W x0 x1 Φ := by
  unfold consistency_Find_S at h
  unfold consistency_Find_W
  exact blS h fun _ hv h => history_Check_sound _ hv (ifS h (fun h => ifS h (fun h => have t := lfS h hK; t) fun h => (by cases h)) fun h => blS h fun _ hv h => image_Check_sound _ hv (ifS h (fun h => ifS h (fun h => have t := lfS h hK; t) fun h => (by cases h)) fun h => ifS h (fun h => consistency_Find_J1_sound _ _ _ h hK) fun h => LoopW.of_S (fun s q rec hs hq => consistency_Find_L14_sound _ _ s hs hq) _ _ h hK))
def cut_Greatest_L1_S (x1 : List Int) : (Unit) → Option ((Unit) ⊕ (List Int × Int))
  | _ =>
    if 0 < (([x1] : List (List Int)).length : Int) then
      if inX 0 ([x1] : List (List Int)).length then
      none
      else none
    else
      if (0 : Int) ≠ 0 then
        some (.inr (([] : List Int), 0))
      else
        none
theorem cut_Greatest_L1_sound (x1 : List Int) (s : Unit) {Φ : List Int × Int → Prop} {rec1 : (Unit) → Prop} {o} (h : cut_Greatest_L1_S x1 s = some o) (hK : (orK rec1 Φ) o) : cut_Greatest_L1 x1 Φ s rec1 := by
  unfold cut_Greatest_L1_S at h
  unfold cut_Greatest_L1
  exact ifS h (fun h => adS h fun h => (by cases h)) fun h => ifS h (fun h => have t := lfS h hK; t) fun h => (by cases h)
def cut_Greatest_L5_S (x0 : api_History) (v5 : List Int) (v6 : List Int) (v8 : List (List Bool)) (v12 : Int × Unit) (r13 : List (Int × Unit)) : (Int × List Bool) → Option ((Int × List Bool) ⊕ ((List (Int × Unit) × List Bool) ⊕ ((Int × List (List Bool)) ⊕ ((Int × List Int × List Int) ⊕ (List Int × Int)))))
  | (v14, v15) =>
    if v14 < (x0.Writes.length : Int) then
      if inX v12.1 v15.length then
      if (ix v15 v12.1) = true then
        if inX 0 v8.length then
        if inX v14 (ix v8 0).length then
        if (ix (ix v8 0) v14) = true then
          if inX v12.1 v15.length then
          if inI (v14 + 1) then
          some (.inl ((v14 + 1), (put v15 v12.1 true)))
          else none
          else none
        else
          Option.bind (cut_relation_before_S (Ptr.mk (cut_relation.mk (x0.Writes.length : Int) (x0.Events.length : Int) v5 v6)) v14 v12.1) fun z =>
          let v16 : Bool × Unit := (z, ())
          if inX v12.1 v15.length then
          if inI (v14 + 1) then
          some (.inl ((v14 + 1), (put v15 v12.1 (decide (¬ (v16.1 = true))))))
          else none
          else none
        else none
        else none
      else
        if inX v12.1 v15.length then
        if inI (v14 + 1) then
        some (.inl ((v14 + 1), (put v15 v12.1 false)))
        else none
        else none
      else none
    else
      some (.inr (.inl (r13, v15)))
theorem cut_Greatest_L5_sound (x0 : api_History) (v5 : List Int) (v6 : List Int) (v8 : List (List Bool)) (v12 : Int × Unit) (r13 : List (Int × Unit)) (s : Int × List Bool) {Φ : List Int × Int → Prop} {rec2 : (Int × List Int × List Int) → Prop} {rec3 : (Int × List (List Bool)) → Prop} {rec4 : (List (Int × Unit) × List Bool) → Prop} {rec5 : (Int × List Bool) → Prop} {o} (h : cut_Greatest_L5_S x0 v5 v6 v8 v12 r13 s = some o) (hK : (orK rec5 (orK rec4 (orK rec3 (orK rec2 Φ)))) o) : cut_Greatest_L5 x0 v5 v6 v8 rec4 v12 r13 Φ s rec5 := by
  obtain ⟨v14, v15⟩ := s
  unfold cut_Greatest_L5_S at h
  unfold cut_Greatest_L5
  exact ifS h (fun h => adS h fun h => ifS h (fun h => adS h fun h => adS h fun h => ifS h (fun h => adS h fun h => adS h fun h => have t := lfS h hK; t) fun h => blS h fun _ hv h => ⟨_, cut_relation_before_sound _ _ _ hv rfl, adS h fun h => adS h fun h => have t := lfS h hK; t⟩) fun h => adS h fun h => adS h fun h => have t := lfS h hK; t) fun h => have t := lfS h hK; t
def cut_Greatest_L4_S (x0 : api_History) (v5 : List Int) (v6 : List Int) (v8 : List (List Bool)) : (List (Int × Unit) × List Bool) → Option ((List (Int × Unit) × List Bool) ⊕ ((Int × List (List Bool)) ⊕ ((Int × List Int × List Int) ⊕ (List Int × Int))))
  | (lst, v11) =>
    match lst with
    | [] =>
      Option.bind (cut_marks_list_S v11) fun v17 =>
      some (.inr (.inr (.inr (v17, 0))))
    | v12 :: r13 =>
      loopS (cut_Greatest_L5_S x0 v5 v6 v8 v12 r13) 100000 (0, v11)
theorem cut_Greatest_L4_sound (x0 : api_History) (v5 : List Int) (v6 : List Int) (v8 : List (List Bool)) (s : List (Int × Unit) × List Bool) {Φ : List Int × Int → Prop} {rec2 : (Int × List Int × List Int) → Prop} {rec3 : (Int × List (List Bool)) → Prop} {rec4 : (List (Int × Unit) × List Bool) → Prop} {o} (h : cut_Greatest_L4_S x0 v5 v6 v8 s = some o) (hK : (orK rec4 (orK rec3 (orK rec2 Φ))) o) : cut_Greatest_L4 x0 v5 v6 v8 Φ s rec4 := by
  obtain ⟨lst, v11⟩ := s
  unfold cut_Greatest_L4_S at h
  unfold cut_Greatest_L4
  cases lst with
  | nil => exact blS h fun _ hv h => cut_marks_list_sound _ hv (have t := lfS h hK; t)
  | cons _ _ => exact LoopW.of_S (fun s q rec hs hq => cut_Greatest_L5_sound _ _ _ _ _ _ s hs hq) _ _ h hK
def cut_Greatest_L3_S (x0 : api_History) (x1 : List Int) (v5 : List Int) (v6 : List Int) : (Int × List (List Bool)) → Option ((Int × List (List Bool)) ⊕ ((Int × List Int × List Int) ⊕ (List Int × Int)))
  | (v7, v8) =>
    if v7 < (([x1] : List (List Int)).length : Int) then
      if inX v7 ([x1] : List (List Int)).length then
      Option.bind (cut_relation_mark_S (Ptr.mk (cut_relation.mk (x0.Writes.length : Int) (x0.Events.length : Int) v5 v6)) (ix ([x1] : List (List Int)) v7)) fun v9 =>
      if ¬ (v9.2 = true) then
        if (2 : Int) ≠ 0 then
          some (.inr (.inr (([] : List Int), 2)))
        else
          none
      else
        if lenOk (v8 ++ ([v9.1] : List (List Bool))).length 24 then
        if inI (v7 + 1) then
        some (.inl ((v7 + 1), (v8 ++ ([v9.1] : List (List Bool)))))
        else none
        else none
      else none
    else
      if (0 : Int) ≠ 0 then
        some (.inr (.inr (([] : List Int), 0)))
      else
        if inX 0 v8.length then
        Option.bind (slices_Clone_cut_marks_bool_S (ix v8 0)) fun v10 =>
        if inX 0 v8.length then
        Option.bind (cut_marks_members_1_S (ix v8 0)) fun l18 =>
        loopS (cut_Greatest_L4_S x0 v5 v6 v8) 100000 (l18, v10)
        else none
        else none
theorem cut_Greatest_L3_sound (x0 : api_History) (x1 : List Int) (v5 : List Int) (v6 : List Int) (s : Int × List (List Bool)) {Φ : List Int × Int → Prop} {rec2 : (Int × List Int × List Int) → Prop} {rec3 : (Int × List (List Bool)) → Prop} {o} (h : cut_Greatest_L3_S x0 x1 v5 v6 s = some o) (hK : (orK rec3 (orK rec2 Φ)) o) : cut_Greatest_L3 x0 x1 v5 v6 Φ s rec3 := by
  obtain ⟨v7, v8⟩ := s
  unfold cut_Greatest_L3_S at h
  unfold cut_Greatest_L3
  exact ifS h (fun h => adS h fun h => blS h fun _ hv h => cut_relation_mark_sound _ _ hv (ifS h (fun h => ifS h (fun h => have t := lfS h hK; t) fun h => (by cases h)) fun h => adS h fun h => adS h fun h => have t := lfS h hK; t)) fun h => ifS h (fun h => have t := lfS h hK; t) fun h => adS h fun h => blS h fun _ hv h => slices_Clone_cut_marks_bool_sound _ hv (adS h fun h => blS h fun _ hv h => ⟨_, cut_marks_members_1_sound _ hv, LoopW.of_S (fun s q rec hs hq => cut_Greatest_L4_sound _ _ _ _ s hs hq) _ _ h hK⟩)
def cut_Greatest_L2_S (x0 : api_History) (x1 : List Int) : (Int × List Int × List Int) → Option ((Int × List Int × List Int) ⊕ (List Int × Int))
  | (v4, v5, v6) =>
    if v4 < (x0.Events.length : Int) then
      if inX v4 x0.Events.length then
      if ((ix x0.Events v4).Kind) = 0 then
        if inX ((ix x0.Events v4).Write) v5.length then
        if inI (v4 + 1) then
        some (.inl ((v4 + 1), (put v5 ((ix x0.Events v4).Write) v4), v6))
        else none
        else none
      else
        if inX ((ix x0.Events v4).Write) v6.length then
        if inI (v4 + 1) then
        some (.inl ((v4 + 1), v5, (put v6 ((ix x0.Events v4).Write) v4)))
        else none
        else none
      else none
    else
      if (0 : Int) ≠ 0 then
        if (0 : Int) ≠ 0 then
          some (.inr (([] : List Int), 0))
        else
          none
      else
        loopS (cut_Greatest_L3_S x0 x1 v5 v6) 100000 (0, ([] : List (List Bool)))
theorem cut_Greatest_L2_sound (x0 : api_History) (x1 : List Int) (s : Int × List Int × List Int) {Φ : List Int × Int → Prop} {rec2 : (Int × List Int × List Int) → Prop} {o} (h : cut_Greatest_L2_S x0 x1 s = some o) (hK : (orK rec2 Φ) o) : cut_Greatest_L2 x0 x1 Φ s rec2 := by
  obtain ⟨v4, v5, v6⟩ := s
  unfold cut_Greatest_L2_S at h
  unfold cut_Greatest_L2
  exact ifS h (fun h => adS h fun h => ifS h (fun h => adS h fun h => adS h fun h => have t := lfS h hK; t) fun h => adS h fun h => adS h fun h => have t := lfS h hK; t) fun h => ifS h (fun h => ifS h (fun h => have t := lfS h hK; t) fun h => (by cases h)) fun h => LoopW.of_S (fun s q rec hs hq => cut_Greatest_L3_sound _ _ _ _ s hs hq) _ _ h hK
def cut_Greatest_S (x0 : api_History) (x1 : List Int) : Option (List Int × Int) :=
  Option.bind (history_Check_S x0) fun v1 =>
  if v1 ≠ 0 then
    if v1 ≠ 0 then
      if v1 ≠ 0 then
        some ((([] : List Int), v1))
      else
        none
    else
      loopS (cut_Greatest_L1_S x1) 100000 ()
  else
    Option.bind (slices_Repeat_int_int_S ([(x0.Events.length : Int)] : List Int) (x0.Writes.length : Int)) fun z =>
    let v2 : List Int × Unit := (z, ())
    Option.bind (slices_Repeat_int_int_S ([(x0.Events.length : Int)] : List Int) (x0.Writes.length : Int)) fun z =>
    let v3 : List Int × Unit := (z, ())
    loopS (cut_Greatest_L2_S x0 x1) 100000 (0, v2.1, v3.1)
theorem cut_Greatest_sound (x0 : api_History) (x1 : List Int) {Φ : List Int × Int → Prop} {o} (h : cut_Greatest_S x0 x1 = some o) (hK : Φ o) : cut_Greatest_W x0 x1 Φ := by
  unfold cut_Greatest_S at h
  unfold cut_Greatest_W
  exact blS h fun _ hv h => history_Check_sound _ hv (ifS h (fun h => ifS h (fun h => ifS h (fun h => have t := lfS h hK; t) fun h => (by cases h)) fun h => LoopW.of_S (fun s q rec hs hq => cut_Greatest_L1_sound _ s hs hq) _ _ h hK) fun h => blS h fun _ hv h => ⟨_, slices_Repeat_int_int_sound _ _ hv rfl, blS h fun _ hv h => ⟨_, slices_Repeat_int_int_sound _ _ hv rfl, LoopW.of_S (fun s q rec hs hq => cut_Greatest_L2_sound _ _ s hs hq) _ _ h hK⟩⟩)
def consistency_Newest_J3_S (v4 : Int) : (Bool × (List (consistency_content × Int))) → Option ((Int × (List (consistency_content × Int))) ⊕ (List Int × Bool × Int))
  | (v6, v7) =>
    if ¬ (v6 = true) then
      if (1 : Int) ≠ 0 then
        some (.inr (([] : List Int), false, 1))
      else
        none
    else
      if inI (v4 + 1) then
      some (.inl ((v4 + 1), v7))
      else none
theorem consistency_Newest_J3_sound (v4 : Int) (s : Bool × (List (consistency_content × Int))) {Φ : List Int × Bool × Int → Prop} {rec2 : (Int × (List (consistency_content × Int))) → Prop} {o} (h : consistency_Newest_J3_S v4 s = some o) (hK : (orK rec2 Φ) o) : consistency_Newest_J3 v4 rec2 Φ s := by
  obtain ⟨v6, v7⟩ := s
  unfold consistency_Newest_J3_S at h
  unfold consistency_Newest_J3
  exact ifS h (fun h => ifS h (fun h => have t := lfS h hK; t) fun h => (by cases h)) fun h => adS h fun h => have t := lfS h hK; t
def consistency_Newest_L4_S (x0 : api_History) (v4 : Int) : (Int × (List (consistency_content × Int))) → Option ((Int × (List (consistency_content × Int))) ⊕ ((Int × (List (consistency_content × Int))) ⊕ (List Int × Bool × Int)))
  | (v8, v9) =>
    if v8 < (((ix x0.Writes v4).Data).length : Int) then
      if inX v8 ((ix x0.Writes v4).Data).length then
      if inI (((ix x0.Writes v4).Start) + v8) then
      if ¬ ((mhas v9 (consistency_content.mk (consistency_place.mk ((ix x0.Writes v4).Volume) (((ix x0.Writes v4).Start) + v8)) (ix ((ix x0.Writes v4).Data) v8))) = true) then
        if ¬ ((ix ((ix x0.Writes v4).Data) v8) ≠ sec0) then
          Option.map (fun z => .inr z) (consistency_Newest_J3_S v4 (false, (mput v9 (consistency_content.mk (consistency_place.mk ((ix x0.Writes v4).Volume) (((ix x0.Writes v4).Start) + v8)) (ix ((ix x0.Writes v4).Data) v8)) v4)))
        else
          if inI (v8 + 1) then
          some (.inl ((v8 + 1), (mput v9 (consistency_content.mk (consistency_place.mk ((ix x0.Writes v4).Volume) (((ix x0.Writes v4).Start) + v8)) (ix ((ix x0.Writes v4).Data) v8)) v4)))
          else none
      else
        Option.map (fun z => .inr z) (consistency_Newest_J3_S v4 (false, (mput v9 (consistency_content.mk (consistency_place.mk ((ix x0.Writes v4).Volume) (((ix x0.Writes v4).Start) + v8)) (ix ((ix x0.Writes v4).Data) v8)) v4)))
      else none
      else none
    else
      Option.map (fun z => .inr z) (consistency_Newest_J3_S v4 (true, v9))
theorem consistency_Newest_L4_sound (x0 : api_History) (v4 : Int) (s : Int × (List (consistency_content × Int))) {Φ : List Int × Bool × Int → Prop} {rec2 : (Int × (List (consistency_content × Int))) → Prop} {rec4 : (Int × (List (consistency_content × Int))) → Prop} {o} (h : consistency_Newest_L4_S x0 v4 s = some o) (hK : (orK rec4 (orK rec2 Φ)) o) : consistency_Newest_L4 x0 v4 rec2 Φ s rec4 := by
  obtain ⟨v8, v9⟩ := s
  unfold consistency_Newest_L4_S at h
  unfold consistency_Newest_L4
  exact ifS h (fun h => adS h fun h => adS h fun h => ifS h (fun h => ifS h (fun h => mpS h fun _ hx he => consistency_Newest_J3_sound _ _ hx (by subst he; exact hK)) fun h => adS h fun h => have t := lfS h hK; t) fun h => mpS h fun _ hx he => consistency_Newest_J3_sound _ _ hx (by subst he; exact hK)) fun h => mpS h fun _ hx he => consistency_Newest_J3_sound _ _ hx (by subst he; exact hK)
def consistency_Newest_J8_S (v13 : Int) (v14 : List Int) : (Bool) → Option ((Int × List Int) ⊕ ((Int × (List (consistency_content × Int))) ⊕ (List Int × Bool × Int)))
  | v15 =>
    if v15 = true then
      if lenOk (v14 ++ ([v13] : List Int)).length 8 then
      if inI (v13 + 1) then
      some (.inl ((v13 + 1), (v14 ++ ([v13] : List Int))))
      else none
      else none
    else
      if inI (v13 + 1) then
      some (.inl ((v13 + 1), v14))
      else none
theorem consistency_Newest_J8_sound (v13 : Int) (v14 : List Int) (s : Bool) {Φ : List Int × Bool × Int → Prop} {rec2 : (Int × (List (consistency_content × Int))) → Prop} {rec7 : (Int × List Int) → Prop} {o} (h : consistency_Newest_J8_S v13 v14 s = some o) (hK : (orK rec7 (orK rec2 Φ)) o) : consistency_Newest_J8 v13 v14 rec7 Φ s := by
  unfold consistency_Newest_J8_S at h
  unfold consistency_Newest_J8
  exact ifS h (fun h => adS h fun h => adS h fun h => have t := lfS h hK; t) fun h => adS h fun h => have t := lfS h hK; t
def consistency_Newest_L9_S (x0 : api_History) (x1 : List (List Sec)) (v5 : List (consistency_content × Int)) (v13 : Int) (v14 : List Int) : (Int) → Option ((Int) ⊕ ((Int × List Int) ⊕ ((Int × (List (consistency_content × Int))) ⊕ (List Int × Bool × Int))))
  | v16 =>
    if v16 < (((ix x0.Writes v13).Data).length : Int) then
      if inX v16 ((ix x0.Writes v13).Data).length then
      if inI (((ix x0.Writes v13).Start) + v16) then
      if inX ((ix x0.Writes v13).Volume) x1.length then
      if inX (((ix x0.Writes v13).Start) + v16) (ix x1 ((ix x0.Writes v13).Volume)).length then
      if (mhas v5 (consistency_content.mk (consistency_place.mk ((ix x0.Writes v13).Volume) (((ix x0.Writes v13).Start) + v16)) (ix (ix x1 ((ix x0.Writes v13).Volume)) (((ix x0.Writes v13).Start) + v16)))) = true then
        if ¬ (v13 ≤ (mget v5 (consistency_content.mk (consistency_place.mk ((ix x0.Writes v13).Volume) (((ix x0.Writes v13).Start) + v16)) (ix (ix x1 ((ix x0.Writes v13).Volume)) (((ix x0.Writes v13).Start) + v16))) 0)) then
          Option.map (fun z => .inr z) (consistency_Newest_J8_S v13 v14 false)
        else
          if inI (v16 + 1) then
          some (.inl (v16 + 1))
          else none
      else
        Option.map (fun z => .inr z) (consistency_Newest_J8_S v13 v14 false)
      else none
      else none
      else none
      else none
    else
      Option.map (fun z => .inr z) (consistency_Newest_J8_S v13 v14 true)
theorem consistency_Newest_L9_sound (x0 : api_History) (x1 : List (List Sec)) (v5 : List (consistency_content × Int)) (v13 : Int) (v14 : List Int) (s : Int) {Φ : List Int × Bool × Int → Prop} {rec2 : (Int × (List (consistency_content × Int))) → Prop} {rec7 : (Int × List Int) → Prop} {rec9 : (Int) → Prop} {o} (h : consistency_Newest_L9_S x0 x1 v5 v13 v14 s = some o) (hK : (orK rec9 (orK rec7 (orK rec2 Φ))) o) : consistency_Newest_L9 x0 x1 v5 v13 v14 rec7 Φ s rec9 := by
  unfold consistency_Newest_L9_S at h
  unfold consistency_Newest_L9
  exact ifS h (fun h => adS h fun h => adS h fun h => adS h fun h => adS h fun h => ifS h (fun h => ifS h (fun h => mpS h fun _ hx he => consistency_Newest_J8_sound _ _ _ hx (by subst he; exact hK)) fun h => adS h fun h => have t := lfS h hK; t) fun h => mpS h fun _ hx he => consistency_Newest_J8_sound _ _ _ hx (by subst he; exact hK)) fun h => mpS h fun _ hx he => consistency_Newest_J8_sound _ _ _ hx (by subst he; exact hK)
def consistency_Newest_L7_S (x0 : api_History) (x1 : List (List Sec)) (v5 : List (consistency_content × Int)) : (Int × List Int) → Option ((Int × List Int) ⊕ ((Int × (List (consistency_content × Int))) ⊕ (List Int × Bool × Int)))
  | (v13, v14) =>
    if v13 < (x0.Writes.length : Int) then
      if inX v13 x0.Writes.length then
      loopS (consistency_Newest_L9_S x0 x1 v5 v13 v14) 100000 0
      else none
    else
      Option.bind (cut_Greatest_S x0 v14) fun v17 =>
      some (.inr (.inr (v17.1, decide (v17.2 = 0), v17.2)))
theorem consistency_Newest_L7_sound (x0 : api_History) (x1 : List (List Sec)) (v5 : List (consistency_content × Int)) (s : Int × List Int) {Φ : List Int × Bool × Int → Prop} {rec2 : (Int × (List (consistency_content × Int))) → Prop} {rec7 : (Int × List Int) → Prop} {o} (h : consistency_Newest_L7_S x0 x1 v5 s = some o) (hK : (orK rec7 (orK rec2 Φ)) o) : consistency_Newest_L7 x0 x1 v5 Φ s rec7 := by
  obtain ⟨v13, v14⟩ := s
  unfold consistency_Newest_L7_S at h
  unfold consistency_Newest_L7
  exact ifS h (fun h => adS h fun h => LoopW.of_S (fun s q rec hs hq => consistency_Newest_L9_sound _ _ _ _ _ s hs hq) _ _ h hK) fun h => blS h fun _ hv h => cut_Greatest_sound _ _ hv (have t := lfS h hK; t)
def consistency_Newest_J6_S (x0 : api_History) (x1 : List (List Sec)) (v5 : List (consistency_content × Int)) (v11 : Int) : (Bool) → Option ((Int × (List (consistency_content × Int))) ⊕ (List Int × Bool × Int))
  | v12 =>
    if v12 = true then
      some (.inr (([] : List Int), false, v11))
    else
      loopS (consistency_Newest_L7_S x0 x1 v5) 100000 (0, ([] : List Int))
theorem consistency_Newest_J6_sound (x0 : api_History) (x1 : List (List Sec)) (v5 : List (consistency_content × Int)) (v11 : Int) (s : Bool) {Φ : List Int × Bool × Int → Prop} {rec2 : (Int × (List (consistency_content × Int))) → Prop} {o} (h : consistency_Newest_J6_S x0 x1 v5 v11 s = some o) (hK : (orK rec2 Φ) o) : consistency_Newest_J6 x0 x1 v5 v11 Φ s := by
  unfold consistency_Newest_J6_S at h
  unfold consistency_Newest_J6
  exact ifS h (fun h => have t := lfS h hK; t) fun h => LoopW.of_S (fun s q rec hs hq => consistency_Newest_L7_sound _ _ _ s hs hq) _ _ h hK
def consistency_Newest_J5_S (x0 : api_History) (x1 : List (List Sec)) (v5 : List (consistency_content × Int)) : (Bool × Int) → Option ((Int × (List (consistency_content × Int))) ⊕ (List Int × Bool × Int))
  | (v10, v11) =>
    if v11 ≠ 0 then
      consistency_Newest_J6_S x0 x1 v5 v11 true
    else
      consistency_Newest_J6_S x0 x1 v5 v11 v10
theorem consistency_Newest_J5_sound (x0 : api_History) (x1 : List (List Sec)) (v5 : List (consistency_content × Int)) (s : Bool × Int) {Φ : List Int × Bool × Int → Prop} {rec2 : (Int × (List (consistency_content × Int))) → Prop} {o} (h : consistency_Newest_J5_S x0 x1 v5 s = some o) (hK : (orK rec2 Φ) o) : consistency_Newest_J5 x0 x1 v5 Φ s := by
  obtain ⟨v10, v11⟩ := s
  unfold consistency_Newest_J5_S at h
  unfold consistency_Newest_J5
  exact ifS h (fun h => consistency_Newest_J6_sound _ _ _ _ _ h hK) fun h => consistency_Newest_J6_sound _ _ _ _ _ h hK
def consistency_Newest_J12_S (x0 : api_History) (x1 : List (List Sec)) (v5 : List (consistency_content × Int)) : (Bool × Int × Int × List Sec) → Option ((Int × List Int) ⊕ ((Int × (List (consistency_content × Int))) ⊕ (List Int × Bool × Int)))
  | (v27, _, _, _) =>
    Option.map (fun z => .inr z) (consistency_Newest_J5_S x0 x1 v5 (v27, 0))
theorem consistency_Newest_J12_sound (x0 : api_History) (x1 : List (List Sec)) (v5 : List (consistency_content × Int)) (s : Bool × Int × Int × List Sec) {Φ : List Int × Bool × Int → Prop} {rec2 : (Int × (List (consistency_content × Int))) → Prop} {rec11 : (Int × List Int) → Prop} {o} (h : consistency_Newest_J12_S x0 x1 v5 s = some o) (hK : (orK rec11 (orK rec2 Φ)) o) : consistency_Newest_J12 x0 x1 v5 Φ s := by
  obtain ⟨v27, v28, v29, v30⟩ := s
  unfold consistency_Newest_J12_S at h
  unfold consistency_Newest_J12
  exact mpS h fun _ hx he => consistency_Newest_J5_sound _ _ _ _ hx (by subst he; exact hK)
def consistency_Newest_L14_S (x0 : api_History) (x1 : List (List Sec)) (v5 : List (consistency_content × Int)) (v18 : Bool) (v19 : Int) (v20 : Int) (v22 : List Sec) (v26 : List (List Sec) × Int) (v31 : Int) : (Int) → Option ((Int) ⊕ ((Int) ⊕ ((Int × List Int) ⊕ ((Int × (List (consistency_content × Int))) ⊕ (List Int × Bool × Int)))))
  | v32 =>
    if v32 < ((ix v26.1 v31).length : Int) then
      if inX v32 (ix v26.1 v31).length then
      if inX v31 x1.length then
      if inX v32 (ix x1 v31).length then
      if (ix (ix v26.1 v31) v32) ≠ (ix (ix x1 v31) v32) then
        Option.bind (consistency_single_S (consistency_place.mk v31 v32) (ix (ix v26.1 v31) v32)) fun v33 =>
        Option.map (fun z => .inr (.inr z)) (consistency_Newest_J12_S x0 x1 v5 (true, v33.Volume, v33.Start, v33.Data))
      else
        if ¬ (¬ (v18 = true)) then
          Option.map (fun z => .inr (.inr z)) (consistency_Newest_J12_S x0 x1 v5 (v18, v19, v20, v22))
        else
          if inI (v32 + 1) then
          some (.inl (v32 + 1))
          else none
      else none
      else none
      else none
    else
      if inI (v31 + 1) then
      some (.inr (.inl (v31 + 1)))
      else none
theorem consistency_Newest_L14_sound (x0 : api_History) (x1 : List (List Sec)) (v5 : List (consistency_content × Int)) (v18 : Bool) (v19 : Int) (v20 : Int) (v22 : List Sec) (v26 : List (List Sec) × Int) (v31 : Int) (s : Int) {Φ : List Int × Bool × Int → Prop} {rec2 : (Int × (List (consistency_content × Int))) → Prop} {rec11 : (Int × List Int) → Prop} {rec13 : (Int) → Prop} {rec14 : (Int) → Prop} {o} (h : consistency_Newest_L14_S x0 x1 v5 v18 v19 v20 v22 v26 v31 s = some o) (hK : (orK rec14 (orK rec13 (orK rec11 (orK rec2 Φ)))) o) : consistency_Newest_L14 x0 x1 v5 v18 v19 v20 v22 v26 v31 rec13 Φ s rec14 := by
  unfold consistency_Newest_L14_S at h
  unfold consistency_Newest_L14
  exact ifS h (fun h => adS h fun h => adS h fun h => adS h fun h => ifS h (fun h => blS h fun _ hv h => consistency_single_sound _ _ hv (mpS h fun _ hx he => consistency_Newest_J12_sound _ _ _ _ hx (by subst he; exact hK))) fun h => ifS h (fun h => mpS h fun _ hx he => consistency_Newest_J12_sound _ _ _ _ hx (by subst he; exact hK)) fun h => adS h fun h => have t := lfS h hK; t) fun h => adS h fun h => have t := lfS h hK; t
def consistency_Newest_L13_S (x0 : api_History) (x1 : List (List Sec)) (v5 : List (consistency_content × Int)) (v18 : Bool) (v19 : Int) (v20 : Int) (v22 : List Sec) (v26 : List (List Sec) × Int) : (Int) → Option ((Int) ⊕ ((Int × List Int) ⊕ ((Int × (List (consistency_content × Int))) ⊕ (List Int × Bool × Int))))
  | v31 =>
    if v31 < (v26.1.length : Int) then
      if inX v31 v26.1.length then
      loopS (consistency_Newest_L14_S x0 x1 v5 v18 v19 v20 v22 v26 v31) 100000 0
      else none
    else
      Option.map (fun z => .inr z) (consistency_Newest_J12_S x0 x1 v5 (v18, v19, v20, v22))
theorem consistency_Newest_L13_sound (x0 : api_History) (x1 : List (List Sec)) (v5 : List (consistency_content × Int)) (v18 : Bool) (v19 : Int) (v20 : Int) (v22 : List Sec) (v26 : List (List Sec) × Int) (s : Int) {Φ : List Int × Bool × Int → Prop} {rec2 : (Int × (List (consistency_content × Int))) → Prop} {rec11 : (Int × List Int) → Prop} {rec13 : (Int) → Prop} {o} (h : consistency_Newest_L13_S x0 x1 v5 v18 v19 v20 v22 v26 s = some o) (hK : (orK rec13 (orK rec11 (orK rec2 Φ))) o) : consistency_Newest_L13 x0 x1 v5 v18 v19 v20 v22 v26 Φ s rec13 := by
  unfold consistency_Newest_L13_S at h
  unfold consistency_Newest_L13
  exact ifS h (fun h => adS h fun h => LoopW.of_S (fun s q rec hs hq => consistency_Newest_L14_sound _ _ _ _ _ _ _ _ _ s hs hq) _ _ h hK) fun h => mpS h fun _ hx he => consistency_Newest_J12_sound _ _ _ _ hx (by subst he; exact hK)
def consistency_Newest_L11_S (x0 : api_History) (x1 : List (List Sec)) (v5 : List (consistency_content × Int)) (v18 : Bool) (v19 : Int) (v20 : Int) (v21 : List (Int × Bool)) (v22 : List Sec) : (Int × List Int) → Option ((Int × List Int) ⊕ ((Int × (List (consistency_content × Int))) ⊕ (List Int × Bool × Int)))
  | (v23, v24) =>
    if v23 < (x0.Writes.length : Int) then
      if (mget v21 v23 false) = true then
        if lenOk (v24 ++ ([v23] : List Int)).length 8 then
        if inI (v23 + 1) then
        some (.inl ((v23 + 1), (v24 ++ ([v23] : List Int))))
        else none
        else none
      else
        if inI (v23 + 1) then
        some (.inl ((v23 + 1), v24))
        else none
    else
      Option.bind (cut_Least_S x0 v24) fun v25 =>
      if v25.2 ≠ 0 then
        Option.map (fun z => .inr z) (consistency_Newest_J5_S x0 x1 v5 (false, v25.2))
      else
        Option.bind (history_Image_S x0 v25.1) fun v26 =>
        if v26.2 ≠ 0 then
          Option.map (fun z => .inr z) (consistency_Newest_J5_S x0 x1 v5 (false, v26.2))
        else
          loopS (consistency_Newest_L13_S x0 x1 v5 v18 v19 v20 v22 v26) 100000 0
theorem consistency_Newest_L11_sound (x0 : api_History) (x1 : List (List Sec)) (v5 : List (consistency_content × Int)) (v18 : Bool) (v19 : Int) (v20 : Int) (v21 : List (Int × Bool)) (v22 : List Sec) (s : Int × List Int) {Φ : List Int × Bool × Int → Prop} {rec2 : (Int × (List (consistency_content × Int))) → Prop} {rec11 : (Int × List Int) → Prop} {o} (h : consistency_Newest_L11_S x0 x1 v5 v18 v19 v20 v21 v22 s = some o) (hK : (orK rec11 (orK rec2 Φ)) o) : consistency_Newest_L11 x0 x1 v5 v18 v19 v20 v21 v22 Φ s rec11 := by
  obtain ⟨v23, v24⟩ := s
  unfold consistency_Newest_L11_S at h
  unfold consistency_Newest_L11
  exact ifS h (fun h => ifS h (fun h => adS h fun h => adS h fun h => have t := lfS h hK; t) fun h => adS h fun h => have t := lfS h hK; t) fun h => blS h fun _ hv h => cut_Least_sound _ _ hv (ifS h (fun h => mpS h fun _ hx he => consistency_Newest_J5_sound _ _ _ _ hx (by subst he; exact hK)) fun h => blS h fun _ hv h => history_Image_sound _ _ hv (ifS h (fun h => mpS h fun _ hx he => consistency_Newest_J5_sound _ _ _ _ hx (by subst he; exact hK)) fun h => LoopW.of_S (fun s q rec hs hq => consistency_Newest_L13_sound _ _ _ _ _ _ _ _ s hs hq) _ _ h hK))
def consistency_Newest_J10_S (x0 : api_History) (x1 : List (List Sec)) (v5 : List (consistency_content × Int)) : (Bool × Int × Int × (List (Int × Bool)) × List Sec) → Option ((Int × (List (consistency_content × Int))) ⊕ (List Int × Bool × Int))
  | (v18, v19, v20, v21, v22) =>
    if v18 = true then
      consistency_Newest_J5_S x0 x1 v5 (true, 0)
    else
      loopS (consistency_Newest_L11_S x0 x1 v5 v18 v19 v20 v21 v22) 100000 (0, ([] : List Int))
theorem consistency_Newest_J10_sound (x0 : api_History) (x1 : List (List Sec)) (v5 : List (consistency_content × Int)) (s : Bool × Int × Int × (List (Int × Bool)) × List Sec) {Φ : List Int × Bool × Int → Prop} {rec2 : (Int × (List (consistency_content × Int))) → Prop} {o} (h : consistency_Newest_J10_S x0 x1 v5 s = some o) (hK : (orK rec2 Φ) o) : consistency_Newest_J10 x0 x1 v5 Φ s := by
  obtain ⟨v18, v19, v20, v21, v22⟩ := s
  unfold consistency_Newest_J10_S at h
  unfold consistency_Newest_J10
  exact ifS h (fun h => consistency_Newest_J5_sound _ _ _ _ h hK) fun h => LoopW.of_S (fun s q rec hs hq => consistency_Newest_L11_sound _ _ _ _ _ _ _ _ s hs hq) _ _ h hK
def consistency_Newest_L16_S (x0 : api_History) (x1 : List (List Sec)) (v5 : List (consistency_content × Int)) (v34 : Int) : (Int × (List (Int × Bool))) → Option ((Int × (List (Int × Bool))) ⊕ ((Int × (List (Int × Bool))) ⊕ ((Int × (List (consistency_content × Int))) ⊕ (List Int × Bool × Int))))
  | (v36, v37) =>
    if v36 < ((ix x1 v34).length : Int) then
      if inX v36 (ix x1 v34).length then
      if (ix (ix x1 v34) v36) = sec0 then
        if inI (v36 + 1) then
        some (.inl ((v36 + 1), v37))
        else none
      else
        if ¬ ((mhas v5 (consistency_content.mk (consistency_place.mk v34 v36) (ix (ix x1 v34) v36))) = true) then
          Option.bind (consistency_single_S (consistency_place.mk v34 v36) (ix (ix x1 v34) v36)) fun v38 =>
          Option.map (fun z => .inr (.inr z)) (consistency_Newest_J10_S x0 x1 v5 (true, v38.Volume, v38.Start, v37, v38.Data))
        else
          if inI (v36 + 1) then
          some (.inl ((v36 + 1), (mput v37 (mget v5 (consistency_content.mk (consistency_place.mk v34 v36) (ix (ix x1 v34) v36)) 0) true)))
          else none
      else none
    else
      if inI (v34 + 1) then
      some (.inr (.inl ((v34 + 1), v37)))
      else none
theorem consistency_Newest_L16_sound (x0 : api_History) (x1 : List (List Sec)) (v5 : List (consistency_content × Int)) (v34 : Int) (s : Int × (List (Int × Bool))) {Φ : List Int × Bool × Int → Prop} {rec2 : (Int × (List (consistency_content × Int))) → Prop} {rec15 : (Int × (List (Int × Bool))) → Prop} {rec16 : (Int × (List (Int × Bool))) → Prop} {o} (h : consistency_Newest_L16_S x0 x1 v5 v34 s = some o) (hK : (orK rec16 (orK rec15 (orK rec2 Φ))) o) : consistency_Newest_L16 x0 x1 v5 v34 rec15 Φ s rec16 := by
  obtain ⟨v36, v37⟩ := s
  unfold consistency_Newest_L16_S at h
  unfold consistency_Newest_L16
  exact ifS h (fun h => adS h fun h => ifS h (fun h => adS h fun h => have t := lfS h hK; t) fun h => ifS h (fun h => blS h fun _ hv h => consistency_single_sound _ _ hv (mpS h fun _ hx he => consistency_Newest_J10_sound _ _ _ _ hx (by subst he; exact hK))) fun h => adS h fun h => have t := lfS h hK; t) fun h => adS h fun h => have t := lfS h hK; t
def consistency_Newest_L15_S (x0 : api_History) (x1 : List (List Sec)) (v5 : List (consistency_content × Int)) : (Int × (List (Int × Bool))) → Option ((Int × (List (Int × Bool))) ⊕ ((Int × (List (consistency_content × Int))) ⊕ (List Int × Bool × Int)))
  | (v34, v35) =>
    if v34 < (x1.length : Int) then
      if inX v34 x1.length then
      loopS (consistency_Newest_L16_S x0 x1 v5 v34) 100000 (0, v35)
      else none
    else
      Option.map (fun z => .inr z) (consistency_Newest_J10_S x0 x1 v5 (false, 0, 0, v35, ([] : List Sec)))
theorem consistency_Newest_L15_sound (x0 : api_History) (x1 : List (List Sec)) (v5 : List (consistency_content × Int)) (s : Int × (List (Int × Bool))) {Φ : List Int × Bool × Int → Prop} {rec2 : (Int × (List (consistency_content × Int))) → Prop} {rec15 : (Int × (List (Int × Bool))) → Prop} {o} (h : consistency_Newest_L15_S x0 x1 v5 s = some o) (hK : (orK rec15 (orK rec2 Φ)) o) : consistency_Newest_L15 x0 x1 v5 Φ s rec15 := by
  obtain ⟨v34, v35⟩ := s
  unfold consistency_Newest_L15_S at h
  unfold consistency_Newest_L15
  exact ifS h (fun h => adS h fun h => LoopW.of_S (fun s q rec hs hq => consistency_Newest_L16_sound _ _ _ _ s hs hq) _ _ h hK) fun h => mpS h fun _ hx he => consistency_Newest_J10_sound _ _ _ _ hx (by subst he; exact hK)
def consistency_Newest_L2_S (x0 : api_History) (x1 : List (List Sec)) : (Int × (List (consistency_content × Int))) → Option ((Int × (List (consistency_content × Int))) ⊕ (List Int × Bool × Int))
  | (v4, v5) =>
    if v4 < (x0.Writes.length : Int) then
      if inX v4 x0.Writes.length then
      loopS (consistency_Newest_L4_S x0 v4) 100000 (0, v5)
      else none
    else
      if (0 : Int) ≠ 0 then
        some (.inr (([] : List Int), false, 0))
      else
        loopS (consistency_Newest_L15_S x0 x1 v5) 100000 (0, ([] : List (Int × Bool)))
theorem consistency_Newest_L2_sound (x0 : api_History) (x1 : List (List Sec)) (s : Int × (List (consistency_content × Int))) {Φ : List Int × Bool × Int → Prop} {rec2 : (Int × (List (consistency_content × Int))) → Prop} {o} (h : consistency_Newest_L2_S x0 x1 s = some o) (hK : (orK rec2 Φ) o) : consistency_Newest_L2 x0 x1 Φ s rec2 := by
  obtain ⟨v4, v5⟩ := s
  unfold consistency_Newest_L2_S at h
  unfold consistency_Newest_L2
  exact ifS h (fun h => adS h fun h => LoopW.of_S (fun s q rec hs hq => consistency_Newest_L4_sound _ _ s hs hq) _ _ h hK) fun h => ifS h (fun h => have t := lfS h hK; t) fun h => LoopW.of_S (fun s q rec hs hq => consistency_Newest_L15_sound _ _ _ s hs hq) _ _ h hK
def consistency_Newest_J1_S (x0 : api_History) (x1 : List (List Sec)) : (Bool) → Option (List Int × Bool × Int)
  | v3 =>
    if v3 = true then
      if (22 : Int) ≠ 0 then
        some ((([] : List Int), false, 22))
      else
        none
    else
      loopS (consistency_Newest_L2_S x0 x1) 100000 (0, ([] : List (consistency_content × Int)))
theorem consistency_Newest_J1_sound (x0 : api_History) (x1 : List (List Sec)) (s : Bool) {Φ : List Int × Bool × Int → Prop} {o} (h : consistency_Newest_J1_S x0 x1 s = some o) (hK : Φ o) : consistency_Newest_J1 x0 x1 Φ s := by
  unfold consistency_Newest_J1_S at h
  unfold consistency_Newest_J1
  exact ifS h (fun h => ifS h (fun h => have t := lfS h hK; t) fun h => (by cases h)) fun h => LoopW.of_S (fun s q rec hs hq => consistency_Newest_L2_sound _ _ s hs hq) _ _ h hK
def consistency_Newest_L17_S (x0 : api_History) (x1 : List (List Sec)) : (Int) → Option ((Int) ⊕ (List Int × Bool × Int))
  | v39 =>
    if v39 < (x1.length : Int) then
      if inX v39 x1.length then
      if inX v39 x0.Sizes.length then
      Option.bind (consistency_newJudge_1_S (ix x1 v39) (ix x0.Sizes v39)) fun v40 =>
      if ¬ (v40 = true) then
        Option.map (fun z => .inr z) (consistency_Newest_J1_S x0 x1 true)
      else
        if inI (v39 + 1) then
        some (.inl (v39 + 1))
        else none
      else none
      else none
    else
      Option.map (fun z => .inr z) (consistency_Newest_J1_S x0 x1 false)
theorem consistency_Newest_L17_sound (x0 : api_History) (x1 : List (List Sec)) (s : Int) {Φ : List Int × Bool × Int → Prop} {rec17 : (Int) → Prop} {o} (h : consistency_Newest_L17_S x0 x1 s = some o) (hK : (orK rec17 Φ) o) : consistency_Newest_L17 x0 x1 Φ s rec17 := by
  unfold consistency_Newest_L17_S at h
  unfold consistency_Newest_L17
  exact ifS h (fun h => adS h fun h => adS h fun h => blS h fun _ hv h => consistency_newJudge_1_sound _ _ hv (ifS h (fun h => mpS h fun _ hx he => consistency_Newest_J1_sound _ _ _ hx (by subst he; exact hK)) fun h => adS h fun h => have t := lfS h hK; t)) fun h => mpS h fun _ hx he => consistency_Newest_J1_sound _ _ _ hx (by subst he; exact hK)
def consistency_Newest_S (x0 : api_History) (x1 : List (List Sec)) : Option (List Int × Bool × Int) :=
  Option.bind (history_Check_S x0) fun v1 =>
  if v1 ≠ 0 then
    if v1 ≠ 0 then
      some ((([] : List Int), false, v1))
    else
      none
  else
    Option.bind (image_Check_S x1) fun v2 =>
    if v2 ≠ 0 then
      if v2 ≠ 0 then
        some ((([] : List Int), false, v2))
      else
        none
    else
      if (x1.length : Int) ≠ (x0.Sizes.length : Int) then
        consistency_Newest_J1_S x0 x1 true
      else
        loopS (consistency_Newest_L17_S x0 x1) 100000 0
theorem consistency_Newest_sound (x0 : api_History) (x1 : List (List Sec)) {Φ : List Int × Bool × Int → Prop} {o} (h : consistency_Newest_S x0 x1 = some o) (hK : Φ o) : consistency_Newest_W x0 x1 Φ := by
  unfold consistency_Newest_S at h
  unfold consistency_Newest_W
  exact blS h fun _ hv h => history_Check_sound _ hv (ifS h (fun h => ifS h (fun h => have t := lfS h hK; t) fun h => (by cases h)) fun h => blS h fun _ hv h => image_Check_sound _ hv (ifS h (fun h => ifS h (fun h => have t := lfS h hK; t) fun h => (by cases h)) fun h => ifS h (fun h => consistency_Newest_J1_sound _ _ _ h hK) fun h => LoopW.of_S (fun s q rec hs hq => consistency_Newest_L17_sound _ _ s hs hq) _ _ h hK))
def ref15_First_L1_S (x0 : Int) : (Int × List Int) → Option ((Int × List Int) ⊕ (List Int))
  | (v1, v2) =>
    if v1 < x0 then
      if lenOk (v2 ++ ([v1] : List Int)).length 8 then
      if inI (v1 + 1) then
      some (.inl ((v1 + 1), (v2 ++ ([v1] : List Int))))
      else none
      else none
    else
      some (.inr v2)
theorem ref15_First_L1_sound (x0 : Int) (s : Int × List Int) {Φ : List Int → Prop} {rec1 : (Int × List Int) → Prop} {o} (h : ref15_First_L1_S x0 s = some o) (hK : (orK rec1 Φ) o) : ref15_First_L1 x0 Φ s rec1 := by
  obtain ⟨v1, v2⟩ := s
  unfold ref15_First_L1_S at h
  unfold ref15_First_L1
  exact ifS h (fun h => adS h fun h => adS h fun h => have t := lfS h hK; t) fun h => have t := lfS h hK; t
def ref15_First_S (x0 : Int) : Option (List Int) :=
  loopS (ref15_First_L1_S x0) 100000 (0, ([] : List Int))
theorem ref15_First_sound (x0 : Int) {Φ : List Int → Prop} {o} (h : ref15_First_S x0 = some o) (hK : Φ o) : ref15_First_W x0 Φ := by
  unfold ref15_First_S at h
  unfold ref15_First_W
  exact LoopW.of_S (fun s q rec hs hq => ref15_First_L1_sound _ s hs hq) _ _ h hK
def slices_Equal_int_int_L1_S (x0 : List Int) (x1 : List Int) : (Int) → Option ((Int) ⊕ (Bool))
  | v1 =>
    if v1 < (x0.length : Int) then
      if inX v1 x0.length then
      if inX v1 x1.length then
      if (ix x0 v1) ≠ (ix x1 v1) then
        some (.inr false)
      else
        if inI (v1 + 1) then
        some (.inl (v1 + 1))
        else none
      else none
      else none
    else
      some (.inr true)
theorem slices_Equal_int_int_L1_sound (x0 : List Int) (x1 : List Int) (s : Int) {Φ : Bool → Prop} {rec1 : (Int) → Prop} {o} (h : slices_Equal_int_int_L1_S x0 x1 s = some o) (hK : (orK rec1 Φ) o) : slices_Equal_int_int_L1 x0 x1 Φ s rec1 := by
  unfold slices_Equal_int_int_L1_S at h
  unfold slices_Equal_int_int_L1
  exact ifS h (fun h => adS h fun h => adS h fun h => ifS h (fun h => have t := lfS h hK; t) fun h => adS h fun h => have t := lfS h hK; t) fun h => have t := lfS h hK; t
def slices_Equal_int_int_S (x0 : List Int) (x1 : List Int) : Option (Bool) :=
  if (x0.length : Int) ≠ (x1.length : Int) then
    some (false)
  else
    loopS (slices_Equal_int_int_L1_S x0 x1) 100000 0
theorem slices_Equal_int_int_sound (x0 : List Int) (x1 : List Int) {Φ : Bool → Prop} {o} (h : slices_Equal_int_int_S x0 x1 = some o) (hK : Φ o) : slices_Equal_int_int_W x0 x1 Φ := by
  unfold slices_Equal_int_int_S at h
  unfold slices_Equal_int_int_W
  exact ifS h (fun h => have t := lfS h hK; t) fun h => LoopW.of_S (fun s q rec hs hq => slices_Equal_int_int_L1_sound _ _ s hs hq) _ _ h hK
def consistency_Conflict_J3_S (v4 : Int) : (Bool × (List (consistency_content × Int))) → Option ((Int × (List (consistency_content × Int))) ⊕ (api_Write × Bool × Int))
  | (v6, v7) =>
    if ¬ (v6 = true) then
      if (1 : Int) ≠ 0 then
        some (.inr ((api_Write.mk 0 0 ([] : List Sec)), false, 1))
      else
        none
    else
      if inI (v4 + 1) then
      some (.inl ((v4 + 1), v7))
      else none
theorem consistency_Conflict_J3_sound (v4 : Int) (s : Bool × (List (consistency_content × Int))) {Φ : api_Write × Bool × Int → Prop} {rec2 : (Int × (List (consistency_content × Int))) → Prop} {o} (h : consistency_Conflict_J3_S v4 s = some o) (hK : (orK rec2 Φ) o) : consistency_Conflict_J3 v4 rec2 Φ s := by
  obtain ⟨v6, v7⟩ := s
  unfold consistency_Conflict_J3_S at h
  unfold consistency_Conflict_J3
  exact ifS h (fun h => ifS h (fun h => have t := lfS h hK; t) fun h => (by cases h)) fun h => adS h fun h => have t := lfS h hK; t
def consistency_Conflict_L4_S (x0 : api_History) (v4 : Int) : (Int × (List (consistency_content × Int))) → Option ((Int × (List (consistency_content × Int))) ⊕ ((Int × (List (consistency_content × Int))) ⊕ (api_Write × Bool × Int)))
  | (v8, v9) =>
    if v8 < (((ix x0.Writes v4).Data).length : Int) then
      if inX v8 ((ix x0.Writes v4).Data).length then
      if inI (((ix x0.Writes v4).Start) + v8) then
      if ¬ ((mhas v9 (consistency_content.mk (consistency_place.mk ((ix x0.Writes v4).Volume) (((ix x0.Writes v4).Start) + v8)) (ix ((ix x0.Writes v4).Data) v8))) = true) then
        if ¬ ((ix ((ix x0.Writes v4).Data) v8) ≠ sec0) then
          Option.map (fun z => .inr z) (consistency_Conflict_J3_S v4 (false, (mput v9 (consistency_content.mk (consistency_place.mk ((ix x0.Writes v4).Volume) (((ix x0.Writes v4).Start) + v8)) (ix ((ix x0.Writes v4).Data) v8)) v4)))
        else
          if inI (v8 + 1) then
          some (.inl ((v8 + 1), (mput v9 (consistency_content.mk (consistency_place.mk ((ix x0.Writes v4).Volume) (((ix x0.Writes v4).Start) + v8)) (ix ((ix x0.Writes v4).Data) v8)) v4)))
          else none
      else
        Option.map (fun z => .inr z) (consistency_Conflict_J3_S v4 (false, (mput v9 (consistency_content.mk (consistency_place.mk ((ix x0.Writes v4).Volume) (((ix x0.Writes v4).Start) + v8)) (ix ((ix x0.Writes v4).Data) v8)) v4)))
      else none
      else none
    else
      Option.map (fun z => .inr z) (consistency_Conflict_J3_S v4 (true, v9))
theorem consistency_Conflict_L4_sound (x0 : api_History) (v4 : Int) (s : Int × (List (consistency_content × Int))) {Φ : api_Write × Bool × Int → Prop} {rec2 : (Int × (List (consistency_content × Int))) → Prop} {rec4 : (Int × (List (consistency_content × Int))) → Prop} {o} (h : consistency_Conflict_L4_S x0 v4 s = some o) (hK : (orK rec4 (orK rec2 Φ)) o) : consistency_Conflict_L4 x0 v4 rec2 Φ s rec4 := by
  obtain ⟨v8, v9⟩ := s
  unfold consistency_Conflict_L4_S at h
  unfold consistency_Conflict_L4
  exact ifS h (fun h => adS h fun h => adS h fun h => ifS h (fun h => ifS h (fun h => mpS h fun _ hx he => consistency_Conflict_J3_sound _ _ hx (by subst he; exact hK)) fun h => adS h fun h => have t := lfS h hK; t) fun h => mpS h fun _ hx he => consistency_Conflict_J3_sound _ _ hx (by subst he; exact hK)) fun h => mpS h fun _ hx he => consistency_Conflict_J3_sound _ _ hx (by subst he; exact hK)
def consistency_Conflict_J7_S : (Bool × Int × Int × List Sec) → Option ((Int × List Int) ⊕ ((Int × (List (consistency_content × Int))) ⊕ (api_Write × Bool × Int)))
  | (v19, v20, v21, v22) =>
    some (.inr (.inr ((api_Write.mk v20 v21 v22), v19, 0)))
theorem consistency_Conflict_J7_sound (s : Bool × Int × Int × List Sec) {Φ : api_Write × Bool × Int → Prop} {rec2 : (Int × (List (consistency_content × Int))) → Prop} {rec6 : (Int × List Int) → Prop} {o} (h : consistency_Conflict_J7_S s = some o) (hK : (orK rec6 (orK rec2 Φ)) o) : consistency_Conflict_J7 Φ s := by
  obtain ⟨v19, v20, v21, v22⟩ := s
  unfold consistency_Conflict_J7_S at h
  unfold consistency_Conflict_J7
  exact have t := lfS h hK; t
def consistency_Conflict_L9_S (x1 : List (List Sec)) (v10 : Bool) (v11 : Int) (v12 : Int) (v14 : List Sec) (v18 : List (List Sec) × Int) (v23 : Int) : (Int) → Option ((Int) ⊕ ((Int) ⊕ ((Int × List Int) ⊕ ((Int × (List (consistency_content × Int))) ⊕ (api_Write × Bool × Int)))))
  | v24 =>
    if v24 < ((ix v18.1 v23).length : Int) then
      if inX v24 (ix v18.1 v23).length then
      if inX v23 x1.length then
      if inX v24 (ix x1 v23).length then
      if (ix (ix v18.1 v23) v24) ≠ (ix (ix x1 v23) v24) then
        Option.bind (consistency_single_S (consistency_place.mk v23 v24) (ix (ix v18.1 v23) v24)) fun v25 =>
        Option.map (fun z => .inr (.inr z)) (consistency_Conflict_J7_S (true, v25.Volume, v25.Start, v25.Data))
      else
        if ¬ (¬ (v10 = true)) then
          Option.map (fun z => .inr (.inr z)) (consistency_Conflict_J7_S (v10, v11, v12, v14))
        else
          if inI (v24 + 1) then
          some (.inl (v24 + 1))
          else none
      else none
      else none
      else none
    else
      if inI (v23 + 1) then
      some (.inr (.inl (v23 + 1)))
      else none
theorem consistency_Conflict_L9_sound (x1 : List (List Sec)) (v10 : Bool) (v11 : Int) (v12 : Int) (v14 : List Sec) (v18 : List (List Sec) × Int) (v23 : Int) (s : Int) {Φ : api_Write × Bool × Int → Prop} {rec2 : (Int × (List (consistency_content × Int))) → Prop} {rec6 : (Int × List Int) → Prop} {rec8 : (Int) → Prop} {rec9 : (Int) → Prop} {o} (h : consistency_Conflict_L9_S x1 v10 v11 v12 v14 v18 v23 s = some o) (hK : (orK rec9 (orK rec8 (orK rec6 (orK rec2 Φ)))) o) : consistency_Conflict_L9 x1 v10 v11 v12 v14 v18 v23 rec8 Φ s rec9 := by
  unfold consistency_Conflict_L9_S at h
  unfold consistency_Conflict_L9
  exact ifS h (fun h => adS h fun h => adS h fun h => adS h fun h => ifS h (fun h => blS h fun _ hv h => consistency_single_sound _ _ hv (mpS h fun _ hx he => consistency_Conflict_J7_sound _ hx (by subst he; exact hK))) fun h => ifS h (fun h => mpS h fun _ hx he => consistency_Conflict_J7_sound _ hx (by subst he; exact hK)) fun h => adS h fun h => have t := lfS h hK; t) fun h => adS h fun h => have t := lfS h hK; t
def consistency_Conflict_L8_S (x1 : List (List Sec)) (v10 : Bool) (v11 : Int) (v12 : Int) (v14 : List Sec) (v18 : List (List Sec) × Int) : (Int) → Option ((Int) ⊕ ((Int × List Int) ⊕ ((Int × (List (consistency_content × Int))) ⊕ (api_Write × Bool × Int))))
  | v23 =>
    if v23 < (v18.1.length : Int) then
      if inX v23 v18.1.length then
      loopS (consistency_Conflict_L9_S x1 v10 v11 v12 v14 v18 v23) 100000 0
      else none
    else
      Option.map (fun z => .inr z) (consistency_Conflict_J7_S (v10, v11, v12, v14))
theorem consistency_Conflict_L8_sound (x1 : List (List Sec)) (v10 : Bool) (v11 : Int) (v12 : Int) (v14 : List Sec) (v18 : List (List Sec) × Int) (s : Int) {Φ : api_Write × Bool × Int → Prop} {rec2 : (Int × (List (consistency_content × Int))) → Prop} {rec6 : (Int × List Int) → Prop} {rec8 : (Int) → Prop} {o} (h : consistency_Conflict_L8_S x1 v10 v11 v12 v14 v18 s = some o) (hK : (orK rec8 (orK rec6 (orK rec2 Φ))) o) : consistency_Conflict_L8 x1 v10 v11 v12 v14 v18 Φ s rec8 := by
  unfold consistency_Conflict_L8_S at h
  unfold consistency_Conflict_L8
  exact ifS h (fun h => adS h fun h => LoopW.of_S (fun s q rec hs hq => consistency_Conflict_L9_sound _ _ _ _ _ _ _ s hs hq) _ _ h hK) fun h => mpS h fun _ hx he => consistency_Conflict_J7_sound _ hx (by subst he; exact hK)
def consistency_Conflict_L6_S (x0 : api_History) (x1 : List (List Sec)) (v10 : Bool) (v11 : Int) (v12 : Int) (v13 : List (Int × Bool)) (v14 : List Sec) : (Int × List Int) → Option ((Int × List Int) ⊕ ((Int × (List (consistency_content × Int))) ⊕ (api_Write × Bool × Int)))
  | (v15, v16) =>
    if v15 < (x0.Writes.length : Int) then
      if (mget v13 v15 false) = true then
        if lenOk (v16 ++ ([v15] : List Int)).length 8 then
        if inI (v15 + 1) then
        some (.inl ((v15 + 1), (v16 ++ ([v15] : List Int))))
        else none
        else none
      else
        if inI (v15 + 1) then
        some (.inl ((v15 + 1), v16))
        else none
    else
      Option.bind (cut_Least_S x0 v16) fun v17 =>
      if v17.2 ≠ 0 then
        some (.inr (.inr ((api_Write.mk 0 0 ([] : List Sec)), false, v17.2)))
      else
        Option.bind (history_Image_S x0 v17.1) fun v18 =>
        if v18.2 ≠ 0 then
          some (.inr (.inr ((api_Write.mk 0 0 ([] : List Sec)), false, v18.2)))
        else
          loopS (consistency_Conflict_L8_S x1 v10 v11 v12 v14 v18) 100000 0
theorem consistency_Conflict_L6_sound (x0 : api_History) (x1 : List (List Sec)) (v10 : Bool) (v11 : Int) (v12 : Int) (v13 : List (Int × Bool)) (v14 : List Sec) (s : Int × List Int) {Φ : api_Write × Bool × Int → Prop} {rec2 : (Int × (List (consistency_content × Int))) → Prop} {rec6 : (Int × List Int) → Prop} {o} (h : consistency_Conflict_L6_S x0 x1 v10 v11 v12 v13 v14 s = some o) (hK : (orK rec6 (orK rec2 Φ)) o) : consistency_Conflict_L6 x0 x1 v10 v11 v12 v13 v14 Φ s rec6 := by
  obtain ⟨v15, v16⟩ := s
  unfold consistency_Conflict_L6_S at h
  unfold consistency_Conflict_L6
  exact ifS h (fun h => ifS h (fun h => adS h fun h => adS h fun h => have t := lfS h hK; t) fun h => adS h fun h => have t := lfS h hK; t) fun h => blS h fun _ hv h => cut_Least_sound _ _ hv (ifS h (fun h => have t := lfS h hK; t) fun h => blS h fun _ hv h => history_Image_sound _ _ hv (ifS h (fun h => have t := lfS h hK; t) fun h => LoopW.of_S (fun s q rec hs hq => consistency_Conflict_L8_sound _ _ _ _ _ _ s hs hq) _ _ h hK))
def consistency_Conflict_J5_S (x0 : api_History) (x1 : List (List Sec)) : (Bool × Int × Int × (List (Int × Bool)) × List Sec) → Option ((Int × (List (consistency_content × Int))) ⊕ (api_Write × Bool × Int))
  | (v10, v11, v12, v13, v14) =>
    if v10 = true then
      some (.inr ((api_Write.mk v11 v12 v14), true, 0))
    else
      loopS (consistency_Conflict_L6_S x0 x1 v10 v11 v12 v13 v14) 100000 (0, ([] : List Int))
theorem consistency_Conflict_J5_sound (x0 : api_History) (x1 : List (List Sec)) (s : Bool × Int × Int × (List (Int × Bool)) × List Sec) {Φ : api_Write × Bool × Int → Prop} {rec2 : (Int × (List (consistency_content × Int))) → Prop} {o} (h : consistency_Conflict_J5_S x0 x1 s = some o) (hK : (orK rec2 Φ) o) : consistency_Conflict_J5 x0 x1 Φ s := by
  obtain ⟨v10, v11, v12, v13, v14⟩ := s
  unfold consistency_Conflict_J5_S at h
  unfold consistency_Conflict_J5
  exact ifS h (fun h => have t := lfS h hK; t) fun h => LoopW.of_S (fun s q rec hs hq => consistency_Conflict_L6_sound _ _ _ _ _ _ _ s hs hq) _ _ h hK
def consistency_Conflict_L11_S (x0 : api_History) (x1 : List (List Sec)) (v5 : List (consistency_content × Int)) (v26 : Int) : (Int × (List (Int × Bool))) → Option ((Int × (List (Int × Bool))) ⊕ ((Int × (List (Int × Bool))) ⊕ ((Int × (List (consistency_content × Int))) ⊕ (api_Write × Bool × Int))))
  | (v28, v29) =>
    if v28 < ((ix x1 v26).length : Int) then
      if inX v28 (ix x1 v26).length then
      if (ix (ix x1 v26) v28) = sec0 then
        if inI (v28 + 1) then
        some (.inl ((v28 + 1), v29))
        else none
      else
        if ¬ ((mhas v5 (consistency_content.mk (consistency_place.mk v26 v28) (ix (ix x1 v26) v28))) = true) then
          Option.bind (consistency_single_S (consistency_place.mk v26 v28) (ix (ix x1 v26) v28)) fun v30 =>
          Option.map (fun z => .inr (.inr z)) (consistency_Conflict_J5_S x0 x1 (true, v30.Volume, v30.Start, v29, v30.Data))
        else
          if inI (v28 + 1) then
          some (.inl ((v28 + 1), (mput v29 (mget v5 (consistency_content.mk (consistency_place.mk v26 v28) (ix (ix x1 v26) v28)) 0) true)))
          else none
      else none
    else
      if inI (v26 + 1) then
      some (.inr (.inl ((v26 + 1), v29)))
      else none
theorem consistency_Conflict_L11_sound (x0 : api_History) (x1 : List (List Sec)) (v5 : List (consistency_content × Int)) (v26 : Int) (s : Int × (List (Int × Bool))) {Φ : api_Write × Bool × Int → Prop} {rec2 : (Int × (List (consistency_content × Int))) → Prop} {rec10 : (Int × (List (Int × Bool))) → Prop} {rec11 : (Int × (List (Int × Bool))) → Prop} {o} (h : consistency_Conflict_L11_S x0 x1 v5 v26 s = some o) (hK : (orK rec11 (orK rec10 (orK rec2 Φ))) o) : consistency_Conflict_L11 x0 x1 v5 v26 rec10 Φ s rec11 := by
  obtain ⟨v28, v29⟩ := s
  unfold consistency_Conflict_L11_S at h
  unfold consistency_Conflict_L11
  exact ifS h (fun h => adS h fun h => ifS h (fun h => adS h fun h => have t := lfS h hK; t) fun h => ifS h (fun h => blS h fun _ hv h => consistency_single_sound _ _ hv (mpS h fun _ hx he => consistency_Conflict_J5_sound _ _ _ hx (by subst he; exact hK))) fun h => adS h fun h => have t := lfS h hK; t) fun h => adS h fun h => have t := lfS h hK; t
def consistency_Conflict_L10_S (x0 : api_History) (x1 : List (List Sec)) (v5 : List (consistency_content × Int)) : (Int × (List (Int × Bool))) → Option ((Int × (List (Int × Bool))) ⊕ ((Int × (List (consistency_content × Int))) ⊕ (api_Write × Bool × Int)))
  | (v26, v27) =>
    if v26 < (x1.length : Int) then
      if inX v26 x1.length then
      loopS (consistency_Conflict_L11_S x0 x1 v5 v26) 100000 (0, v27)
      else none
    else
      Option.map (fun z => .inr z) (consistency_Conflict_J5_S x0 x1 (false, 0, 0, v27, ([] : List Sec)))
theorem consistency_Conflict_L10_sound (x0 : api_History) (x1 : List (List Sec)) (v5 : List (consistency_content × Int)) (s : Int × (List (Int × Bool))) {Φ : api_Write × Bool × Int → Prop} {rec2 : (Int × (List (consistency_content × Int))) → Prop} {rec10 : (Int × (List (Int × Bool))) → Prop} {o} (h : consistency_Conflict_L10_S x0 x1 v5 s = some o) (hK : (orK rec10 (orK rec2 Φ)) o) : consistency_Conflict_L10 x0 x1 v5 Φ s rec10 := by
  obtain ⟨v26, v27⟩ := s
  unfold consistency_Conflict_L10_S at h
  unfold consistency_Conflict_L10
  exact ifS h (fun h => adS h fun h => LoopW.of_S (fun s q rec hs hq => consistency_Conflict_L11_sound _ _ _ _ s hs hq) _ _ h hK) fun h => mpS h fun _ hx he => consistency_Conflict_J5_sound _ _ _ hx (by subst he; exact hK)
def consistency_Conflict_L2_S (x0 : api_History) (x1 : List (List Sec)) : (Int × (List (consistency_content × Int))) → Option ((Int × (List (consistency_content × Int))) ⊕ (api_Write × Bool × Int))
  | (v4, v5) =>
    if v4 < (x0.Writes.length : Int) then
      if inX v4 x0.Writes.length then
      loopS (consistency_Conflict_L4_S x0 v4) 100000 (0, v5)
      else none
    else
      if (0 : Int) ≠ 0 then
        some (.inr ((api_Write.mk 0 0 ([] : List Sec)), false, 0))
      else
        loopS (consistency_Conflict_L10_S x0 x1 v5) 100000 (0, ([] : List (Int × Bool)))
theorem consistency_Conflict_L2_sound (x0 : api_History) (x1 : List (List Sec)) (s : Int × (List (consistency_content × Int))) {Φ : api_Write × Bool × Int → Prop} {rec2 : (Int × (List (consistency_content × Int))) → Prop} {o} (h : consistency_Conflict_L2_S x0 x1 s = some o) (hK : (orK rec2 Φ) o) : consistency_Conflict_L2 x0 x1 Φ s rec2 := by
  obtain ⟨v4, v5⟩ := s
  unfold consistency_Conflict_L2_S at h
  unfold consistency_Conflict_L2
  exact ifS h (fun h => adS h fun h => LoopW.of_S (fun s q rec hs hq => consistency_Conflict_L4_sound _ _ s hs hq) _ _ h hK) fun h => ifS h (fun h => have t := lfS h hK; t) fun h => LoopW.of_S (fun s q rec hs hq => consistency_Conflict_L10_sound _ _ _ s hs hq) _ _ h hK
def consistency_Conflict_J1_S (x0 : api_History) (x1 : List (List Sec)) : (Bool) → Option (api_Write × Bool × Int)
  | v3 =>
    if v3 = true then
      if (22 : Int) ≠ 0 then
        some (((api_Write.mk 0 0 ([] : List Sec)), false, 22))
      else
        none
    else
      loopS (consistency_Conflict_L2_S x0 x1) 100000 (0, ([] : List (consistency_content × Int)))
theorem consistency_Conflict_J1_sound (x0 : api_History) (x1 : List (List Sec)) (s : Bool) {Φ : api_Write × Bool × Int → Prop} {o} (h : consistency_Conflict_J1_S x0 x1 s = some o) (hK : Φ o) : consistency_Conflict_J1 x0 x1 Φ s := by
  unfold consistency_Conflict_J1_S at h
  unfold consistency_Conflict_J1
  exact ifS h (fun h => ifS h (fun h => have t := lfS h hK; t) fun h => (by cases h)) fun h => LoopW.of_S (fun s q rec hs hq => consistency_Conflict_L2_sound _ _ s hs hq) _ _ h hK
def consistency_Conflict_L12_S (x0 : api_History) (x1 : List (List Sec)) : (Int) → Option ((Int) ⊕ (api_Write × Bool × Int))
  | v31 =>
    if v31 < (x1.length : Int) then
      if inX v31 x1.length then
      if inX v31 x0.Sizes.length then
      Option.bind (consistency_newJudge_1_S (ix x1 v31) (ix x0.Sizes v31)) fun v32 =>
      if ¬ (v32 = true) then
        Option.map (fun z => .inr z) (consistency_Conflict_J1_S x0 x1 true)
      else
        if inI (v31 + 1) then
        some (.inl (v31 + 1))
        else none
      else none
      else none
    else
      Option.map (fun z => .inr z) (consistency_Conflict_J1_S x0 x1 false)
theorem consistency_Conflict_L12_sound (x0 : api_History) (x1 : List (List Sec)) (s : Int) {Φ : api_Write × Bool × Int → Prop} {rec12 : (Int) → Prop} {o} (h : consistency_Conflict_L12_S x0 x1 s = some o) (hK : (orK rec12 Φ) o) : consistency_Conflict_L12 x0 x1 Φ s rec12 := by
  unfold consistency_Conflict_L12_S at h
  unfold consistency_Conflict_L12
  exact ifS h (fun h => adS h fun h => adS h fun h => blS h fun _ hv h => consistency_newJudge_1_sound _ _ hv (ifS h (fun h => mpS h fun _ hx he => consistency_Conflict_J1_sound _ _ _ hx (by subst he; exact hK)) fun h => adS h fun h => have t := lfS h hK; t)) fun h => mpS h fun _ hx he => consistency_Conflict_J1_sound _ _ _ hx (by subst he; exact hK)
def consistency_Conflict_S (x0 : api_History) (x1 : List (List Sec)) : Option (api_Write × Bool × Int) :=
  Option.bind (history_Check_S x0) fun v1 =>
  if v1 ≠ 0 then
    if v1 ≠ 0 then
      some (((api_Write.mk 0 0 ([] : List Sec)), false, v1))
    else
      none
  else
    Option.bind (image_Check_S x1) fun v2 =>
    if v2 ≠ 0 then
      if v2 ≠ 0 then
        some (((api_Write.mk 0 0 ([] : List Sec)), false, v2))
      else
        none
    else
      if (x1.length : Int) ≠ (x0.Sizes.length : Int) then
        consistency_Conflict_J1_S x0 x1 true
      else
        loopS (consistency_Conflict_L12_S x0 x1) 100000 0
theorem consistency_Conflict_sound (x0 : api_History) (x1 : List (List Sec)) {Φ : api_Write × Bool × Int → Prop} {o} (h : consistency_Conflict_S x0 x1 = some o) (hK : Φ o) : consistency_Conflict_W x0 x1 Φ := by
  unfold consistency_Conflict_S at h
  unfold consistency_Conflict_W
  exact blS h fun _ hv h => history_Check_sound _ hv (ifS h (fun h => ifS h (fun h => have t := lfS h hK; t) fun h => (by cases h)) fun h => blS h fun _ hv h => image_Check_sound _ hv (ifS h (fun h => ifS h (fun h => have t := lfS h hK; t) fun h => (by cases h)) fun h => ifS h (fun h => consistency_Conflict_J1_sound _ _ _ h hK) fun h => LoopW.of_S (fun s q rec hs hq => consistency_Conflict_L12_sound _ _ s hs hq) _ _ h hK))
def consistency_Distinct_J2_S (v2 : Int) : (Bool × (List (consistency_content × Int))) → Option ((Int × (List (consistency_content × Int))) ⊕ (Bool))
  | (v4, v5) =>
    if ¬ (v4 = true) then
      some (.inr false)
    else
      if inI (v2 + 1) then
      some (.inl ((v2 + 1), v5))
      else none
theorem consistency_Distinct_J2_sound (v2 : Int) (s : Bool × (List (consistency_content × Int))) {Φ : Bool → Prop} {rec1 : (Int × (List (consistency_content × Int))) → Prop} {o} (h : consistency_Distinct_J2_S v2 s = some o) (hK : (orK rec1 Φ) o) : consistency_Distinct_J2 v2 rec1 Φ s := by
  obtain ⟨v4, v5⟩ := s
  unfold consistency_Distinct_J2_S at h
  unfold consistency_Distinct_J2
  exact ifS h (fun h => have t := lfS h hK; t) fun h => adS h fun h => have t := lfS h hK; t
def consistency_Distinct_L3_S (x0 : api_History) (v2 : Int) : (Int × (List (consistency_content × Int))) → Option ((Int × (List (consistency_content × Int))) ⊕ ((Int × (List (consistency_content × Int))) ⊕ (Bool)))
  | (v6, v7) =>
    if v6 < (((ix x0.Writes v2).Data).length : Int) then
      if inX v6 ((ix x0.Writes v2).Data).length then
      if inI (((ix x0.Writes v2).Start) + v6) then
      if ¬ ((mhas v7 (consistency_content.mk (consistency_place.mk ((ix x0.Writes v2).Volume) (((ix x0.Writes v2).Start) + v6)) (ix ((ix x0.Writes v2).Data) v6))) = true) then
        if ¬ ((ix ((ix x0.Writes v2).Data) v6) ≠ sec0) then
          Option.map (fun z => .inr z) (consistency_Distinct_J2_S v2 (false, (mput v7 (consistency_content.mk (consistency_place.mk ((ix x0.Writes v2).Volume) (((ix x0.Writes v2).Start) + v6)) (ix ((ix x0.Writes v2).Data) v6)) v2)))
        else
          if inI (v6 + 1) then
          some (.inl ((v6 + 1), (mput v7 (consistency_content.mk (consistency_place.mk ((ix x0.Writes v2).Volume) (((ix x0.Writes v2).Start) + v6)) (ix ((ix x0.Writes v2).Data) v6)) v2)))
          else none
      else
        Option.map (fun z => .inr z) (consistency_Distinct_J2_S v2 (false, (mput v7 (consistency_content.mk (consistency_place.mk ((ix x0.Writes v2).Volume) (((ix x0.Writes v2).Start) + v6)) (ix ((ix x0.Writes v2).Data) v6)) v2)))
      else none
      else none
    else
      Option.map (fun z => .inr z) (consistency_Distinct_J2_S v2 (true, v7))
theorem consistency_Distinct_L3_sound (x0 : api_History) (v2 : Int) (s : Int × (List (consistency_content × Int))) {Φ : Bool → Prop} {rec1 : (Int × (List (consistency_content × Int))) → Prop} {rec3 : (Int × (List (consistency_content × Int))) → Prop} {o} (h : consistency_Distinct_L3_S x0 v2 s = some o) (hK : (orK rec3 (orK rec1 Φ)) o) : consistency_Distinct_L3 x0 v2 rec1 Φ s rec3 := by
  obtain ⟨v6, v7⟩ := s
  unfold consistency_Distinct_L3_S at h
  unfold consistency_Distinct_L3
  exact ifS h (fun h => adS h fun h => adS h fun h => ifS h (fun h => ifS h (fun h => mpS h fun _ hx he => consistency_Distinct_J2_sound _ _ hx (by subst he; exact hK)) fun h => adS h fun h => have t := lfS h hK; t) fun h => mpS h fun _ hx he => consistency_Distinct_J2_sound _ _ hx (by subst he; exact hK)) fun h => mpS h fun _ hx he => consistency_Distinct_J2_sound _ _ hx (by subst he; exact hK)
def consistency_Distinct_L1_S (x0 : api_History) : (Int × (List (consistency_content × Int))) → Option ((Int × (List (consistency_content × Int))) ⊕ (Bool))
  | (v2, v3) =>
    if v2 < (x0.Writes.length : Int) then
      if inX v2 x0.Writes.length then
      loopS (consistency_Distinct_L3_S x0 v2) 100000 (0, v3)
      else none
    else
      some (.inr true)
theorem consistency_Distinct_L1_sound (x0 : api_History) (s : Int × (List (consistency_content × Int))) {Φ : Bool → Prop} {rec1 : (Int × (List (consistency_content × Int))) → Prop} {o} (h : consistency_Distinct_L1_S x0 s = some o) (hK : (orK rec1 Φ) o) : consistency_Distinct_L1 x0 Φ s rec1 := by
  obtain ⟨v2, v3⟩ := s
  unfold consistency_Distinct_L1_S at h
  unfold consistency_Distinct_L1
  exact ifS h (fun h => adS h fun h => LoopW.of_S (fun s q rec hs hq => consistency_Distinct_L3_sound _ _ s hs hq) _ _ h hK) fun h => have t := lfS h hK; t
def consistency_Distinct_S (x0 : api_History) : Option (Bool) :=
  Option.bind (history_Check_S x0) fun v1 =>
  if v1 ≠ 0 then
    some (false)
  else
    loopS (consistency_Distinct_L1_S x0) 100000 (0, ([] : List (consistency_content × Int)))
theorem consistency_Distinct_sound (x0 : api_History) {Φ : Bool → Prop} {o} (h : consistency_Distinct_S x0 = some o) (hK : Φ o) : consistency_Distinct_W x0 Φ := by
  unfold consistency_Distinct_S at h
  unfold consistency_Distinct_W
  exact blS h fun _ hv h => history_Check_sound _ hv (ifS h (fun h => have t := lfS h hK; t) fun h => LoopW.of_S (fun s q rec hs hq => consistency_Distinct_L1_sound _ s hs hq) _ _ h hK)
def law18_awake_1_S (x0 : Int) (x1 : BitVec 8) : Option (List api_Write) :=
  some (([(api_Write.mk 0 x0 ([(Sec.mk x1 (0#8) (0#8) (0#8) (0#8) (0#8) (0#8) (0#8))] : List Sec))] : List api_Write))
theorem law18_awake_1_sound (x0 : Int) (x1 : BitVec 8) {Φ : List api_Write → Prop} {o} (h : law18_awake_1_S x0 x1 = some o) (hK : Φ o) : law18_awake_1_W x0 x1 Φ := by
  unfold law18_awake_1_S at h
  unfold law18_awake_1_W
  exact have t := lfS h hK; t
def ref03_SameSectors_L1_S (x0 : List Sec) (x1 : List Sec) : (Int) → Option ((Int) ⊕ (Bool))
  | v1 =>
    if v1 < (x0.length : Int) then
      if inX v1 x0.length then
      if inX v1 x1.length then
      if (ix x0 v1) ≠ (ix x1 v1) then
        some (.inr false)
      else
        if inI (v1 + 1) then
        some (.inl (v1 + 1))
        else none
      else none
      else none
    else
      some (.inr true)
theorem ref03_SameSectors_L1_sound (x0 : List Sec) (x1 : List Sec) (s : Int) {Φ : Bool → Prop} {rec1 : (Int) → Prop} {o} (h : ref03_SameSectors_L1_S x0 x1 s = some o) (hK : (orK rec1 Φ) o) : ref03_SameSectors_L1 x0 x1 Φ s rec1 := by
  unfold ref03_SameSectors_L1_S at h
  unfold ref03_SameSectors_L1
  exact ifS h (fun h => adS h fun h => adS h fun h => ifS h (fun h => have t := lfS h hK; t) fun h => adS h fun h => have t := lfS h hK; t) fun h => have t := lfS h hK; t
def ref03_SameSectors_S (x0 : List Sec) (x1 : List Sec) : Option (Bool) :=
  if (x0.length : Int) ≠ (x1.length : Int) then
    some (false)
  else
    loopS (ref03_SameSectors_L1_S x0 x1) 100000 0
theorem ref03_SameSectors_sound (x0 : List Sec) (x1 : List Sec) {Φ : Bool → Prop} {o} (h : ref03_SameSectors_S x0 x1 = some o) (hK : Φ o) : ref03_SameSectors_W x0 x1 Φ := by
  unfold ref03_SameSectors_S at h
  unfold ref03_SameSectors_W
  exact ifS h (fun h => have t := lfS h hK; t) fun h => LoopW.of_S (fun s q rec hs hq => ref03_SameSectors_L1_sound _ _ s hs hq) _ _ h hK
def ref03_SameWrites_L1_S (x0 : List api_Write) (x1 : List api_Write) : (Int) → Option ((Int) ⊕ (Bool))
  | v1 =>
    if v1 < (x0.length : Int) then
      if inX v1 x0.length then
      if inX v1 x1.length then
      if ((ix x0 v1).Volume) ≠ ((ix x1 v1).Volume) then
        some (.inr false)
      else
        if inX v1 x0.length then
        if inX v1 x1.length then
        if ((ix x0 v1).Start) ≠ ((ix x1 v1).Start) then
          some (.inr false)
        else
          if inX v1 x0.length then
          if inX v1 x1.length then
          Option.bind (ref03_SameSectors_S ((ix x0 v1).Data) ((ix x1 v1).Data)) fun z =>
          let v2 : Bool × Unit := (z, ())
          if ¬ (v2.1 = true) then
            some (.inr false)
          else
            if inI (v1 + 1) then
            some (.inl (v1 + 1))
            else none
          else none
          else none
        else none
        else none
      else none
      else none
    else
      some (.inr true)
theorem ref03_SameWrites_L1_sound (x0 : List api_Write) (x1 : List api_Write) (s : Int) {Φ : Bool → Prop} {rec1 : (Int) → Prop} {o} (h : ref03_SameWrites_L1_S x0 x1 s = some o) (hK : (orK rec1 Φ) o) : ref03_SameWrites_L1 x0 x1 Φ s rec1 := by
  unfold ref03_SameWrites_L1_S at h
  unfold ref03_SameWrites_L1
  exact ifS h (fun h => adS h fun h => adS h fun h => ifS h (fun h => have t := lfS h hK; t) fun h => adS h fun h => adS h fun h => ifS h (fun h => have t := lfS h hK; t) fun h => adS h fun h => adS h fun h => blS h fun _ hv h => ⟨_, ref03_SameSectors_sound _ _ hv rfl, ifS h (fun h => have t := lfS h hK; t) fun h => adS h fun h => have t := lfS h hK; t⟩) fun h => have t := lfS h hK; t
def ref03_SameWrites_S (x0 : List api_Write) (x1 : List api_Write) : Option (Bool) :=
  if (x0.length : Int) ≠ (x1.length : Int) then
    some (false)
  else
    loopS (ref03_SameWrites_L1_S x0 x1) 100000 0
theorem ref03_SameWrites_sound (x0 : List api_Write) (x1 : List api_Write) {Φ : Bool → Prop} {o} (h : ref03_SameWrites_S x0 x1 = some o) (hK : Φ o) : ref03_SameWrites_W x0 x1 Φ := by
  unfold ref03_SameWrites_S at h
  unfold ref03_SameWrites_W
  exact ifS h (fun h => have t := lfS h hK; t) fun h => LoopW.of_S (fun s q rec hs hq => ref03_SameWrites_L1_sound _ _ s hs hq) _ _ h hK
def law18_awake_J1_S (v1 : api_History) : (Unit) → Option (Bool)
  | _ =>
    Option.bind (law18_of_S (0#8) (2#8) (0#8)) fun z =>
    let v2 : List (List Sec) × Unit := (z, ())
    Option.bind (consistency_Find_S v1 v2.1) fun z =>
    let v3 : List Int × Bool × Int × Unit := (z.1, z.2.1, z.2.2, ())
    Option.bind (law18_of_S (0#8) (2#8) (0#8)) fun z =>
    let v4 : List (List Sec) × Unit := (z, ())
    Option.bind (consistency_Conflict_S v1 v4.1) fun z =>
    let v5 : api_Write × Bool × Int × Unit := (z.1, z.2.1, z.2.2, ())
    Option.bind (law18_of_S (1#8) (5#8) (0#8)) fun z =>
    let v6 : List (List Sec) × Unit := (z, ())
    Option.bind (consistency_Conflict_S v1 v6.1) fun z =>
    let v7 : api_Write × Bool × Int × Unit := (z.1, z.2.1, z.2.2, ())
    Option.bind (law18_of_S (3#8) (2#8) (0#8)) fun z =>
    let v8 : List (List Sec) × Unit := (z, ())
    Option.bind (consistency_Conflict_S v1 v8.1) fun z =>
    let v9 : api_Write × Bool × Int × Unit := (z.1, z.2.1, z.2.2, ())
    if v3.2.1 = true then
      some (false)
    else
      if inI (v3.2.2.1 + v5.2.2.1) then
      if inI ((v3.2.2.1 + v5.2.2.1) + v7.2.2.1) then
      if inI (((v3.2.2.1 + v5.2.2.1) + v7.2.2.1) + v9.2.2.1) then
      if (((v3.2.2.1 + v5.2.2.1) + v7.2.2.1) + v9.2.2.1) ≠ 0 then
        some (false)
      else
        if ¬ (v5.2.1 = true) then
          some (false)
        else
          if ¬ (v7.2.1 = true) then
            some (false)
          else
            if ¬ (v9.2.1 = true) then
              some (false)
            else
              Option.bind (consistency_Distinct_S v1) fun v10 =>
              if ¬ (v10 = true) then
                some (false)
              else
                Option.bind (law18_awake_1_S 0 (1#8)) fun z =>
                let v11 : List api_Write × Unit := (z, ())
                Option.bind (ref03_SameWrites_S ([v5.1] : List api_Write) v11.1) fun z =>
                let v12 : Bool × Unit := (z, ())
                if v12.1 = true then
                  Option.bind (law18_awake_1_S 1 (5#8)) fun z =>
                  let v13 : List api_Write × Unit := (z, ())
                  Option.bind (ref03_SameWrites_S ([v7.1] : List api_Write) v13.1) fun z =>
                  let v14 : Bool × Unit := (z, ())
                  if v14.1 = true then
                    Option.bind (law18_awake_1_S 1 (4#8)) fun z =>
                    let v15 : List api_Write × Unit := (z, ())
                    Option.bind (ref03_SameWrites_S ([v9.1] : List api_Write) v15.1) fun z =>
                    let v16 : Bool × Unit := (z, ())
                    some (v16.1)
                  else
                    some (false)
                else
                  some (false)
      else none
      else none
      else none
theorem law18_awake_J1_sound (v1 : api_History) (s : Unit) {Φ : Bool → Prop} {o} (h : law18_awake_J1_S v1 s = some o) (hK : Φ o) : law18_awake_J1 v1 Φ s := by
  unfold law18_awake_J1_S at h
  unfold law18_awake_J1
  exact blS h fun _ hv h => ⟨_, law18_of_sound _ _ _ hv rfl, blS h fun _ hv h => ⟨_, consistency_Find_sound _ _ hv rfl, blS h fun _ hv h => ⟨_, law18_of_sound _ _ _ hv rfl, blS h fun _ hv h => ⟨_, consistency_Conflict_sound _ _ hv rfl, blS h fun _ hv h => ⟨_, law18_of_sound _ _ _ hv rfl, blS h fun _ hv h => ⟨_, consistency_Conflict_sound _ _ hv rfl, blS h fun _ hv h => ⟨_, law18_of_sound _ _ _ hv rfl, blS h fun _ hv h => ⟨_, consistency_Conflict_sound _ _ hv rfl, ifS h (fun h => have t := lfS h hK; t) fun h => adS h fun h => adS h fun h => adS h fun h => ifS h (fun h => have t := lfS h hK; t) fun h => ifS h (fun h => have t := lfS h hK; t) fun h => ifS h (fun h => have t := lfS h hK; t) fun h => ifS h (fun h => have t := lfS h hK; t) fun h => blS h fun _ hv h => consistency_Distinct_sound _ hv (ifS h (fun h => have t := lfS h hK; t) fun h => blS h fun _ hv h => ⟨_, law18_awake_1_sound _ _ hv rfl, blS h fun _ hv h => ⟨_, ref03_SameWrites_sound _ _ hv rfl, ifS h (fun h => blS h fun _ hv h => ⟨_, law18_awake_1_sound _ _ hv rfl, blS h fun _ hv h => ⟨_, ref03_SameWrites_sound _ _ hv rfl, ifS h (fun h => blS h fun _ hv h => ⟨_, law18_awake_1_sound _ _ hv rfl, blS h fun _ hv h => ⟨_, ref03_SameWrites_sound _ _ hv rfl, have t := lfS h hK; t⟩⟩) fun h => have t := lfS h hK; t⟩⟩) fun h => have t := lfS h hK; t⟩⟩)⟩⟩⟩⟩⟩⟩⟩⟩
def law18_awake_J3_S (v1 : api_History) (v17 : List (List Sec)) (v18 : List (List Sec)) (v19 : List (List Sec)) (v20 : List (List Sec)) (v21 : Int) : (Unit) → Option ((Int) ⊕ (Bool))
  | _ =>
    if inX v21 ([v17, v18, v19, v20] : List (List (List Sec))).length then
    Option.bind (consistency_Find_S v1 (ix ([v17, v18, v19, v20] : List (List (List Sec))) v21)) fun v22 =>
    Option.bind (consistency_Newest_S v1 (ix ([v17, v18, v19, v20] : List (List (List Sec))) v21)) fun v23 =>
    if v22.2.2 ≠ 0 then
      some (.inr false)
    else
      if v23.2.2 ≠ 0 then
        some (.inr false)
      else
        if ¬ (v22.2.1 = true) then
          some (.inr false)
        else
          if ¬ (v23.2.1 = true) then
            some (.inr false)
          else
            Option.bind (ref15_First_S v21) fun v24 =>
            Option.bind (slices_Equal_int_int_S v22.1 v24) fun v25 =>
            if ¬ (v25 = true) then
              some (.inr false)
            else
              Option.bind (ref15_First_S v21) fun v26 =>
              Option.bind (slices_Equal_int_int_S v23.1 v26) fun v27 =>
              if ¬ (v27 = true) then
                some (.inr false)
              else
                if inI (v21 + 1) then
                some (.inl (v21 + 1))
                else none
    else none
theorem law18_awake_J3_sound (v1 : api_History) (v17 : List (List Sec)) (v18 : List (List Sec)) (v19 : List (List Sec)) (v20 : List (List Sec)) (v21 : Int) (s : Unit) {Φ : Bool → Prop} {rec2 : (Int) → Prop} {o} (h : law18_awake_J3_S v1 v17 v18 v19 v20 v21 s = some o) (hK : (orK rec2 Φ) o) : law18_awake_J3 v1 v17 v18 v19 v20 v21 rec2 Φ s := by
  unfold law18_awake_J3_S at h
  unfold law18_awake_J3
  exact adS h fun h => blS h fun _ hv h => consistency_Find_sound _ _ hv (blS h fun _ hv h => consistency_Newest_sound _ _ hv (ifS h (fun h => have t := lfS h hK; t) fun h => ifS h (fun h => have t := lfS h hK; t) fun h => ifS h (fun h => have t := lfS h hK; t) fun h => ifS h (fun h => have t := lfS h hK; t) fun h => blS h fun _ hv h => ref15_First_sound _ hv (blS h fun _ hv h => slices_Equal_int_int_sound _ _ hv (ifS h (fun h => have t := lfS h hK; t) fun h => blS h fun _ hv h => ref15_First_sound _ hv (blS h fun _ hv h => slices_Equal_int_int_sound _ _ hv (ifS h (fun h => have t := lfS h hK; t) fun h => adS h fun h => have t := lfS h hK; t))))))
def law18_awake_L2_S (v1 : api_History) (v17 : List (List Sec)) (v18 : List (List Sec)) (v19 : List (List Sec)) (v20 : List (List Sec)) : (Int) → Option ((Int) ⊕ (Bool))
  | v21 =>
    if v21 < (([v17, v18, v19, v20] : List (List (List Sec))).length : Int) then
      law18_awake_J3_S v1 v17 v18 v19 v20 v21 ()
    else
      Option.map (fun z => .inr z) (law18_awake_J1_S v1 ())
theorem law18_awake_L2_sound (v1 : api_History) (v17 : List (List Sec)) (v18 : List (List Sec)) (v19 : List (List Sec)) (v20 : List (List Sec)) (s : Int) {Φ : Bool → Prop} {rec2 : (Int) → Prop} {o} (h : law18_awake_L2_S v1 v17 v18 v19 v20 s = some o) (hK : (orK rec2 Φ) o) : law18_awake_L2 v1 v17 v18 v19 v20 Φ s rec2 := by
  unfold law18_awake_L2_S at h
  unfold law18_awake_L2
  exact ifS h (fun h => law18_awake_J3_sound _ _ _ _ _ _ _ h hK) fun h => mpS h fun _ hx he => law18_awake_J1_sound _ _ hx (by subst he; exact hK)
def law18_awake_S : Option (Bool) :=
  Option.bind (law18_example_S) fun v1 =>
  Option.bind (law18_of_S (0#8) (0#8) (0#8)) fun v17 =>
  Option.bind (law18_of_S (1#8) (0#8) (0#8)) fun v18 =>
  Option.bind (law18_of_S (1#8) (2#8) (0#8)) fun v19 =>
  Option.bind (law18_of_S (3#8) (4#8) (0#8)) fun v20 =>
  loopS (law18_awake_L2_S v1 v17 v18 v19 v20) 100000 0
theorem law18_awake_sound {Φ : Bool → Prop} {o} (h : law18_awake_S = some o) (hK : Φ o) : law18_awake_W Φ := by
  unfold law18_awake_S at h
  unfold law18_awake_W
  exact blS h fun _ hv h => law18_example_sound hv (blS h fun _ hv h => law18_of_sound _ _ _ hv (blS h fun _ hv h => law18_of_sound _ _ _ hv (blS h fun _ hv h => law18_of_sound _ _ _ hv (blS h fun _ hv h => law18_of_sound _ _ _ hv (LoopW.of_S (fun s q rec hs hq => law18_awake_L2_sound _ _ _ _ _ s hs hq) _ _ h hK)))))
theorem law18_awake_ok {Φ : Bool → Prop} (h : Φ true) : law18_awake_W Φ := law18_awake_sound (o := true) (by kernel_rfl) h
def inW (w : api_Write) (v s : Int) : Prop := w.Volume = v ∧ w.Start ≤ s ∧ s < w.Start + (w.Data.length : Int)
instance (w : api_Write) (v s : Int) : Decidable (inW w v s) := by unfold inW; infer_instance
def contC (w : api_Write) (v s : Int) : Sec × Bool := if inW w v s then (ix w.Data (s - w.Start), true) else (sec0, false)
theorem ref18_Content_ok {w : api_Write} {v s : Int} {Φ : Sec × Bool → Prop} (h0 : 0 ≤ w.Start) (h1 : w.Start ≤ 1000000) (hd : w.Data.length ≤ 1000000) (hs : s ≤ 10000000) (hΦ : Φ (contC w v s)) : ref18_Content_W w v s Φ := by
  unfold contC at hΦ
  have no : ¬ inW w v s → Φ (sec0, false) := fun q => by rw [if_neg q] at hΦ; exact hΦ
  refine ⟨fun q => ⟨fun _ => no fun r => q r.1, fun r => absurd rfl r⟩, fun q => ⟨fun r => ⟨fun _ => no fun t => by have := t.2.1; omega, fun t => absurd rfl t⟩, fun r => ⟨iI (by omega) (by omega), fun t => no fun u => ?_, fun t => ?_⟩⟩⟩
  · have := of_decide_eq_true t; have := u.2.2; omega
  · have t := of_decide_eq_false (Bool.eq_false_iff.2 t)
    rw [if_pos ⟨Classical.not_not.1 q, by omega, by omega⟩] at hΦ
    exact ⟨iI (by omega) (by omega), iX (by omega) (by omega), hΦ⟩
def hasC (w : api_Write) (v s : Int) (x : Sec) : Bool := decide (inW w v s ∧ ix w.Data (s - w.Start) = x)
def wr (h : api_History) (i : Nat) : api_Write := ix h.Writes (i : Int)
def okI (h : api_History) (i k : Nat) : Bool := !decide (ix (wr h i).Data (k : Int) = sec0) && allN (fun j => !hasC (wr h j) (wr h i).Volume ((wr h i).Start + (k : Int)) (ix (wr h i).Data (k : Int))) i
def okW (h : api_History) (i : Nat) : Bool := allN (okI h i) (wr h i).Data.length
def distB (h : api_History) : Bool := allN (okW h) h.Writes.length
def distH (h : api_History) : Bool := decide (histE h = 0) && distB h
theorem hist_fit {h : api_History} (hz : histE h = 0) {k : Nat} (hk : k < h.Writes.length) : 0 ≤ (wr h k).Volume ∧ (wr h k).Volume < (h.Sizes.length : Int) ∧ 1 ≤ (wr h k).Data.length ∧ 0 ≤ (wr h k).Start ∧ (wr h k).Start + ((wr h k).Data.length : Int) ≤ ix h.Sizes (wr h k).Volume ∧ ix h.Sizes (wr h k).Volume ≤ 4096 := by
  unfold histE at hz
  by_cases q : sizesE h.Sizes ≠ 0
  · rw [if_pos q] at hz; exact absurd hz q
  · rw [if_neg q] at hz
    split at hz
    · omega
    · by_cases r : firstN (fun k => fitW h.Sizes (ix h.Writes (k : Int))) h.Writes.length ≠ 0
      · rw [if_pos r] at hz; exact absurd hz r
      · exact fitW_zero q (firstN_zero.1 (Classical.not_not.1 r) k hk)
theorem hist_wr {h : api_History} (hz : histE h = 0) : h.Writes.length ≤ 4096 := by
  unfold histE at hz
  split at hz
  · rename_i q; exact absurd hz q
  · split at hz
    · omega
    · omega
theorem history_Check_ok {h : api_History} {Φ : Int → Prop} (hh : SmallH h) (hΦ : Φ (histE h)) : history_Check_W h Φ :=
  history_check_ok hh (fun q => by rw [q] at hΦ; exact hΦ) fun _ => hΦ
theorem contC_true {w : api_Write} {v s : Int} : (contC w v s).2 = true ↔ inW w v s := by
  unfold contC
  by_cases q : inW w v s
  · rw [if_pos q]; exact ⟨fun _ => q, fun _ => rfl⟩
  · rw [if_neg q]; exact ⟨fun t => Bool.noConfusion t, fun t => absurd t q⟩
theorem contC_val {w : api_Write} {v s : Int} (q : inW w v s) : (contC w v s).1 = ix w.Data (s - w.Start) := by unfold contC; rw [if_pos q]
theorem okI_zero {h : api_History} {i k : Nat} (s : ix (wr h i).Data (k : Int) = sec0) : okI h i k = false := by unfold okI; rw [decide_eq_true s]; rfl
theorem okI_nz {h : api_History} {i k : Nat} (s : ¬ ix (wr h i).Data (k : Int) = sec0) : okI h i k = allN (fun j => !hasC (wr h j) (wr h i).Volume ((wr h i).Start + (k : Int)) (ix (wr h i).Data (k : Int))) i := by unfold okI; rw [decide_eq_false s]; rfl
theorem not_forall_lt {n : Nat} {p : Nat → Prop} (h : ¬ ∀ k, k < n → p k) : ∃ k, k < n ∧ ¬ p k := Classical.byContradiction fun q => h fun k hk => Classical.byContradiction fun r => q ⟨k, hk, r⟩
theorem ref18_Distinct_ok {h : api_History} {Φ : Bool → Prop} (hh : SmallH h) (hΦ : Φ (distH h)) : ref18_Distinct_W h Φ := by
  unfold distH at hΦ
  refine ref15_Check_ok hh ⟨fun q => by rw [decide_eq_false q] at hΦ; exact hΦ, fun q => ?_⟩
  have hz : histE h = 0 := Classical.not_not.1 q
  rw [decide_eq_true hz, Bool.true_and] at hΦ
  have hn := hist_wr hz
  refine LoopW.allL h.Writes.length (okW h) hΦ (fun i rec hi _ hf ht => ⟨fun _ => ⟨iX (by omega) (by omega), ?_⟩, fun r => by omega⟩) fun rec h0 _ => ⟨fun _ => by omega, fun _ => h0⟩
  have fi := hist_fit hz hi
  refine LoopW.allL (Φ := fun b => (b = true → rec ((i : Int) + 1)) ∧ (b = false → Φ false)) (wr h i).Data.length (okI h i) ⟨ht, hf⟩ (fun k rec2 hk _ hf2 ht2 => ⟨fun _ => ⟨iX (by omega) (by exact_mod_cast hk), fun s => (hf2 (okI_zero s)).2 rfl, fun s => ?_⟩, fun r => absurd (by exact_mod_cast hk) r⟩) fun rec2 h0 _ => ⟨fun r => absurd r (by show ¬ (((wr h i).Data.length : Int) < ((wr h i).Data.length : Int)); omega), fun _ => ⟨iI (by omega) (by omega), h0.1 rfl⟩⟩
  refine LoopW.allL (Φ := fun b => (b = true → rec2 ((k : Int) + 1)) ∧ (b = false → Φ false)) i (fun j => !hasC (wr h j) (wr h i).Volume ((wr h i).Start + (k : Int)) (ix (wr h i).Data (k : Int))) ⟨fun t => ht2 (by rw [okI_nz s]; exact t), fun t => (hf2 (by rw [okI_nz s]; exact t)).2 rfl⟩
    (fun j rec3 hj _ hf3 ht3 => ?_) fun rec3 h0 _ => ⟨fun r => by omega, fun _ => ⟨iI (by omega) (by omega), h0.1 rfl⟩⟩
  have fj := hist_fit hz (k := j) (by omega)
  have e : (contC (wr h j) (wr h i).Volume ((wr h i).Start + (k : Int))).2 = true ↔ inW (wr h j) (wr h i).Volume ((wr h i).Start + (k : Int)) := contC_true
  refine ⟨fun _ => ⟨iX (by omega) (by omega), iI (by show _ ≤ (wr h i).Start + (k : Int); omega) (by show (wr h i).Start + (k : Int) ≤ _; omega), _, ref18_Content_ok fj.2.2.2.1 (by show (wr h j).Start ≤ 1000000; omega) (by show (wr h j).Data.length ≤ 1000000; omega) (by show (wr h i).Start + (k : Int) ≤ 10000000; omega) rfl, fun t => ⟨iX (by omega) (by exact_mod_cast hk), fun u => (hf3 ?_).2 rfl, fun u => ⟨iI (by omega) (by omega), ht3 ?_⟩⟩, fun t => ⟨iI (by omega) (by omega), ht3 ?_⟩⟩, fun r => by omega⟩
  · have t := e.1 t
    show (!hasC _ _ _ _) = false
    rw [Bool.not_eq_false', hasC, decide_eq_true_iff]
    exact ⟨t, by rw [← contC_val t]; exact u⟩
  · have t := e.1 t
    show (!hasC _ _ _ _) = true
    rw [Bool.not_eq_true', hasC, decide_eq_false_iff_not]
    exact fun c => u ((contC_val t).trans c.2)
  · show (!hasC _ _ _ _) = true
    rw [Bool.not_eq_true', hasC, decide_eq_false_iff_not]
    exact fun c => t (e.2 c.1)
def keyAt (h : api_History) (i k : Nat) : consistency_content := ⟨⟨(wr h i).Volume, (wr h i).Start + (k : Int)⟩, ix (wr h i).Data (k : Int)⟩
def Seen (h : api_History) (i k : Nat) (c : consistency_content) : Prop := ∃ j q : Nat, (j < i ∧ q < (wr h j).Data.length ∨ j = i ∧ q < k) ∧ keyAt h j q = c
def MapOk (h : api_History) (i k : Nat) (m : List (consistency_content × Int)) : Prop := ∀ c, mhas m c = true ↔ Seen h i k c
theorem mhas_put {κ ν : Type} [DecidableEq κ] (k : κ) (v : ν) (c : κ) : ∀ m : List (κ × ν), mhas (mput m k v) c = true ↔ mhas m c = true ∨ c = k
  | [] => by
    by_cases q : c = k <;> simp [mhas, mput, mfind, q]
  | p :: l => by
    have ih := mhas_put k v c l
    unfold mput
    by_cases q : k = p.1
    · rw [if_pos q]
      by_cases r : c = p.1
      · simp [mhas, mfind, r]
      · rw [q]; simp only [mhas, mfind, if_neg r]
        exact ⟨fun t => .inl t, fun t => t.elim id fun u => absurd u r⟩
    · rw [if_neg q]
      by_cases r : c = p.1
      · simp [mhas, mfind, r]
      · have a : mhas (p :: mput l k v) c = mhas (mput l k v) c := by simp only [mhas, mfind, if_neg r]
        have b : mhas (p :: l) c = mhas l c := by simp only [mhas, mfind, if_neg r]
        rw [a, b]; exact ih
theorem MapOk.put {h : api_History} {i k : Nat} {m : List (consistency_content × Int)} (hm : MapOk h i k m) (v : Int) : MapOk h i (k + 1) (mput m (keyAt h i k) v) := by
  intro c
  rw [mhas_put, hm c]
  constructor
  · rintro (⟨j, q, h1, h2⟩ | rfl)
    · exact ⟨j, q, h1.elim .inl fun t => .inr ⟨t.1, by omega⟩, h2⟩
    · exact ⟨i, k, .inr ⟨rfl, by omega⟩, rfl⟩
  · rintro ⟨j, q, h1, h2⟩
    by_cases e : j = i ∧ q = k
    · obtain ⟨rfl, rfl⟩ := e; exact .inr h2.symm
    · exact .inl ⟨j, q, h1.elim .inl fun t => .inr ⟨t.1, by omega⟩, h2⟩
theorem MapOk.next {h : api_History} {i : Nat} {m : List (consistency_content × Int)} (hm : MapOk h i (wr h i).Data.length m) : MapOk h (i + 1) 0 m := by
  intro c
  rw [hm c]
  constructor
  · rintro ⟨j, q, h1, h2⟩
    rcases h1 with h1 | ⟨rfl, h1⟩
    · exact ⟨j, q, .inl ⟨by omega, h1.2⟩, h2⟩
    · exact ⟨j, q, .inl ⟨by omega, h1⟩, h2⟩
  · rintro ⟨j, q, h1, h2⟩
    rcases h1 with h1 | h1
    · by_cases e : j = i
      · subst e; exact ⟨j, q, .inr ⟨rfl, h1.2⟩, h2⟩
      · exact ⟨j, q, .inl ⟨by omega, h1.2⟩, h2⟩
    · omega
theorem seen_iff {h : api_History} (i k : Nat) : Seen h i k (keyAt h i k) ↔ ¬ allN (fun j => !hasC (wr h j) (wr h i).Volume ((wr h i).Start + (k : Int)) (ix (wr h i).Data (k : Int))) i = true := by
  rw [allN_true]
  constructor
  · rintro ⟨j, q, h1, h2⟩ t
    have h3 : (wr h j).Volume = (wr h i).Volume := congrArg (fun c => c.place.volume) h2
    have h4 : (wr h j).Start + (q : Int) = (wr h i).Start + (k : Int) := congrArg (fun c => c.place.sector) h2
    have h5 : ix (wr h j).Data (q : Int) = ix (wr h i).Data (k : Int) := congrArg (fun c => c.data) h2
    rcases h1 with ⟨a, b⟩ | ⟨rfl, b⟩
    · have u := t j a
      rw [Bool.not_eq_true', hasC, decide_eq_false_iff_not] at u
      exact u ⟨⟨h3, by omega, by omega⟩, by rw [show (wr h i).Start + (k : Int) - (wr h j).Start = (q : Int) by omega]; exact h5⟩
    · omega
  · intro t
    obtain ⟨j, hj, u⟩ := not_forall_lt t
    rw [Bool.not_eq_true', hasC, Bool.not_eq_false, decide_eq_true_iff] at u
    obtain ⟨⟨h3, h4, h5⟩, h6⟩ := u
    have e : ((((wr h i).Start + (k : Int)) - (wr h j).Start).toNat : Int) = ((wr h i).Start + (k : Int)) - (wr h j).Start := Int.toNat_of_nonneg (by omega)
    refine ⟨j, (((wr h i).Start + (k : Int)) - (wr h j).Start).toNat, .inl ⟨hj, by omega⟩, ?_⟩
    unfold keyAt
    rw [e, h3, h6, show (wr h j).Start + ((wr h i).Start + (k : Int) - (wr h j).Start) = (wr h i).Start + (k : Int) by omega]
theorem okI_iff {h : api_History} {i k : Nat} : okI h i k = true ↔ ix (wr h i).Data (k : Int) ≠ sec0 ∧ ¬ Seen h i k (keyAt h i k) := by
  rw [seen_iff, Classical.not_not]
  by_cases s : ix (wr h i).Data (k : Int) = sec0
  · rw [okI_zero s]; exact ⟨fun t => Bool.noConfusion t, fun t => absurd s t.1⟩
  · rw [okI_nz s]; exact ⟨fun t => ⟨s, t⟩, fun t => t.2⟩
theorem consistency_Distinct_ok {h : api_History} {Φ : Bool → Prop} (hh : SmallH h) (hΦ : Φ (distH h)) : consistency_Distinct_W h Φ := by
  unfold distH at hΦ
  refine history_Check_ok hh ⟨fun q => by rw [decide_eq_false q] at hΦ; exact hΦ, fun q => ?_⟩
  have hz : histE h = 0 := Classical.not_not.1 q
  rw [decide_eq_true hz, Bool.true_and] at hΦ
  have hn := hist_wr hz
  refine LoopW.upS h.Writes.length (fun s => s.1) (fun i s => (∀ j, j < i → okW h j = true) ∧ MapOk h i 0 s.2) ?_ 0 rfl (Nat.zero_le _) ⟨fun j hj => absurd hj (Nat.not_lt_zero j), fun c => ⟨fun t => Bool.noConfusion t, fun ⟨j, q, h1, _⟩ => by omega⟩⟩
  rintro i ⟨_, m⟩ rec hi rfl ⟨hI, hm⟩ hrec
  refine ⟨fun r => ?_, fun r => ?_⟩
  · have hi : i < h.Writes.length := by omega
    have bad : okW h i = false → Φ false := fun t => by
      rw [show distB h = false from allN_false hi t] at hΦ; exact hΦ
    have fi := hist_fit hz hi
    refine ⟨iX (by omega) (by omega), ?_⟩
    refine LoopW.upS (wr h i).Data.length (fun s => s.1) (fun k s => (∀ j, j < k → okI h i j = true) ∧ MapOk h i k s.2) ?_ 0 rfl (Nat.zero_le _) ⟨fun j hj => absurd hj (Nat.not_lt_zero j), hm⟩
    rintro k ⟨_, m'⟩ rec3 hk rfl ⟨hJ, hm'⟩ hrec3
    refine ⟨fun r3 => ?_, fun r3 => ?_⟩
    · have hk : k < (wr h i).Data.length := by exact_mod_cast r3
      have badk : okI h i k = false → Φ false := fun t => bad (allN_false hk t)
      have hno : Φ false → consistency_Distinct_J2 (i : Int) rec Φ (false, (mput m' (keyAt h i k) (i : Int))) := fun t => ⟨fun _ => t, fun u => absurd (fun v => Bool.noConfusion v) u⟩
      refine ⟨iX (by omega) (by exact_mod_cast hk), iI (by show _ ≤ (wr h i).Start + (k : Int); omega) (by show (wr h i).Start + (k : Int) ≤ _; omega), fun u => ⟨fun v => hno (badk ?_), fun v => ⟨iI (by omega) (by omega), hrec3 _ hk rfl ⟨fun j hj => ?_, hm'.put _⟩⟩⟩, fun u => hno (badk ?_)⟩
      · exact okI_zero (Classical.not_not.1 v)
      · rcases Nat.lt_or_ge j k with c | c
        · exact hJ j c
        · obtain rfl : j = k := by omega
          exact okI_iff.2 ⟨Classical.not_not.1 v, fun w => u ((hm' _).2 w)⟩
      · rw [Bool.eq_false_iff]
        exact fun w => (okI_iff.1 w).2 ((hm' _).1 (Classical.not_not.1 u))
    · have hk : k = (wr h i).Data.length := by
        have : ¬ ((k : Int) < ((wr h i).Data.length : Int)) := r3
        omega
      subst hk
      exact ⟨fun t => absurd rfl t, fun _ => ⟨iI (by omega) (by omega), hrec _ hi rfl ⟨fun j hj => by
        rcases Nat.lt_or_ge j i with c | c
        · exact hI j c
        · obtain rfl : j = i := by omega
          exact allN_true.2 hJ, hm'.next⟩⟩⟩
  · have e : i = h.Writes.length := by omega
    subst e
    rw [show distB h = true from allN_true.2 hI] at hΦ
    exact hΦ
theorem consistencyDistinguishes_law (h : api_History) (_ : Rg.rg h) : law18_ConsistencyDistinguishes_W h fun y => y = true := by
  refine ref15_Few_ok ⟨fun _ => law18_awake_ok rfl, fun q => ?_⟩
  have hf := fewH_small (Classical.not_not.1 q)
  exact ⟨_, consistency_Distinct_ok hf.1 rfl, _, ref18_Distinct_ok hf.1 rfl, fun _ => ⟨_, law18_awake_ok rfl, rfl⟩, fun t => absurd rfl t⟩
end Go.Proofs.Ytjjodmgmidbamaa
namespace Go.Proofs.Ytjjodmgmidbamaa
open Go.RowKit Go.ChangeShapes Go.WideShapes Go.ChangeAt
set_option maxRecDepth 100000 in
theorem consistencyDistinguishes_lifted (os : Os) (started : os.Started) (H : Type) (enc : TypeId × Value → H) :
    ReturnsInHanded {} Try.checked os 3 .any (Rows.consistencyDistinguishesSpec.pre6 enc Try.prog Try.f3 Rows.consistencyDistinguishesRow.domain false) (Rows.consistencyDistinguishesSpec.post enc Try.prog Try.f3 false true false false) := by
  refine returnsInHanded_of_change (C := Try.checked) Try.own started (by kernel_rfl) Try.func3
    (ChangeSpec.witness6 (enc := enc) (C := Try.checked) false ⟨#[], #[.agg #[.slice none 0 0, .slice none 0 0, .slice none 0 0]], []⟩ 8 (by kernel_rfl) (by kernel_rfl) (by kernel_rfl) (by kernel_rfl)) ?_
  intro W base args ds gs before hval0 hW _ _
  have hval : ∀ (j : Nat) t v, Try.f3.params[j]? = some t → args[j]? = some v → Value.okWide Try.prog W .any base t v := hval0
  have hW' := hW
  obtain ⟨p, q, hA0, hV, hpq, _, _⟩ := hW
  have hA : DataW.TrodAll enc Try.prog W 0 (fun _ => true) true Try.f3.params.toList args.toList ds p := hA0
  rw [Try.params3] at hA hval
  obtain ⟨v0, d0, rfl, rfl, h0⟩ := trodAll_one hA
  obtain ⟨rfl, rfl⟩ := trodVars_none hV
  obtain ⟨ks0, x0, rfl, hr0, hg0⟩ := open_strD Try.underlying26 rd26 (hval 0 26 v0 rfl rfl) h0
  refine Calls.mono ((RetP.toV (y := true) (F := fun z => .bool z) (RetP.mono (ok3 (x0, ()) (fun y => y.1 = true) (consistencyDistinguishes_law x0 hg0) (HW W) [.agg ks0.toArray] trivial ⟨_, ks0, _, rfl, by rw [pkw26], (show Dt.rd (α := api_History) (HW W) _ _ from hr0), rfl⟩) fun _ _ _ _ ⟨y, hy, hr⟩ => lawRes y hy hr)) W fun b o e => e) ?_
  rintro e W' ⟨v, _, rfl, _, _, _, hb, rfl⟩
  exact ⟨_, rfl, post_law Try.laidOut Try.underlying4 rfl (by kernel_rfl) hW' rfl rfl hb⟩
theorem consistencyDistinguishes_holds : Rows.ConsistencyDistinguishesSaid :=
  OpenClaim.holds_of_wide 3 Try.f3 rfl rfl rfl rfl rfl rfl rfl ⟨rfl, rfl, rfl, rfl, rfl⟩ rfl rfl rfl rfl rfl (by kernel_rfl) Try.func3 (by kernel_rfl)
    (of_decide_eq_true (by kernel_rfl)) (by unfold Func.isWrapper; first | (rw [if_pos (by decide +kernel)]; kernel_rfl) | (rw [if_neg (by decide +kernel)]; exact ⟨rfl, rfl⟩))
    (fun os started H enc _ => consistencyDistinguishes_lifted os started H enc)
end Go.Proofs.Ytjjodmgmidbamaa
