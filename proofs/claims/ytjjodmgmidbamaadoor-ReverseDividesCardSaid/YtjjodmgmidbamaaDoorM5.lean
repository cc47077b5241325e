/- Proved: the tied card of the statement ReverseDivides: for every argument that can be read the law returns true and leaves its arguments as they were. Conditions: the row's own alone: the table math/bits.deBruijn64tab reads as listed, which the card ties to the program's text. -/
import Derived.Lib.TrailingZeros
import Derived.Test.YtjjodmgmidbamaaDoorM4
namespace Go.Proofs.YtjjodmgmidbamaaDoor
open Go.RowKit
def orK {S R : Type} (a : S → Prop) (b : R → Prop) : S ⊕ R → Prop
  | .inl s => a s
  | .inr r => b r
def loopS {S R : Type} (step : S → Option (S ⊕ R)) : Nat → S → Option R
  | 0, _ => none
  | n + 1, s => match step s with
    | none => none
    | some (.inl s') => loopS step n s'
    | some (.inr r) => some r
theorem LoopW.of_S {S R : Type} {step : S → (S → Prop) → Prop} {stepS : S → Option (S ⊕ R)} {K : R → Prop} (hs : ∀ s q rec, stepS s = some q → orK rec K q → step s rec) : ∀ (n : Nat) (s : S) {o : R}, loopS stepS n s = some o → K o → LoopW step s := by
  intro n s o h hK
  refine ⟨n, ?_⟩
  induction n generalizing s with
  | zero => cases h
  | succ n ih =>
    unfold loopS at h
    split at h
    · cases h
    · rename_i s' e
      exact hs s _ _ e (ih s' h)
    · rename_i r e
      cases h
      exact hs s _ _ e hK
theorem ofBind {α β : Type} {x : Option α} {f : α → Option β} {o : β} (h : Option.bind x f = some o) : ∃ v, x = some v ∧ f v = some o := Option.bind_eq_some_iff.1 h
theorem ofIf {α : Type} {p : Prop} [Decidable p] {x : Option α} {o : α} (h : (if p then x else none) = some o) : p ∧ x = some o := by
  by_cases hp : p
  · rw [if_pos hp] at h; exact ⟨hp, h⟩
  · rw [if_neg hp] at h; cases h
theorem ofT {α : Type} {p : Prop} [Decidable p] {x y : Option α} {o : α} (hp : p) (h : (if p then x else y) = some o) : x = some o := by rw [if_pos hp] at h; exact h
theorem ofF {α : Type} {p : Prop} [Decidable p] {x y : Option α} {o : α} (hp : ¬ p) (h : (if p then x else y) = some o) : y = some o := by rw [if_neg hp] at h; exact h
def bothS {α : Type} [DecidableEq α] (b : Bool) (x y : Option α) : Option α := if b = true then (if x = y then x else none) else y
theorem ofBoth {α : Type} [DecidableEq α] {b : Bool} {x y : Option α} {o : α} (h : bothS b x y = some o) : (b = true → x = some o) ∧ y = some o := by
  unfold bothS at h
  by_cases hb : b = true
  · rw [if_pos hb] at h
    by_cases he : x = y
    · rw [if_pos he] at h; exact ⟨fun _ => h, he ▸ h⟩
    · rw [if_neg he] at h; cases h
  · rw [if_neg hb] at h; exact ⟨fun q => absurd q hb, h⟩
theorem lfS {α : Type} {K : α → Prop} {a o : α} (h : some a = some o) (hK : K o) : K a := by
  cases h; exact hK
theorem adS {α : Type} {p : Prop} [Decidable p] {x : Option α} {o : α} {B : Prop} (h : (if p then x else none) = some o) (b : x = some o → B) : p ∧ B := ⟨(ofIf h).1, b (ofIf h).2⟩
theorem ifS {α : Type} {p : Prop} [Decidable p] {x y : Option α} {o : α} {A B : Prop} (h : (if p then x else y) = some o) (a : x = some o → A) (b : y = some o → B) : (p → A) ∧ (¬ p → B) := ⟨fun c => a (ofT c h), fun c => b (ofF c h)⟩
theorem mpS {α β : Type} {g : α → β} {x : Option α} {o : β} {G : Prop} (h : Option.map g x = some o) (k : ∀ v, x = some v → g v = o → G) : G := by
  obtain ⟨v, h1, h2⟩ := Option.map_eq_some_iff.1 h
  exact k v h1 h2
theorem blS {α β : Type} {x : Option α} {f : α → Option β} {o : β} {G : Prop} (h : Option.bind x f = some o) (k : ∀ v, x = some v → f v = some o → G) : G := by
  obtain ⟨v, h1, h2⟩ := ofBind h
  exact k v h1 h2
instance decI (x : Int) : Decidable (inI x) := inferInstanceAs (Decidable (_ ∧ _))
instance decX (i : Int) (n : Nat) : Decidable (inX i n) := inferInstanceAs (Decidable (_ ∧ _))
instance decS (a b : Int) (n : Nat) : Decidable (inS a b n) := inferInstanceAs (Decidable (_ ∧ _))
instance decL (n b : Nat) : Decidable (lenOk n b) := inferInstanceAs (Decidable (_ ∧ _))
theorem nl2S {α : Type} [DecidableEq α] {p : Prop} [Decidable p] {x y : Option α} {o : α} {A B : Prop} (h : bothS (decide p) x y = some o) (a : x = some o → A) (b : y = some o → B) : (p → A) ∧ B := ⟨fun c => a ((ofBoth h).1 (decide_eq_true c)), b (ofBoth h).2⟩
def genS {S Y R : Type} (step : S → Option (List Y × (S ⊕ R))) : Nat → S → Option (List Y × R)
  | 0, _ => none
  | n + 1, s => match step s with
    | none => none
    | some (ys, .inr o) => some (ys, o)
    | some (ys, .inl s') => (genS step n s').map fun q => (ys ++ q.1, q.2)
theorem LoopW.of_G {S Y R : Type} {step : (List Y × S) → ((List Y × S) → Prop) → Prop} {stepS : S → Option (List Y × (S ⊕ R))} {K : List Y → R → Prop} (hs : ∀ s ys q r rec, stepS s = some (ys, q) → orK (fun s => rec (r, s)) (K r) q → step (ys ++ r, s) rec) : ∀ (n : Nat) (s : S) {ys : List Y} {o : R} (r : List Y), genS stepS n s = some (ys, o) → K r o → LoopW step (ys ++ r, s) := by
  intro n s ys o r h hK
  refine ⟨n, ?_⟩
  induction n generalizing s ys with
  | zero => cases h
  | succ n ih =>
    unfold genS at h
    split at h
    · cases h
    · rename_i ys o e
      cases h
      exact hs s _ _ _ (LoopN step n) e hK
    · rename_i ys s' e
      obtain ⟨v, h1, h2⟩ := Option.map_eq_some_iff.1 h
      cases h2
      rw [List.append_assoc]
      exact hs s _ _ _ (LoopN step n) e (show LoopN step n (v.1 ++ r, s') from ih s' h1)
def law47_one_S (x0 : Int) (x1 : BitVec 8) : Option (api_Write) :=
  some ((api_Write.mk 0 x0 ([(Sec.mk x1 (0#8) (0#8) (0#8) (0#8) (0#8) (0#8) (0#8))] : List Sec)))
theorem law47_one_sound (x0 : Int) (x1 : BitVec 8) {Φ : api_Write → Prop} {o} (h : law47_one_S x0 x1 = some o) (hK : Φ o) : law47_one_W x0 x1 Φ := by
  unfold law47_one_S at h
  unfold law47_one_W
  exact have t := lfS h hK; t
def ref07_SizesOf_L1_S (x0 : List (List Sec)) : (Int × List Int) → Option ((Int × List Int) ⊕ (List Int))
  | (v1, v2) =>
    if v1 < (x0.length : Int) then
      if inX v1 x0.length then
      if lenOk (v2 ++ ([((ix x0 v1).length : Int)] : List Int)).length 8 then
      if inI (v1 + 1) then
      some (.inl ((v1 + 1), (v2 ++ ([((ix x0 v1).length : Int)] : List Int))))
      else none
      else none
      else none
    else
      some (.inr v2)
theorem ref07_SizesOf_L1_sound (x0 : List (List Sec)) (s : Int × List Int) {Φ : List Int → Prop} {rec1 : (Int × List Int) → Prop} {o} (h : ref07_SizesOf_L1_S x0 s = some o) (hK : (orK rec1 Φ) o) : ref07_SizesOf_L1 x0 Φ s rec1 := by
  obtain ⟨v1, v2⟩ := s
  unfold ref07_SizesOf_L1_S at h
  unfold ref07_SizesOf_L1
  exact ifS h (fun h => adS h fun h => adS h fun h => adS h fun h => have t := lfS h hK; t) fun h => have t := lfS h hK; t
def ref07_SizesOf_S (x0 : List (List Sec)) : Option (List Int) :=
  loopS (ref07_SizesOf_L1_S x0) 100000 (0, ([] : List Int))
theorem ref07_SizesOf_sound (x0 : List (List Sec)) {Φ : List Int → Prop} {o} (h : ref07_SizesOf_S x0 = some o) (hK : Φ o) : ref07_SizesOf_W x0 Φ := by
  unfold ref07_SizesOf_S at h
  unfold ref07_SizesOf_W
  exact LoopW.of_S (fun s q rec hs hq => ref07_SizesOf_L1_sound _ s hs hq) _ _ h hK
def ref07_Sizes_L1_S (x0 : List Int) : (Int) → Option ((Int) ⊕ (Int))
  | v1 =>
    if v1 < (x0.length : Int) then
      if inX v1 x0.length then
      if (ix x0 v1) < 1 then
        some (.inr 2)
      else
        if inX v1 x0.length then
        if 4096 < (ix x0 v1) then
          some (.inr 2)
        else
          if inI (v1 + 1) then
          some (.inl (v1 + 1))
          else none
        else none
      else none
    else
      some (.inr 0)
theorem ref07_Sizes_L1_sound (x0 : List Int) (s : Int) {Φ : Int → Prop} {rec1 : (Int) → Prop} {o} (h : ref07_Sizes_L1_S x0 s = some o) (hK : (orK rec1 Φ) o) : ref07_Sizes_L1 x0 Φ s rec1 := by
  unfold ref07_Sizes_L1_S at h
  unfold ref07_Sizes_L1
  exact ifS h (fun h => adS h fun h => ifS h (fun h => have t := lfS h hK; t) fun h => adS h fun h => ifS h (fun h => have t := lfS h hK; t) fun h => adS h fun h => have t := lfS h hK; t) fun h => have t := lfS h hK; t
def ref07_Sizes_S (x0 : List Int) : Option (Int) :=
  if (x0.length : Int) < 1 then
    some (6)
  else
    if 8 < (x0.length : Int) then
      some (6)
    else
      loopS (ref07_Sizes_L1_S x0) 100000 0
theorem ref07_Sizes_sound (x0 : List Int) {Φ : Int → Prop} {o} (h : ref07_Sizes_S x0 = some o) (hK : Φ o) : ref07_Sizes_W x0 Φ := by
  unfold ref07_Sizes_S at h
  unfold ref07_Sizes_W
  exact ifS h (fun h => have t := lfS h hK; t) fun h => ifS h (fun h => have t := lfS h hK; t) fun h => LoopW.of_S (fun s q rec hs hq => ref07_Sizes_L1_sound _ s hs hq) _ _ h hK
def ref07_Check_S (x0 : List (List Sec)) : Option (Int) :=
  Option.bind (ref07_SizesOf_S x0) fun v1 =>
  Option.bind (ref07_Sizes_S v1) fun v2 =>
  some (v2)
theorem ref07_Check_sound (x0 : List (List Sec)) {Φ : Int → Prop} {o} (h : ref07_Check_S x0 = some o) (hK : Φ o) : ref07_Check_W x0 Φ := by
  unfold ref07_Check_S at h
  unfold ref07_Check_W
  exact blS h fun _ hv h => ref07_SizesOf_sound _ hv (blS h fun _ hv h => ref07_Sizes_sound _ hv (have t := lfS h hK; t))
def ref07_FitsSizes_S (x0 : List Int) (x1 : api_Write) : Option (Int) :=
  if x1.Volume < 0 then
    some (7)
  else
    if (x0.length : Int) ≤ x1.Volume then
      some (7)
    else
      if (x1.Data.length : Int) = 0 then
        some (1)
      else
        if x1.Start < 0 then
          some (2)
        else
          if inX x1.Volume x0.length then
          if (ix x0 x1.Volume) ≤ x1.Start then
            some (2)
          else
            if inX x1.Volume x0.length then
            if inI ((ix x0 x1.Volume) - x1.Start) then
            if ((ix x0 x1.Volume) - x1.Start) < (x1.Data.length : Int) then
              some (2)
            else
              some (0)
            else none
            else none
          else none
theorem ref07_FitsSizes_sound (x0 : List Int) (x1 : api_Write) {Φ : Int → Prop} {o} (h : ref07_FitsSizes_S x0 x1 = some o) (hK : Φ o) : ref07_FitsSizes_W x0 x1 Φ := by
  unfold ref07_FitsSizes_S at h
  unfold ref07_FitsSizes_W
  exact ifS h (fun h => have t := lfS h hK; t) fun h => ifS h (fun h => have t := lfS h hK; t) fun h => ifS h (fun h => have t := lfS h hK; t) fun h => ifS h (fun h => have t := lfS h hK; t) fun h => adS h fun h => ifS h (fun h => have t := lfS h hK; t) fun h => adS h fun h => adS h fun h => ifS h (fun h => have t := lfS h hK; t) fun h => have t := lfS h hK; t
def ref07_Fits_S (x0 : List (List Sec)) (x1 : api_Write) : Option (Int) :=
  Option.bind (ref07_Check_S x0) fun v1 =>
  if v1 ≠ 0 then
    some (v1)
  else
    Option.bind (ref07_SizesOf_S x0) fun z =>
    let v2 : List Int × Unit := (z, ())
    Option.bind (ref07_FitsSizes_S v2.1 x1) fun z =>
    let v3 : Int × Unit := (z, ())
    some (v3.1)
theorem ref07_Fits_sound (x0 : List (List Sec)) (x1 : api_Write) {Φ : Int → Prop} {o} (h : ref07_Fits_S x0 x1 = some o) (hK : Φ o) : ref07_Fits_W x0 x1 Φ := by
  unfold ref07_Fits_S at h
  unfold ref07_Fits_W
  exact blS h fun _ hv h => ref07_Check_sound _ hv (ifS h (fun h => have t := lfS h hK; t) fun h => blS h fun _ hv h => ⟨_, ref07_SizesOf_sound _ hv rfl, blS h fun _ hv h => ⟨_, ref07_FitsSizes_sound _ _ hv rfl, have t := lfS h hK; t⟩⟩)
def ref07_CopyE_L1_S (x0 : List (List Sec)) : (List (List Sec) × Int) → Option ((List (List Sec) × Int) ⊕ (List (List Sec)))
  | (v4, v12) =>
    if v12 < (x0.length : Int) then
      if inX v12 x0.length then
      if lenOk (([] : List Sec) ++ (ix x0 v12)).length 8 then
      if lenOk (v4 ++ [(([] : List Sec) ++ (ix x0 v12))]).length 24 then
      if inI (v12 + 1) then
      some (.inl ((v4 ++ [(([] : List Sec) ++ (ix x0 v12))]), v12 + 1))
      else none
      else none
      else none
      else none
    else
      some (.inr v4)
theorem ref07_CopyE_L1_sound (x0 : List (List Sec)) (s : List (List Sec) × Int) {Φ : List (List Sec) → Prop} {rec1 : (List (List Sec) × Int) → Prop} {o} (h : ref07_CopyE_L1_S x0 s = some o) (hK : (orK rec1 Φ) o) : ref07_CopyE_L1 x0 Φ s rec1 := by
  obtain ⟨v4, v12⟩ := s
  unfold ref07_CopyE_L1_S at h
  unfold ref07_CopyE_L1
  exact ifS h (fun h => adS h fun h => adS h fun h => adS h fun h => adS h fun h => have t := lfS h hK; t) fun h => have t := lfS h hK; t
def ref07_CopyE_S (x0 : List (List Sec)) : Option (List (List Sec)) :=
  loopS (ref07_CopyE_L1_S x0) 100000 (([] : List (List Sec)), 0)
theorem ref07_CopyE_sound (x0 : List (List Sec)) {Φ : List (List Sec) → Prop} {o} (h : ref07_CopyE_S x0 = some o) (hK : Φ o) : ref07_CopyE_W x0 Φ := by
  unfold ref07_CopyE_S at h
  unfold ref07_CopyE_W
  exact LoopW.of_S (fun s q rec hs hq => ref07_CopyE_L1_sound _ s hs hq) _ _ h hK
def ref07_Apply_L2_S (x1 : List api_Write) (v24 : Int) : (List (List Sec) × Int) → Option ((List (List Sec) × Int) ⊕ ((List (List Sec) × Int) ⊕ (List (List Sec) × Int × Int)))
  | (v37, v45) =>
    if v45 < (((ix x1 v24).Data).length : Int) then
      if inX ((ix x1 v24).Volume) v37.length then
      if inI (((ix x1 v24).Start) + v45) then
      if inX v45 ((ix x1 v24).Data).length then
      if inX (((ix x1 v24).Start) + v45) (ix v37 ((ix x1 v24).Volume)).length then
      if inI (v45 + 1) then
      some (.inl ((put v37 ((ix x1 v24).Volume) (put (ix v37 ((ix x1 v24).Volume)) (((ix x1 v24).Start) + v45) (ix ((ix x1 v24).Data) v45))), v45 + 1))
      else none
      else none
      else none
      else none
      else none
    else
      if inI (v24 + 1) then
      some (.inr (.inl (v37, v24 + 1)))
      else none
theorem ref07_Apply_L2_sound (x1 : List api_Write) (v24 : Int) (s : List (List Sec) × Int) {Φ : List (List Sec) × Int × Int → Prop} {rec1 : (List (List Sec) × Int) → Prop} {rec2 : (List (List Sec) × Int) → Prop} {o} (h : ref07_Apply_L2_S x1 v24 s = some o) (hK : (orK rec2 (orK rec1 Φ)) o) : ref07_Apply_L2 x1 v24 rec1 Φ s rec2 := by
  obtain ⟨v37, v45⟩ := s
  unfold ref07_Apply_L2_S at h
  unfold ref07_Apply_L2
  exact ifS h (fun h => adS h fun h => adS h fun h => adS h fun h => adS h fun h => adS h fun h => have t := lfS h hK; t) fun h => adS h fun h => have t := lfS h hK; t
def ref07_Apply_L1_S (x0 : List (List Sec)) (x1 : List api_Write) : (List (List Sec) × Int) → Option ((List (List Sec) × Int) ⊕ (List (List Sec) × Int × Int))
  | (v16, v24) =>
    if v24 < (x1.length : Int) then
      if inX v24 x1.length then
      Option.bind (ref07_Fits_S x0 (ix x1 v24)) fun v31 =>
      if v31 ≠ 0 then
        some (.inr (([] : List (List Sec)), v24, v31))
      else
        loopS (ref07_Apply_L2_S x1 v24) 100000 (v16, 0)
      else none
    else
      some (.inr (v16, 0, 0))
theorem ref07_Apply_L1_sound (x0 : List (List Sec)) (x1 : List api_Write) (s : List (List Sec) × Int) {Φ : List (List Sec) × Int × Int → Prop} {rec1 : (List (List Sec) × Int) → Prop} {o} (h : ref07_Apply_L1_S x0 x1 s = some o) (hK : (orK rec1 Φ) o) : ref07_Apply_L1 x0 x1 Φ s rec1 := by
  obtain ⟨v16, v24⟩ := s
  unfold ref07_Apply_L1_S at h
  unfold ref07_Apply_L1
  exact ifS h (fun h => adS h fun h => blS h fun _ hv h => ref07_Fits_sound _ _ hv (ifS h (fun h => have t := lfS h hK; t) fun h => LoopW.of_S (fun s q rec hs hq => ref07_Apply_L2_sound _ _ s hs hq) _ _ h hK)) fun h => have t := lfS h hK; t
def ref07_Apply_S (x0 : List (List Sec)) (x1 : List api_Write) : Option (List (List Sec) × Int × Int) :=
  Option.bind (ref07_Check_S x0) fun v3 =>
  if v3 ≠ 0 then
    some ((([] : List (List Sec)), 0, v3))
  else
    Option.bind (ref07_CopyE_S x0) fun v7 =>
    loopS (ref07_Apply_L1_S x0 x1) 100000 (v7, 0)
theorem ref07_Apply_sound (x0 : List (List Sec)) (x1 : List api_Write) {Φ : List (List Sec) × Int × Int → Prop} {o} (h : ref07_Apply_S x0 x1 = some o) (hK : Φ o) : ref07_Apply_W x0 x1 Φ := by
  unfold ref07_Apply_S at h
  unfold ref07_Apply_W
  exact blS h fun _ hv h => ref07_Check_sound _ hv (ifS h (fun h => have t := lfS h hK; t) fun h => blS h fun _ hv h => ref07_CopyE_sound _ hv (LoopW.of_S (fun s q rec hs hq => ref07_Apply_L1_sound _ _ s hs hq) _ _ h hK))
def ref02_New_J1_S (x0 : Int) : (Bool) → Option (api_Bitmap × Int)
  | v1 =>
    if v1 = true then
      some (((api_Bitmap.mk 0 ([] : List (BitVec 64))), 2))
    else
      if inI (x0 + 63) then
      if 0 ≤ (x0 + 63) ∧ inI (x0 + 63) ∧ (0 : Int) < 64 then
      if 0 ≤ ((x0 + 63) / 64) then
      if lenOk ((x0 + 63) / 64).toNat 8 then
      some (((api_Bitmap.mk x0 (List.replicate ((x0 + 63) / 64).toNat (0#64))), 0))
      else none
      else none
      else none
      else none
theorem ref02_New_J1_sound (x0 : Int) (s : Bool) {Φ : api_Bitmap × Int → Prop} {o} (h : ref02_New_J1_S x0 s = some o) (hK : Φ o) : ref02_New_J1 x0 Φ s := by
  unfold ref02_New_J1_S at h
  unfold ref02_New_J1
  exact ifS h (fun h => have t := lfS h hK; t) fun h => adS h fun h => adS h fun h => adS h fun h => adS h fun h => have t := lfS h hK; t
def ref02_New_S (x0 : Int) : Option (api_Bitmap × Int) :=
  if x0 < 0 then
    ref02_New_J1_S x0 true
  else
    ref02_New_J1_S x0 (decide (4096 < x0))
theorem ref02_New_sound (x0 : Int) {Φ : api_Bitmap × Int → Prop} {o} (h : ref02_New_S x0 = some o) (hK : Φ o) : ref02_New_W x0 Φ := by
  unfold ref02_New_S at h
  unfold ref02_New_W
  exact ifS h (fun h => ref02_New_J1_sound _ _ h hK) fun h => ref02_New_J1_sound _ _ h hK
def ref43_Clean_L1_S (x0 : List Int) : (Int × List api_Bitmap) → Option ((Int × List api_Bitmap) ⊕ (List api_Bitmap))
  | (v1, v2) =>
    if v1 < (x0.length : Int) then
      if inX v1 x0.length then
      Option.bind (ref02_New_S (ix x0 v1)) fun v3 =>
      if lenOk (v2 ++ ([v3.1] : List api_Bitmap)).length 32 then
      if inI (v1 + 1) then
      some (.inl ((v1 + 1), (v2 ++ ([v3.1] : List api_Bitmap))))
      else none
      else none
      else none
    else
      some (.inr v2)
theorem ref43_Clean_L1_sound (x0 : List Int) (s : Int × List api_Bitmap) {Φ : List api_Bitmap → Prop} {rec1 : (Int × List api_Bitmap) → Prop} {o} (h : ref43_Clean_L1_S x0 s = some o) (hK : (orK rec1 Φ) o) : ref43_Clean_L1 x0 Φ s rec1 := by
  obtain ⟨v1, v2⟩ := s
  unfold ref43_Clean_L1_S at h
  unfold ref43_Clean_L1
  exact ifS h (fun h => adS h fun h => blS h fun _ hv h => ref02_New_sound _ hv (adS h fun h => adS h fun h => have t := lfS h hK; t)) fun h => have t := lfS h hK; t
def ref43_Clean_S (x0 : List Int) : Option (List api_Bitmap) :=
  loopS (ref43_Clean_L1_S x0) 100000 (0, ([] : List api_Bitmap))
theorem ref43_Clean_sound (x0 : List Int) {Φ : List api_Bitmap → Prop} {o} (h : ref43_Clean_S x0 = some o) (hK : Φ o) : ref43_Clean_W x0 Φ := by
  unfold ref43_Clean_S at h
  unfold ref43_Clean_W
  exact LoopW.of_S (fun s q rec hs hq => ref43_Clean_L1_sound _ s hs hq) _ _ h hK
def ref02_Copy_S (x0 : api_Bitmap) : Option (api_Bitmap) :=
  if lenOk (([] : List (BitVec 64)) ++ x0.Words).length 8 then
  some ((api_Bitmap.mk x0.Size (([] : List (BitVec 64)) ++ x0.Words)))
  else none
theorem ref02_Copy_sound (x0 : api_Bitmap) {Φ : api_Bitmap → Prop} {o} (h : ref02_Copy_S x0 = some o) (hK : Φ o) : ref02_Copy_W x0 Φ := by
  unfold ref02_Copy_S at h
  unfold ref02_Copy_W
  exact adS h fun h => have t := lfS h hK; t
def ref02_bit_S (x0 : api_Bitmap) (x1 : Int) : Option (Bool) :=
  if 0 ≤ x1 ∧ inI x1 ∧ (0 : Int) < 64 then
  if inX (x1 / 64) x0.Words.length then
  if 0 ≤ x1 ∧ 64 ≠ (0 : Int) then
  some (decide ((((ix x0.Words (x1 / 64)) >>> ((BitVec.ofInt 64 (x1 % 64)).toNat : Int).toNat) &&& (1#64)) = (1#64)))
  else none
  else none
  else none
theorem ref02_bit_sound (x0 : api_Bitmap) (x1 : Int) {Φ : Bool → Prop} {o} (h : ref02_bit_S x0 x1 = some o) (hK : Φ o) : ref02_bit_W x0 x1 Φ := by
  unfold ref02_bit_S at h
  unfold ref02_bit_W
  exact adS h fun h => adS h fun h => adS h fun h => have t := lfS h hK; t
def ref02_Check_L1_S (x0 : api_Bitmap) : (Int) → Option ((Int) ⊕ (Int))
  | v1 =>
    if inI (64 * (x0.Words.length : Int)) then
    if v1 < (64 * (x0.Words.length : Int)) then
      Option.bind (ref02_bit_S x0 v1) fun v2 =>
      if v2 = true then
        some (.inr 3)
      else
        if inI (v1 + 1) then
        some (.inl (v1 + 1))
        else none
    else
      some (.inr 0)
    else none
theorem ref02_Check_L1_sound (x0 : api_Bitmap) (s : Int) {Φ : Int → Prop} {rec1 : (Int) → Prop} {o} (h : ref02_Check_L1_S x0 s = some o) (hK : (orK rec1 Φ) o) : ref02_Check_L1 x0 Φ s rec1 := by
  unfold ref02_Check_L1_S at h
  unfold ref02_Check_L1
  exact adS h fun h => ifS h (fun h => blS h fun _ hv h => ref02_bit_sound _ _ hv (ifS h (fun h => have t := lfS h hK; t) fun h => adS h fun h => have t := lfS h hK; t)) fun h => have t := lfS h hK; t
def ref02_Check_S (x0 : api_Bitmap) : Option (Int) :=
  if x0.Size < 0 then
    some (3)
  else
    if 4096 < x0.Size then
      some (3)
    else
      if inI (x0.Size + 63) then
      if 0 ≤ (x0.Size + 63) ∧ inI (x0.Size + 63) ∧ (0 : Int) < 64 then
      if (x0.Words.length : Int) ≠ ((x0.Size + 63) / 64) then
        some (3)
      else
        loopS (ref02_Check_L1_S x0) 100000 x0.Size
      else none
      else none
theorem ref02_Check_sound (x0 : api_Bitmap) {Φ : Int → Prop} {o} (h : ref02_Check_S x0 = some o) (hK : Φ o) : ref02_Check_W x0 Φ := by
  unfold ref02_Check_S at h
  unfold ref02_Check_W
  exact ifS h (fun h => have t := lfS h hK; t) fun h => ifS h (fun h => have t := lfS h hK; t) fun h => adS h fun h => adS h fun h => ifS h (fun h => have t := lfS h hK; t) fun h => LoopW.of_S (fun s q rec hs hq => ref02_Check_L1_sound _ s hs hq) _ _ h hK
def ref02_Fits_S (x0 : api_Extent) (x1 : Int) : Option (Bool) :=
  if 0 ≤ x0.Start then
    if 0 ≤ x0.Count then
      if x0.Start ≤ x1 then
        if inI (x1 - x0.Start) then
        some (decide (x0.Count ≤ (x1 - x0.Start)))
        else none
      else
        some (false)
    else
      some (false)
  else
    some (false)
theorem ref02_Fits_sound (x0 : api_Extent) (x1 : Int) {Φ : Bool → Prop} {o} (h : ref02_Fits_S x0 x1 = some o) (hK : Φ o) : ref02_Fits_W x0 x1 Φ := by
  unfold ref02_Fits_S at h
  unfold ref02_Fits_W
  exact ifS h (fun h => ifS h (fun h => ifS h (fun h => adS h fun h => have t := lfS h hK; t) fun h => have t := lfS h hK; t) fun h => have t := lfS h hK; t) fun h => have t := lfS h hK; t
def ref02_change_L1_S (x1 : api_Extent) (x2 : Bool) (v3 : api_Bitmap) : (Int × List (BitVec 64)) → Option ((Int × List (BitVec 64)) ⊕ (api_Bitmap × Int))
  | (v4, v5) =>
    if inI (x1.Start + x1.Count) then
    if v4 < (x1.Start + x1.Count) then
      if x2 = true then
        if 0 ≤ v4 ∧ inI v4 ∧ (0 : Int) < 64 then
        if 0 ≤ v4 ∧ inI v4 ∧ (0 : Int) < 64 then
        if inX (v4 / 64) v5.length then
        if 0 ≤ v4 ∧ 64 ≠ (0 : Int) then
        if inX (v4 / 64) v5.length then
        if inI (v4 + 1) then
        some (.inl ((v4 + 1), (put v5 (v4 / 64) ((ix v5 (v4 / 64)) ||| ((1#64) <<< ((BitVec.ofInt 64 (v4 % 64)).toNat : Int).toNat)))))
        else none
        else none
        else none
        else none
        else none
        else none
      else
        if 0 ≤ v4 ∧ inI v4 ∧ (0 : Int) < 64 then
        if 0 ≤ v4 ∧ inI v4 ∧ (0 : Int) < 64 then
        if inX (v4 / 64) v5.length then
        if 0 ≤ v4 ∧ 64 ≠ (0 : Int) then
        if inX (v4 / 64) v5.length then
        if inI (v4 + 1) then
        some (.inl ((v4 + 1), (put v5 (v4 / 64) ((ix v5 (v4 / 64)) &&& ~~~((1#64) <<< ((BitVec.ofInt 64 (v4 % 64)).toNat : Int).toNat)))))
        else none
        else none
        else none
        else none
        else none
        else none
    else
      some (.inr ((api_Bitmap.mk v3.Size v5), 0))
    else none
theorem ref02_change_L1_sound (x1 : api_Extent) (x2 : Bool) (v3 : api_Bitmap) (s : Int × List (BitVec 64)) {Φ : api_Bitmap × Int → Prop} {rec1 : (Int × List (BitVec 64)) → Prop} {o} (h : ref02_change_L1_S x1 x2 v3 s = some o) (hK : (orK rec1 Φ) o) : ref02_change_L1 x1 x2 v3 Φ s rec1 := by
  obtain ⟨v4, v5⟩ := s
  unfold ref02_change_L1_S at h
  unfold ref02_change_L1
  exact adS h fun h => ifS h (fun h => ifS h (fun h => adS h fun h => adS h fun h => adS h fun h => adS h fun h => adS h fun h => adS h fun h => have t := lfS h hK; t) fun h => adS h fun h => adS h fun h => adS h fun h => adS h fun h => adS h fun h => adS h fun h => have t := lfS h hK; t) fun h => have t := lfS h hK; t
def ref02_change_S (x0 : api_Bitmap) (x1 : api_Extent) (x2 : Bool) : Option (api_Bitmap × Int) :=
  Option.bind (ref02_Check_S x0) fun v1 =>
  if v1 ≠ 0 then
    some (((api_Bitmap.mk 0 ([] : List (BitVec 64))), 3))
  else
    Option.bind (ref02_Fits_S x1 x0.Size) fun v2 =>
    if ¬ (v2 = true) then
      some (((api_Bitmap.mk 0 ([] : List (BitVec 64))), 2))
    else
      Option.bind (ref02_Copy_S x0) fun v3 =>
      loopS (ref02_change_L1_S x1 x2 v3) 100000 (x1.Start, v3.Words)
theorem ref02_change_sound (x0 : api_Bitmap) (x1 : api_Extent) (x2 : Bool) {Φ : api_Bitmap × Int → Prop} {o} (h : ref02_change_S x0 x1 x2 = some o) (hK : Φ o) : ref02_change_W x0 x1 x2 Φ := by
  unfold ref02_change_S at h
  unfold ref02_change_W
  exact blS h fun _ hv h => ref02_Check_sound _ hv (ifS h (fun h => have t := lfS h hK; t) fun h => blS h fun _ hv h => ref02_Fits_sound _ _ hv (ifS h (fun h => have t := lfS h hK; t) fun h => blS h fun _ hv h => ref02_Copy_sound _ hv (LoopW.of_S (fun s q rec hs hq => ref02_change_L1_sound _ _ _ s hs hq) _ _ h hK)))
def ref02_Set_S (x0 : api_Bitmap) (x1 : api_Extent) : Option (api_Bitmap × Int) :=
  Option.bind (ref02_change_S x0 x1 true) fun v1 =>
  some ((v1.1, v1.2))
theorem ref02_Set_sound (x0 : api_Bitmap) (x1 : api_Extent) {Φ : api_Bitmap × Int → Prop} {o} (h : ref02_Set_S x0 x1 = some o) (hK : Φ o) : ref02_Set_W x0 x1 Φ := by
  unfold ref02_Set_S at h
  unfold ref02_Set_W
  exact blS h fun _ hv h => ref02_change_sound _ _ _ hv (have t := lfS h hK; t)
def ref43_Mark_L2_S (x1 : List api_Write) : (Int × List api_Bitmap) → Option ((Int × List api_Bitmap) ⊕ ((Int × List api_Bitmap) ⊕ (List api_Bitmap)))
  | (v4, v5) =>
    if v4 < (x1.length : Int) then
      if inX v4 x1.length then
      if inX ((ix x1 v4).Volume) v5.length then
      Option.bind (ref02_Set_S (ix v5 ((ix x1 v4).Volume)) (api_Extent.mk ((ix x1 v4).Start) (((ix x1 v4).Data).length : Int))) fun z =>
      let v6 : api_Bitmap × Int × Unit := (z.1, z.2, ())
      if inX ((ix x1 v4).Volume) v5.length then
      if inI (v4 + 1) then
      some (.inl ((v4 + 1), (put v5 ((ix x1 v4).Volume) v6.1)))
      else none
      else none
      else none
      else none
    else
      some (.inr (.inr v5))
theorem ref43_Mark_L2_sound (x1 : List api_Write) (s : Int × List api_Bitmap) {Φ : List api_Bitmap → Prop} {rec1 : (Int × List api_Bitmap) → Prop} {rec2 : (Int × List api_Bitmap) → Prop} {o} (h : ref43_Mark_L2_S x1 s = some o) (hK : (orK rec2 (orK rec1 Φ)) o) : ref43_Mark_L2 x1 Φ s rec2 := by
  obtain ⟨v4, v5⟩ := s
  unfold ref43_Mark_L2_S at h
  unfold ref43_Mark_L2
  exact ifS h (fun h => adS h fun h => adS h fun h => blS h fun _ hv h => ⟨_, ref02_Set_sound _ _ hv rfl, adS h fun h => adS h fun h => have t := lfS h hK; t⟩) fun h => have t := lfS h hK; t
def ref43_Mark_L1_S (x0 : List api_Bitmap) (x1 : List api_Write) : (Int × List api_Bitmap) → Option ((Int × List api_Bitmap) ⊕ (List api_Bitmap))
  | (v1, v2) =>
    if v1 < (x0.length : Int) then
      if inX v1 x0.length then
      Option.bind (ref02_Copy_S (ix x0 v1)) fun v3 =>
      if lenOk (v2 ++ ([v3] : List api_Bitmap)).length 32 then
      if inI (v1 + 1) then
      some (.inl ((v1 + 1), (v2 ++ ([v3] : List api_Bitmap))))
      else none
      else none
      else none
    else
      loopS (ref43_Mark_L2_S x1) 100000 (0, v2)
theorem ref43_Mark_L1_sound (x0 : List api_Bitmap) (x1 : List api_Write) (s : Int × List api_Bitmap) {Φ : List api_Bitmap → Prop} {rec1 : (Int × List api_Bitmap) → Prop} {o} (h : ref43_Mark_L1_S x0 x1 s = some o) (hK : (orK rec1 Φ) o) : ref43_Mark_L1 x0 x1 Φ s rec1 := by
  obtain ⟨v1, v2⟩ := s
  unfold ref43_Mark_L1_S at h
  unfold ref43_Mark_L1
  exact ifS h (fun h => adS h fun h => blS h fun _ hv h => ref02_Copy_sound _ hv (adS h fun h => adS h fun h => have t := lfS h hK; t)) fun h => LoopW.of_S (fun s q rec hs hq => ref43_Mark_L2_sound _ s hs hq) _ _ h hK
def ref43_Mark_S (x0 : List api_Bitmap) (x1 : List api_Write) : Option (List api_Bitmap) :=
  loopS (ref43_Mark_L1_S x0 x1) 100000 (0, ([] : List api_Bitmap))
theorem ref43_Mark_sound (x0 : List api_Bitmap) (x1 : List api_Write) {Φ : List api_Bitmap → Prop} {o} (h : ref43_Mark_S x0 x1 = some o) (hK : Φ o) : ref43_Mark_W x0 x1 Φ := by
  unfold ref43_Mark_S at h
  unfold ref43_Mark_W
  exact LoopW.of_S (fun s q rec hs hq => ref43_Mark_L1_sound _ _ s hs hq) _ _ h hK
def law47_point_S (x0 : Int) (x1 : List (List Sec)) (x2 : List api_Span) (x3 : List api_Write) : Option (api_Point) :=
  Option.bind (ref07_Apply_S x1 x3) fun v1 =>
  Option.bind (ref07_SizesOf_S x1) fun v2 =>
  Option.bind (ref43_Clean_S v2) fun v3 =>
  Option.bind (ref43_Mark_S v3 x3) fun v4 =>
  some ((api_Point.mk x0 x2 v4 v1.1))
theorem law47_point_sound (x0 : Int) (x1 : List (List Sec)) (x2 : List api_Span) (x3 : List api_Write) {Φ : api_Point → Prop} {o} (h : law47_point_S x0 x1 x2 x3 = some o) (hK : Φ o) : law47_point_W x0 x1 x2 x3 Φ := by
  unfold law47_point_S at h
  unfold law47_point_W
  exact blS h fun _ hv h => ref07_Apply_sound _ _ hv (blS h fun _ hv h => ref07_SizesOf_sound _ hv (blS h fun _ hv h => ref43_Clean_sound _ hv (blS h fun _ hv h => ref43_Mark_sound _ _ hv (have t := lfS h hK; t))))
def delta_in_S (x0 : Int) (x1 : Int) : Option (Bool) :=
  if x1 ≤ x0 then
    some (decide (x0 ≤ 1073741824))
  else
    some (false)
theorem delta_in_sound (x0 : Int) (x1 : Int) {Φ : Bool → Prop} {o} (h : delta_in_S x0 x1 = some o) (hK : Φ o) : delta_in_W x0 x1 Φ := by
  unfold delta_in_S at h
  unfold delta_in_W
  exact ifS h (fun h => have t := lfS h hK; t) fun h => have t := lfS h hK; t
def delta_correct_L1_S (x0 : List api_Span) : (Int × Int × Int × Int) → Option ((Int × Int × Int × Int) ⊕ (Bool))
  | (v1, v2, _, v4) =>
    if v1 < (x0.length : Int) then
      if inX v1 x0.length then
      if inI (v4 + 1) then
      if ((ix x0 v1).From) ≠ (v4 + 1) then
        some (.inr false)
      else
        if ((ix x0 v1).To) < ((ix x0 v1).From) then
          some (.inr false)
        else
          if 1073741824 < ((ix x0 v1).To) then
            some (.inr false)
          else
            Option.bind (delta_in_S ((ix x0 v1).Epoch) 1) fun v5 =>
            if ¬ (v5 = true) then
              some (.inr false)
            else
              if ((ix x0 v1).Epoch) ≤ v2 then
                some (.inr false)
              else
                if inI (v1 + 1) then
                some (.inl ((v1 + 1), (ix x0 v1).Epoch, (ix x0 v1).From, (ix x0 v1).To))
                else none
      else none
      else none
    else
      some (.inr true)
theorem delta_correct_L1_sound (x0 : List api_Span) (s : Int × Int × Int × Int) {Φ : Bool → Prop} {rec1 : (Int × Int × Int × Int) → Prop} {o} (h : delta_correct_L1_S x0 s = some o) (hK : (orK rec1 Φ) o) : delta_correct_L1 x0 Φ s rec1 := by
  obtain ⟨v1, v2, v3, v4⟩ := s
  unfold delta_correct_L1_S at h
  unfold delta_correct_L1
  exact ifS h (fun h => adS h fun h => adS h fun h => ifS h (fun h => have t := lfS h hK; t) fun h => ifS h (fun h => have t := lfS h hK; t) fun h => ifS h (fun h => have t := lfS h hK; t) fun h => blS h fun _ hv h => delta_in_sound _ _ hv (ifS h (fun h => have t := lfS h hK; t) fun h => ifS h (fun h => have t := lfS h hK; t) fun h => adS h fun h => have t := lfS h hK; t)) fun h => have t := lfS h hK; t
def delta_correct_S (x0 : List api_Span) : Option (Bool) :=
  loopS (delta_correct_L1_S x0) 100000 (0, 0, 0, 0)
theorem delta_correct_sound (x0 : List api_Span) {Φ : Bool → Prop} {o} (h : delta_correct_S x0 = some o) (hK : Φ o) : delta_correct_W x0 Φ := by
  unfold delta_correct_S at h
  unfold delta_correct_W
  exact LoopW.of_S (fun s q rec hs hq => delta_correct_L1_sound _ s hs hq) _ _ h hK
def image_sizes_1_S (x0 : List Sec) : Option (Int) :=
  some ((x0.length : Int))
theorem image_sizes_1_sound (x0 : List Sec) {Φ : Int → Prop} {o} (h : image_sizes_1_S x0 = some o) (hK : Φ o) : image_sizes_1_W x0 Φ := by
  unfold image_sizes_1_S at h
  unfold image_sizes_1_W
  exact have t := lfS h hK; t
def image_sizes_L1_S (x0 : List (List Sec)) : (Int × List Int) → Option ((Int × List Int) ⊕ (List Int))
  | (v1, v2) =>
    if v1 < (x0.length : Int) then
      if inX v1 x0.length then
      Option.bind (image_sizes_1_S (ix x0 v1)) fun v3 =>
      if lenOk (v2 ++ ([v3] : List Int)).length 8 then
      if inI (v1 + 1) then
      some (.inl ((v1 + 1), (v2 ++ ([v3] : List Int))))
      else none
      else none
      else none
    else
      some (.inr v2)
theorem image_sizes_L1_sound (x0 : List (List Sec)) (s : Int × List Int) {Φ : List Int → Prop} {rec1 : (Int × List Int) → Prop} {o} (h : image_sizes_L1_S x0 s = some o) (hK : (orK rec1 Φ) o) : image_sizes_L1 x0 Φ s rec1 := by
  obtain ⟨v1, v2⟩ := s
  unfold image_sizes_L1_S at h
  unfold image_sizes_L1
  exact ifS h (fun h => adS h fun h => blS h fun _ hv h => image_sizes_1_sound _ hv (adS h fun h => adS h fun h => have t := lfS h hK; t)) fun h => have t := lfS h hK; t
def image_sizes_S (x0 : List (List Sec)) : Option (List Int) :=
  if 0 ≤ (x0.length : Int) then
  if lenOk (x0.length : Int).toNat 8 then
  loopS (image_sizes_L1_S x0) 100000 (0, ([] : List Int))
  else none
  else none
theorem image_sizes_sound (x0 : List (List Sec)) {Φ : List Int → Prop} {o} (h : image_sizes_S x0 = some o) (hK : Φ o) : image_sizes_W x0 Φ := by
  unfold image_sizes_S at h
  unfold image_sizes_W
  exact adS h fun h => adS h fun h => LoopW.of_S (fun s q rec hs hq => image_sizes_L1_sound _ s hs hq) _ _ h hK
def image_checkSizes_1_S (x0 : Int) : Option (Bool) :=
  if x0 < 1 then
    some (true)
  else
    some (decide (4096 < x0))
theorem image_checkSizes_1_sound (x0 : Int) {Φ : Bool → Prop} {o} (h : image_checkSizes_1_S x0 = some o) (hK : Φ o) : image_checkSizes_1_W x0 Φ := by
  unfold image_checkSizes_1_S at h
  unfold image_checkSizes_1_W
  exact ifS h (fun h => have t := lfS h hK; t) fun h => have t := lfS h hK; t
def image_checkSizes_L1_S (x0 : List Int) : (Int) → Option ((Int) ⊕ (Int))
  | v1 =>
    if v1 < (x0.length : Int) then
      if inX v1 x0.length then
      Option.bind (image_checkSizes_1_S (ix x0 v1)) fun v2 =>
      if v2 = true then
        if 0 ≤ v1 then
          some (.inr 2)
        else
          some (.inr 0)
      else
        if inI (v1 + 1) then
        some (.inl (v1 + 1))
        else none
      else none
    else
      if 0 ≤ (-1) then
        some (.inr 2)
      else
        some (.inr 0)
theorem image_checkSizes_L1_sound (x0 : List Int) (s : Int) {Φ : Int → Prop} {rec1 : (Int) → Prop} {o} (h : image_checkSizes_L1_S x0 s = some o) (hK : (orK rec1 Φ) o) : image_checkSizes_L1 x0 Φ s rec1 := by
  unfold image_checkSizes_L1_S at h
  unfold image_checkSizes_L1
  exact ifS h (fun h => adS h fun h => blS h fun _ hv h => image_checkSizes_1_sound _ hv (ifS h (fun h => ifS h (fun h => have t := lfS h hK; t) fun h => have t := lfS h hK; t) fun h => adS h fun h => have t := lfS h hK; t)) fun h => ifS h (fun h => have t := lfS h hK; t) fun h => have t := lfS h hK; t
def image_checkSizes_S (x0 : List Int) : Option (Int) :=
  if (x0.length : Int) < 1 then
    some (6)
  else
    if 8 < (x0.length : Int) then
      some (6)
    else
      loopS (image_checkSizes_L1_S x0) 100000 0
theorem image_checkSizes_sound (x0 : List Int) {Φ : Int → Prop} {o} (h : image_checkSizes_S x0 = some o) (hK : Φ o) : image_checkSizes_W x0 Φ := by
  unfold image_checkSizes_S at h
  unfold image_checkSizes_W
  exact ifS h (fun h => have t := lfS h hK; t) fun h => ifS h (fun h => have t := lfS h hK; t) fun h => LoopW.of_S (fun s q rec hs hq => image_checkSizes_L1_sound _ s hs hq) _ _ h hK
def image_Check_S (x0 : List (List Sec)) : Option (Int) :=
  Option.bind (image_sizes_S x0) fun v1 =>
  Option.bind (image_checkSizes_S v1) fun v2 =>
  some (v2)
theorem image_Check_sound (x0 : List (List Sec)) {Φ : Int → Prop} {o} (h : image_Check_S x0 = some o) (hK : Φ o) : image_Check_W x0 Φ := by
  unfold image_Check_S at h
  unfold image_Check_W
  exact blS h fun _ hv h => image_sizes_sound _ hv (blS h fun _ hv h => image_checkSizes_sound _ hv (have t := lfS h hK; t))
def bitmap_words_S (x0 : Int) : Option (Int) :=
  if inI (x0 + 64) then
  if inI ((x0 + 64) - 1) then
  if 0 ≤ ((x0 + 64) - 1) ∧ inI ((x0 + 64) - 1) ∧ (0 : Int) < 64 then
  some ((((x0 + 64) - 1) / 64))
  else none
  else none
  else none
theorem bitmap_words_sound (x0 : Int) {Φ : Int → Prop} {o} (h : bitmap_words_S x0 = some o) (hK : Φ o) : bitmap_words_W x0 Φ := by
  unfold bitmap_words_S at h
  unfold bitmap_words_W
  exact adS h fun h => adS h fun h => adS h fun h => have t := lfS h hK; t
def bitmap_Check_S (x0 : api_Bitmap) : Option (Int) :=
  if x0.Size < 0 then
    some (3)
  else
    if 4096 < x0.Size then
      some (3)
    else
      Option.bind (bitmap_words_S x0.Size) fun z =>
      let v1 : Int × Unit := (z, ())
      if (x0.Words.length : Int) ≠ v1.1 then
        some (3)
      else
        if 0 ≤ x0.Size ∧ 64 ≠ (0 : Int) then
        if 0 < (x0.Size % 64) then
          if inI ((x0.Words.length : Int) - 1) then
          if inX ((x0.Words.length : Int) - 1) x0.Words.length then
          if 0 ≤ (x0.Size % 64) then
          if ((ix x0.Words ((x0.Words.length : Int) - 1)) >>> ((x0.Size % 64) : Int).toNat) ≠ (0#64) then
            some (3)
          else
            some (0)
          else none
          else none
          else none
        else
          some (0)
        else none
theorem bitmap_Check_sound (x0 : api_Bitmap) {Φ : Int → Prop} {o} (h : bitmap_Check_S x0 = some o) (hK : Φ o) : bitmap_Check_W x0 Φ := by
  unfold bitmap_Check_S at h
  unfold bitmap_Check_W
  exact ifS h (fun h => have t := lfS h hK; t) fun h => ifS h (fun h => have t := lfS h hK; t) fun h => blS h fun _ hv h => ⟨_, bitmap_words_sound _ hv rfl, ifS h (fun h => have t := lfS h hK; t) fun h => adS h fun h => ifS h (fun h => adS h fun h => adS h fun h => adS h fun h => ifS h (fun h => have t := lfS h hK; t) fun h => have t := lfS h hK; t) fun h => have t := lfS h hK; t⟩
def delta_Check_L1_S (x0 : api_Point) : (Int) → Option ((Int) ⊕ (Int))
  | v4 =>
    if v4 < (x0.Dirty.length : Int) then
      if inX v4 x0.Dirty.length then
      Option.bind (bitmap_Check_S (ix x0.Dirty v4)) fun v5 =>
      if v5 ≠ 0 then
        some (.inr v5)
      else
        if inX v4 x0.Image.length then
        if ((ix x0.Dirty v4).Size) ≠ ((ix x0.Image v4).length : Int) then
          some (.inr 22)
        else
          if inI (v4 + 1) then
          some (.inl (v4 + 1))
          else none
        else none
      else none
    else
      some (.inr 0)
theorem delta_Check_L1_sound (x0 : api_Point) (s : Int) {Φ : Int → Prop} {rec1 : (Int) → Prop} {o} (h : delta_Check_L1_S x0 s = some o) (hK : (orK rec1 Φ) o) : delta_Check_L1 x0 Φ s rec1 := by
  unfold delta_Check_L1_S at h
  unfold delta_Check_L1
  exact ifS h (fun h => adS h fun h => blS h fun _ hv h => bitmap_Check_sound _ hv (ifS h (fun h => have t := lfS h hK; t) fun h => adS h fun h => ifS h (fun h => have t := lfS h hK; t) fun h => adS h fun h => have t := lfS h hK; t)) fun h => have t := lfS h hK; t
def delta_Check_S (x0 : api_Point) : Option (Int) :=
  Option.bind (delta_in_S x0.Site 0) fun v1 =>
  if ¬ (v1 = true) then
    some (2)
  else
    Option.bind (delta_correct_S x0.Lineage) fun v2 =>
    if ¬ (v2 = true) then
      some (3)
    else
      Option.bind (image_Check_S x0.Image) fun v3 =>
      if v3 ≠ 0 then
        some (v3)
      else
        if (x0.Dirty.length : Int) ≠ (x0.Image.length : Int) then
          some (6)
        else
          loopS (delta_Check_L1_S x0) 100000 0
theorem delta_Check_sound (x0 : api_Point) {Φ : Int → Prop} {o} (h : delta_Check_S x0 = some o) (hK : Φ o) : delta_Check_W x0 Φ := by
  unfold delta_Check_S at h
  unfold delta_Check_W
  exact blS h fun _ hv h => delta_in_sound _ _ hv (ifS h (fun h => have t := lfS h hK; t) fun h => blS h fun _ hv h => delta_correct_sound _ hv (ifS h (fun h => have t := lfS h hK; t) fun h => blS h fun _ hv h => image_Check_sound _ hv (ifS h (fun h => have t := lfS h hK; t) fun h => ifS h (fun h => have t := lfS h hK; t) fun h => LoopW.of_S (fun s q rec hs hq => delta_Check_L1_sound _ s hs hq) _ _ h hK)))
def reverse_last_S (x0 : List api_Span) : Option (Int) :=
  if (x0.length : Int) = 0 then
    some (0)
  else
    if inI ((x0.length : Int) - 1) then
    if inX ((x0.length : Int) - 1) x0.length then
    some ((ix x0 ((x0.length : Int) - 1)).To)
    else none
    else none
theorem reverse_last_sound (x0 : List api_Span) {Φ : Int → Prop} {o} (h : reverse_last_S x0 = some o) (hK : Φ o) : reverse_last_W x0 Φ := by
  unfold reverse_last_S at h
  unfold reverse_last_W
  exact ifS h (fun h => have t := lfS h hK; t) fun h => adS h fun h => adS h fun h => have t := lfS h hK; t
def bitmap_mask_S (x0 : Int) (x1 : Int) (x2 : Int) : Option (BitVec 64) :=
  if inI (x0 * 64) then
  if inI (x1 - (x0 * 64)) then
  if inI (x0 * 64) then
  if inI (x2 - (x0 * 64)) then
  if (if 64 < (x2 - (x0 * 64)) then 64 else (x2 - (x0 * 64))) ≤ (if (x1 - (x0 * 64)) < 0 then 0 else (x1 - (x0 * 64))) then
    some (0#64)
  else
    if inI ((if 64 < (x2 - (x0 * 64)) then 64 else (x2 - (x0 * 64))) - (if (x1 - (x0 * 64)) < 0 then 0 else (x1 - (x0 * 64)))) then
    if inI (64 - ((if 64 < (x2 - (x0 * 64)) then 64 else (x2 - (x0 * 64))) - (if (x1 - (x0 * 64)) < 0 then 0 else (x1 - (x0 * 64))))) then
    if 0 ≤ (64 - ((if 64 < (x2 - (x0 * 64)) then 64 else (x2 - (x0 * 64))) - (if (x1 - (x0 * 64)) < 0 then 0 else (x1 - (x0 * 64))))) then
    if 0 ≤ (if (x1 - (x0 * 64)) < 0 then 0 else (x1 - (x0 * 64))) then
    some ((((18446744073709551615#64) >>> ((64 - ((if 64 < (x2 - (x0 * 64)) then 64 else (x2 - (x0 * 64))) - (if (x1 - (x0 * 64)) < 0 then 0 else (x1 - (x0 * 64))))) : Int).toNat) <<< ((if (x1 - (x0 * 64)) < 0 then 0 else (x1 - (x0 * 64))) : Int).toNat))
    else none
    else none
    else none
    else none
  else none
  else none
  else none
  else none
theorem bitmap_mask_sound (x0 : Int) (x1 : Int) (x2 : Int) {Φ : BitVec 64 → Prop} {o} (h : bitmap_mask_S x0 x1 x2 = some o) (hK : Φ o) : bitmap_mask_W x0 x1 x2 Φ := by
  unfold bitmap_mask_S at h
  unfold bitmap_mask_W
  exact adS h fun h => adS h fun h => adS h fun h => adS h fun h => ifS h (fun h => have t := lfS h hK; t) fun h => adS h fun h => adS h fun h => adS h fun h => adS h fun h => have t := lfS h hK; t
def math_bits_TrailingZeros64_S (x0 : BitVec 64) : Option Int := if x0 ≠ 0#64 then some (Lib.ctz 64 x0.toNat : Int) else none
theorem math_bits_TrailingZeros64_sound (x0 : BitVec 64) {Φ : Int → Prop} {o} (h : math_bits_TrailingZeros64_S x0 = some o) (hK : Φ o) : math_bits_TrailingZeros64_W x0 Φ := by
  unfold math_bits_TrailingZeros64_S at h
  unfold math_bits_TrailingZeros64_W
  exact adS h fun h => lfS h hK
def bitmap_elements_1_L2_S (v2 : Int) : (BitVec 64) → Option (List (Int × Unit) × ((BitVec 64) ⊕ ((Int) ⊕ (Unit))))
  | v4 =>
    if v4 ≠ (0#64) then
      if inI (v2 * 64) then
      Option.bind (math_bits_TrailingZeros64_S v4) fun z =>
      let v5 : Int × Unit := (z, ())
      if inI ((v2 * 64) + v5.1) then
      Option.map (fun q => ((((v2 * 64) + v5.1), ()) :: q.1, q.2)) (
        some ([], .inl (v4 &&& (v4 - (1#64)))))
      else none
      else none
    else
      if inI (v2 + 1) then
      some ([], .inr (.inl (v2 + 1)))
      else none
theorem bitmap_elements_1_L2_sound (v2 : Int) (s : BitVec 64) {ys : List (Int × Unit)} {q} {r : List (Int × Unit)} {rec1 : (List (Int × Unit) × Int) → Prop} {rec2 : (List (Int × Unit) × BitVec 64) → Prop} (h : bitmap_elements_1_L2_S v2 s = some (ys, q)) (hr : (orK (fun s => rec2 (r, s)) (orK (fun s => rec1 (r, s)) (fun _ => r = []))) q) : bitmap_elements_1_L2 v2 rec1 (ys ++ r, s) rec2 := by
  unfold bitmap_elements_1_L2_S at h
  unfold bitmap_elements_1_L2
  exact ifS h (fun h => adS h fun h => blS h fun _ hv h => ⟨_, math_bits_TrailingZeros64_sound _ hv rfl, adS h fun h => mpS h fun (_, _) h he => (by cases he; exact ⟨rfl, (by cases h; exact hr), trivial⟩)⟩) fun h => adS h fun h => (by cases h; exact hr)
def bitmap_elements_1_L1_S (x0 : api_Bitmap) (x1 : Int) : (Int) → Option (List (Int × Unit) × ((Int) ⊕ (Unit)))
  | v2 =>
    if v2 < (x0.Words.length : Int) then
      if inX v2 x0.Words.length then
      Option.bind (bitmap_mask_S v2 x1 x0.Size) fun z =>
      let v3 : BitVec 64 × Unit := (z, ())
      genS (bitmap_elements_1_L2_S v2) 100000 ((ix x0.Words v2) &&& v3.1)
      else none
    else
      some ([], .inr ())
theorem bitmap_elements_1_L1_sound (x0 : api_Bitmap) (x1 : Int) (s : Int) {ys : List (Int × Unit)} {q} {r : List (Int × Unit)} {rec1 : (List (Int × Unit) × Int) → Prop} (h : bitmap_elements_1_L1_S x0 x1 s = some (ys, q)) (hr : (orK (fun s => rec1 (r, s)) (fun _ => r = [])) q) : bitmap_elements_1_L1 x0 x1 (ys ++ r, s) rec1 := by
  unfold bitmap_elements_1_L1_S at h
  unfold bitmap_elements_1_L1
  exact ifS h (fun h => adS h fun h => blS h fun _ hv h => ⟨_, bitmap_mask_sound _ _ _ hv rfl, LoopW.of_G (K := fun r => (orK (fun s => rec1 (r, s)) (fun _ => r = []))) (fun s ys q r rec hs hr => bitmap_elements_1_L2_sound _ s hs hr) _ _ _ h hr⟩) fun h => (by cases h; exact hr)
def bitmap_elements_1_S0 (x0 : api_Bitmap) (x1 : Int) : Option (List (Int × Unit) × Unit) :=
  Option.bind (bitmap_Check_S x0) fun z =>
  let v1 : Int × Unit := (z, ())
  if v1.1 ≠ 0 then
    some ([], ())
  else
    genS (bitmap_elements_1_L1_S x0 x1) 100000 0
def bitmap_elements_1_S (x0 : api_Bitmap) (x1 : Int) : Option (List (Int × Unit)) := Option.map Prod.fst (bitmap_elements_1_S0 x0 x1)
theorem bitmap_elements_1_sound (x0 : api_Bitmap) (x1 : Int) {l : List (Int × Unit)} (h : bitmap_elements_1_S x0 x1 = some l) : bitmap_elements_1_I x0 x1 l := by
  obtain ⟨⟨ys, q⟩, h0, h1⟩ := Option.map_eq_some_iff.1 h
  clear h
  have h := h0
  subst h1
  unfold bitmap_elements_1_S0 at h
  unfold bitmap_elements_1_I
  have hr : (fun _ => ([] : List (Int × Unit)) = []) q := rfl
  rw [← List.append_nil ys]
  exact blS h fun _ hv h => ⟨_, bitmap_Check_sound _ hv rfl, ifS h (fun h => (by cases h; exact hr)) fun h => LoopW.of_G (K := fun r => (fun _ => r = [])) (fun s ys q r rec hs hr => bitmap_elements_1_L1_sound _ _ s hs hr) _ _ _ h hr⟩
def bitmap_Extents_J2_S (v1 : List api_Extent) (v2 : Int × Unit) (r3 : List (Int × Unit)) : (Bool) → Option ((List (Int × Unit) × List api_Extent) ⊕ (List api_Extent))
  | v4 =>
    if v4 = true then
      if inI ((v1.length : Int) - 1) then
      if inX ((v1.length : Int) - 1) v1.length then
      if inI (((ix v1 ((v1.length : Int) - 1)).Count) + 1) then
      if inX ((v1.length : Int) - 1) v1.length then
      some (.inl (r3, (put v1 ((v1.length : Int) - 1) (api_Extent.mk ((ix v1 ((v1.length : Int) - 1)).Start) (((ix v1 ((v1.length : Int) - 1)).Count) + 1)))))
      else none
      else none
      else none
      else none
    else
      if lenOk (v1 ++ ([(api_Extent.mk v2.1 1)] : List api_Extent)).length 16 then
      some (.inl (r3, (v1 ++ ([(api_Extent.mk v2.1 1)] : List api_Extent))))
      else none
theorem bitmap_Extents_J2_sound (v1 : List api_Extent) (v2 : Int × Unit) (r3 : List (Int × Unit)) (s : Bool) {Φ : List api_Extent → Prop} {rec1 : (List (Int × Unit) × List api_Extent) → Prop} {o} (h : bitmap_Extents_J2_S v1 v2 r3 s = some o) (hK : (orK rec1 Φ) o) : bitmap_Extents_J2 v1 rec1 v2 r3 Φ s := by
  unfold bitmap_Extents_J2_S at h
  unfold bitmap_Extents_J2
  exact ifS h (fun h => adS h fun h => adS h fun h => adS h fun h => adS h fun h => have t := lfS h hK; t) fun h => adS h fun h => have t := lfS h hK; t
def bitmap_Extents_L1_S : (List (Int × Unit) × List api_Extent) → Option ((List (Int × Unit) × List api_Extent) ⊕ (List api_Extent))
  | (lst, v1) =>
    match lst with
    | [] =>
      some (.inr v1)
    | v2 :: r3 =>
      if 0 < (v1.length : Int) then
        if inI ((v1.length : Int) - 1) then
        if inX ((v1.length : Int) - 1) v1.length then
        if inI ((v1.length : Int) - 1) then
        if inX ((v1.length : Int) - 1) v1.length then
        if inI (((ix v1 ((v1.length : Int) - 1)).Start) + ((ix v1 ((v1.length : Int) - 1)).Count)) then
        bitmap_Extents_J2_S v1 v2 r3 (decide ((((ix v1 ((v1.length : Int) - 1)).Start) + ((ix v1 ((v1.length : Int) - 1)).Count)) = v2.1))
        else none
        else none
        else none
        else none
        else none
      else
        bitmap_Extents_J2_S v1 v2 r3 false
theorem bitmap_Extents_L1_sound (s : List (Int × Unit) × List api_Extent) {Φ : List api_Extent → Prop} {rec1 : (List (Int × Unit) × List api_Extent) → Prop} {o} (h : bitmap_Extents_L1_S s = some o) (hK : (orK rec1 Φ) o) : bitmap_Extents_L1 Φ s rec1 := by
  obtain ⟨lst, v1⟩ := s
  unfold bitmap_Extents_L1_S at h
  unfold bitmap_Extents_L1
  cases lst with
  | nil => exact have t := lfS h hK; t
  | cons _ _ => exact ifS h (fun h => adS h fun h => adS h fun h => adS h fun h => adS h fun h => adS h fun h => bitmap_Extents_J2_sound _ _ _ _ h hK) fun h => bitmap_Extents_J2_sound _ _ _ _ h hK
def bitmap_Extents_S (x0 : api_Bitmap) : Option (List api_Extent) :=
  Option.bind (bitmap_elements_1_S x0 0) fun l5 =>
  loopS (bitmap_Extents_L1_S) 100000 (l5, ([] : List api_Extent))
theorem bitmap_Extents_sound (x0 : api_Bitmap) {Φ : List api_Extent → Prop} {o} (h : bitmap_Extents_S x0 = some o) (hK : Φ o) : bitmap_Extents_W x0 Φ := by
  unfold bitmap_Extents_S at h
  unfold bitmap_Extents_W
  exact blS h fun _ hv h => ⟨_, bitmap_elements_1_sound _ _ hv, LoopW.of_S (fun s q rec hs hq => bitmap_Extents_L1_sound s hs hq) _ _ h hK⟩
def reverse_Undo_1_S (_ : Int) (x1 : api_Bitmap) : Option (List api_Extent) :=
  Option.bind (bitmap_Extents_S x1) fun v1 =>
  some (v1)
theorem reverse_Undo_1_sound (x0 : Int) (x1 : api_Bitmap) {Φ : List api_Extent → Prop} {o} (h : reverse_Undo_1_S x0 x1 = some o) (hK : Φ o) : reverse_Undo_1_W x0 x1 Φ := by
  unfold reverse_Undo_1_S at h
  unfold reverse_Undo_1_W
  exact blS h fun _ hv h => bitmap_Extents_sound _ hv (have t := lfS h hK; t)
def reverse_Undo_L2_S (x0 : api_Point) : (Int × List (List api_Extent)) → Option ((Int × List (List api_Extent)) ⊕ (List (List api_Extent) × Int))
  | (v3, v4) =>
    if v3 < (x0.Dirty.length : Int) then
      if inX v3 x0.Dirty.length then
      Option.bind (reverse_Undo_1_S v3 (ix x0.Dirty v3)) fun v5 =>
      if lenOk (v4 ++ ([v5] : List (List api_Extent))).length 24 then
      if inI (v3 + 1) then
      some (.inl ((v3 + 1), (v4 ++ ([v5] : List (List api_Extent)))))
      else none
      else none
      else none
    else
      some (.inr (v4, 0))
theorem reverse_Undo_L2_sound (x0 : api_Point) (s : Int × List (List api_Extent)) {Φ : List (List api_Extent) × Int → Prop} {rec2 : (Int × List (List api_Extent)) → Prop} {o} (h : reverse_Undo_L2_S x0 s = some o) (hK : (orK rec2 Φ) o) : reverse_Undo_L2 x0 Φ s rec2 := by
  obtain ⟨v3, v4⟩ := s
  unfold reverse_Undo_L2_S at h
  unfold reverse_Undo_L2
  exact ifS h (fun h => adS h fun h => blS h fun _ hv h => reverse_Undo_1_sound _ _ hv (adS h fun h => adS h fun h => have t := lfS h hK; t)) fun h => have t := lfS h hK; t
def reverse_Undo_J1_S (x0 : api_Point) : (Bool) → Option (List (List api_Extent) × Int)
  | v2 =>
    if v2 = true then
      some ((([] : List (List api_Extent)), 2))
    else
      loopS (reverse_Undo_L2_S x0) 100000 (0, ([] : List (List api_Extent)))
theorem reverse_Undo_J1_sound (x0 : api_Point) (s : Bool) {Φ : List (List api_Extent) × Int → Prop} {o} (h : reverse_Undo_J1_S x0 s = some o) (hK : Φ o) : reverse_Undo_J1 x0 Φ s := by
  unfold reverse_Undo_J1_S at h
  unfold reverse_Undo_J1
  exact ifS h (fun h => have t := lfS h hK; t) fun h => LoopW.of_S (fun s q rec hs hq => reverse_Undo_L2_sound _ s hs hq) _ _ h hK
def reverse_Undo_S (x0 : api_Point) (x1 : Int) : Option (List (List api_Extent) × Int) :=
  Option.bind (delta_Check_S x0) fun v1 =>
  if v1 ≠ 0 then
    some ((([] : List (List api_Extent)), v1))
  else
    if x1 < 0 then
      reverse_Undo_J1_S x0 true
    else
      Option.bind (reverse_last_S x0.Lineage) fun v6 =>
      reverse_Undo_J1_S x0 (decide (v6 < x1))
theorem reverse_Undo_sound (x0 : api_Point) (x1 : Int) {Φ : List (List api_Extent) × Int → Prop} {o} (h : reverse_Undo_S x0 x1 = some o) (hK : Φ o) : reverse_Undo_W x0 x1 Φ := by
  unfold reverse_Undo_S at h
  unfold reverse_Undo_W
  exact blS h fun _ hv h => delta_Check_sound _ hv (ifS h (fun h => have t := lfS h hK; t) fun h => ifS h (fun h => reverse_Undo_J1_sound _ _ h hK) fun h => blS h fun _ hv h => reverse_last_sound _ hv (reverse_Undo_J1_sound _ _ h hK))
def delta_alike_1_S (x0 : List Sec) (x1 : List Sec) : Option (Bool) :=
  some (decide ((x0.length : Int) = (x1.length : Int)))
theorem delta_alike_1_sound (x0 : List Sec) (x1 : List Sec) {Φ : Bool → Prop} {o} (h : delta_alike_1_S x0 x1 = some o) (hK : Φ o) : delta_alike_1_W x0 x1 Φ := by
  unfold delta_alike_1_S at h
  unfold delta_alike_1_W
  exact have t := lfS h hK; t
def delta_alike_L1_S (x0 : List (List Sec)) (x1 : List (List Sec)) : (Int) → Option ((Int) ⊕ (Bool))
  | v1 =>
    if v1 < (x0.length : Int) then
      if inX v1 x0.length then
      if inX v1 x1.length then
      Option.bind (delta_alike_1_S (ix x0 v1) (ix x1 v1)) fun v2 =>
      if ¬ (v2 = true) then
        some (.inr false)
      else
        if inI (v1 + 1) then
        some (.inl (v1 + 1))
        else none
      else none
      else none
    else
      some (.inr true)
theorem delta_alike_L1_sound (x0 : List (List Sec)) (x1 : List (List Sec)) (s : Int) {Φ : Bool → Prop} {rec1 : (Int) → Prop} {o} (h : delta_alike_L1_S x0 x1 s = some o) (hK : (orK rec1 Φ) o) : delta_alike_L1 x0 x1 Φ s rec1 := by
  unfold delta_alike_L1_S at h
  unfold delta_alike_L1
  exact ifS h (fun h => adS h fun h => adS h fun h => blS h fun _ hv h => delta_alike_1_sound _ _ hv (ifS h (fun h => have t := lfS h hK; t) fun h => adS h fun h => have t := lfS h hK; t)) fun h => have t := lfS h hK; t
def delta_alike_S (x0 : List (List Sec)) (x1 : List (List Sec)) : Option (Bool) :=
  if (x0.length : Int) ≠ (x1.length : Int) then
    some (false)
  else
    loopS (delta_alike_L1_S x0 x1) 100000 0
theorem delta_alike_sound (x0 : List (List Sec)) (x1 : List (List Sec)) {Φ : Bool → Prop} {o} (h : delta_alike_S x0 x1 = some o) (hK : Φ o) : delta_alike_W x0 x1 Φ := by
  unfold delta_alike_S at h
  unfold delta_alike_W
  exact ifS h (fun h => have t := lfS h hK; t) fun h => LoopW.of_S (fun s q rec hs hq => delta_alike_L1_sound _ _ s hs hq) _ _ h hK
def bitmap_Or_1_S (x0 : BitVec 64) (x1 : BitVec 64) : Option (BitVec 64) :=
  some ((x0 ||| x1))
theorem bitmap_Or_1_sound (x0 : BitVec 64) (x1 : BitVec 64) {Φ : BitVec 64 → Prop} {o} (h : bitmap_Or_1_S x0 x1 = some o) (hK : Φ o) : bitmap_Or_1_W x0 x1 Φ := by
  unfold bitmap_Or_1_S at h
  unfold bitmap_Or_1_W
  exact have t := lfS h hK; t
def bitmap_Or_L1_S (x0 : api_Bitmap) (x1 : api_Bitmap) : (Int × List (BitVec 64)) → Option ((Int × List (BitVec 64)) ⊕ (api_Bitmap × Int))
  | (v3, v4) =>
    if v3 < ((List.replicate (x0.Words.length : Int).toNat (0#64)).length : Int) then
      if inX v3 x0.Words.length then
      if inX v3 x1.Words.length then
      Option.bind (bitmap_Or_1_S (ix x0.Words v3) (ix x1.Words v3)) fun z =>
      let v5 : BitVec 64 × Unit := (z, ())
      if inX v3 v4.length then
      if inI (v3 + 1) then
      some (.inl ((v3 + 1), (put v4 v3 v5.1)))
      else none
      else none
      else none
      else none
    else
      some (.inr ((api_Bitmap.mk x0.Size v4), 0))
theorem bitmap_Or_L1_sound (x0 : api_Bitmap) (x1 : api_Bitmap) (s : Int × List (BitVec 64)) {Φ : api_Bitmap × Int → Prop} {rec1 : (Int × List (BitVec 64)) → Prop} {o} (h : bitmap_Or_L1_S x0 x1 s = some o) (hK : (orK rec1 Φ) o) : bitmap_Or_L1 x0 x1 Φ s rec1 := by
  obtain ⟨v3, v4⟩ := s
  unfold bitmap_Or_L1_S at h
  unfold bitmap_Or_L1
  exact ifS h (fun h => adS h fun h => adS h fun h => blS h fun _ hv h => ⟨_, bitmap_Or_1_sound _ _ hv rfl, adS h fun h => adS h fun h => have t := lfS h hK; t⟩) fun h => have t := lfS h hK; t
def bitmap_Or_S (x0 : api_Bitmap) (x1 : api_Bitmap) : Option (api_Bitmap × Int) :=
  Option.bind (bitmap_Check_S x0) fun v1 =>
  if v1 ≠ 0 then
    some (((api_Bitmap.mk 0 ([] : List (BitVec 64))), v1))
  else
    Option.bind (bitmap_Check_S x1) fun v2 =>
    if v2 ≠ 0 then
      some (((api_Bitmap.mk 0 ([] : List (BitVec 64))), v2))
    else
      if x0.Size ≠ x1.Size then
        some (((api_Bitmap.mk 0 ([] : List (BitVec 64))), 22))
      else
        if 0 ≤ (x0.Words.length : Int) then
        if lenOk (x0.Words.length : Int).toNat 8 then
        loopS (bitmap_Or_L1_S x0 x1) 100000 (0, (List.replicate (x0.Words.length : Int).toNat (0#64)))
        else none
        else none
theorem bitmap_Or_sound (x0 : api_Bitmap) (x1 : api_Bitmap) {Φ : api_Bitmap × Int → Prop} {o} (h : bitmap_Or_S x0 x1 = some o) (hK : Φ o) : bitmap_Or_W x0 x1 Φ := by
  unfold bitmap_Or_S at h
  unfold bitmap_Or_W
  exact blS h fun _ hv h => bitmap_Check_sound _ hv (ifS h (fun h => have t := lfS h hK; t) fun h => blS h fun _ hv h => bitmap_Check_sound _ hv (ifS h (fun h => have t := lfS h hK; t) fun h => ifS h (fun h => have t := lfS h hK; t) fun h => adS h fun h => adS h fun h => LoopW.of_S (fun s q rec hs hq => bitmap_Or_L1_sound _ _ s hs hq) _ _ h hK))
def delta_marked_L1_S (x0 : api_Point) (x1 : api_Point) : (Int × List (List api_Extent)) → Option ((Int × List (List api_Extent)) ⊕ (List (List api_Extent)))
  | (v1, v2) =>
    if v1 < ((List.replicate (x0.Dirty.length : Int).toNat ([] : List api_Extent)).length : Int) then
      if inX v1 x0.Dirty.length then
      if inX v1 x1.Dirty.length then
      Option.bind (bitmap_Or_S (ix x0.Dirty v1) (ix x1.Dirty v1)) fun z =>
      let v3 : api_Bitmap × Int × Unit := (z.1, z.2, ())
      Option.bind (bitmap_Extents_S v3.1) fun v4 =>
      if inX v1 v2.length then
      if inI (v1 + 1) then
      some (.inl ((v1 + 1), (put v2 v1 v4)))
      else none
      else none
      else none
      else none
    else
      some (.inr v2)
theorem delta_marked_L1_sound (x0 : api_Point) (x1 : api_Point) (s : Int × List (List api_Extent)) {Φ : List (List api_Extent) → Prop} {rec1 : (Int × List (List api_Extent)) → Prop} {o} (h : delta_marked_L1_S x0 x1 s = some o) (hK : (orK rec1 Φ) o) : delta_marked_L1 x0 x1 Φ s rec1 := by
  obtain ⟨v1, v2⟩ := s
  unfold delta_marked_L1_S at h
  unfold delta_marked_L1
  exact ifS h (fun h => adS h fun h => adS h fun h => blS h fun _ hv h => ⟨_, bitmap_Or_sound _ _ hv rfl, blS h fun _ hv h => bitmap_Extents_sound _ hv (adS h fun h => adS h fun h => have t := lfS h hK; t)⟩) fun h => have t := lfS h hK; t
def delta_marked_S (x0 : api_Point) (x1 : api_Point) : Option (List (List api_Extent)) :=
  if 0 ≤ (x0.Dirty.length : Int) then
  if lenOk (x0.Dirty.length : Int).toNat 24 then
  loopS (delta_marked_L1_S x0 x1) 100000 (0, (List.replicate (x0.Dirty.length : Int).toNat ([] : List api_Extent)))
  else none
  else none
theorem delta_marked_sound (x0 : api_Point) (x1 : api_Point) {Φ : List (List api_Extent) → Prop} {o} (h : delta_marked_S x0 x1 = some o) (hK : Φ o) : delta_marked_W x0 x1 Φ := by
  unfold delta_marked_S at h
  unfold delta_marked_W
  exact adS h fun h => adS h fun h => LoopW.of_S (fun s q rec hs hq => delta_marked_L1_sound _ _ s hs hq) _ _ h hK
def delta_Between_L1_S (x0 : api_Point) (x1 : api_Point) : (Int) → Option ((Int) ⊕ (List (List api_Extent) × Int))
  | v1 =>
    if v1 < (([x0, x1] : List api_Point).length : Int) then
      if inX v1 ([x0, x1] : List api_Point).length then
      Option.bind (delta_Check_S (ix ([x0, x1] : List api_Point) v1)) fun v2 =>
      if v2 ≠ 0 then
        some (.inr (([] : List (List api_Extent)), v2))
      else
        if inI (v1 + 1) then
        some (.inl (v1 + 1))
        else none
      else none
    else
      Option.bind (delta_alike_S x0.Image x1.Image) fun v3 =>
      if ¬ (v3 = true) then
        some (.inr (([] : List (List api_Extent)), 22))
      else
        Option.bind (delta_marked_S x0 x1) fun v4 =>
        some (.inr (v4, 0))
theorem delta_Between_L1_sound (x0 : api_Point) (x1 : api_Point) (s : Int) {Φ : List (List api_Extent) × Int → Prop} {rec1 : (Int) → Prop} {o} (h : delta_Between_L1_S x0 x1 s = some o) (hK : (orK rec1 Φ) o) : delta_Between_L1 x0 x1 Φ s rec1 := by
  unfold delta_Between_L1_S at h
  unfold delta_Between_L1
  exact ifS h (fun h => adS h fun h => blS h fun _ hv h => delta_Check_sound _ hv (ifS h (fun h => have t := lfS h hK; t) fun h => adS h fun h => have t := lfS h hK; t)) fun h => blS h fun _ hv h => delta_alike_sound _ _ hv (ifS h (fun h => have t := lfS h hK; t) fun h => blS h fun _ hv h => delta_marked_sound _ _ hv (have t := lfS h hK; t))
def delta_Between_S (x0 : api_Point) (x1 : api_Point) : Option (List (List api_Extent) × Int) :=
  loopS (delta_Between_L1_S x0 x1) 100000 0
theorem delta_Between_sound (x0 : api_Point) (x1 : api_Point) {Φ : List (List api_Extent) × Int → Prop} {o} (h : delta_Between_S x0 x1 = some o) (hK : Φ o) : delta_Between_W x0 x1 Φ := by
  unfold delta_Between_S at h
  unfold delta_Between_W
  exact LoopW.of_S (fun s q rec hs hq => delta_Between_L1_sound _ _ s hs hq) _ _ h hK
def reverse_Extents_S (x0 : api_Point) (x1 : api_Point) : Option (List (List api_Extent) × Int) :=
  Option.bind (delta_Between_S x0 x1) fun v1 =>
  some ((v1.1, v1.2))
theorem reverse_Extents_sound (x0 : api_Point) (x1 : api_Point) {Φ : List (List api_Extent) × Int → Prop} {o} (h : reverse_Extents_S x0 x1 = some o) (hK : Φ o) : reverse_Extents_W x0 x1 Φ := by
  unfold reverse_Extents_S at h
  unfold reverse_Extents_W
  exact blS h fun _ hv h => delta_Between_sound _ _ hv (have t := lfS h hK; t)
def delta_Ancestor_J3_S (x0 : List api_Span) (x1 : List api_Span) (v2 : Int) (v3 : Int) (v4 : Int) : (Bool) → Option ((Int × Int × Int) ⊕ (Int × Int))
  | v5 =>
    if v5 = true then
      if inX v4 x0.length then
      if inX v4 x1.length then
      if inX v4 x0.length then
      if inX v4 x0.length then
      if inX v4 x1.length then
      if ((ix x0 v4).To) ≠ ((ix x1 v4).To) then
        some (.inr ((if ((ix x1 v4).To) < ((ix x0 v4).To) then ((ix x1 v4).To) else ((ix x0 v4).To)), (ix x0 v4).Epoch))
      else
        if inI (v4 + 1) then
        some (.inl ((if ((ix x1 v4).To) < ((ix x0 v4).To) then ((ix x1 v4).To) else ((ix x0 v4).To)), (ix x0 v4).Epoch, (v4 + 1)))
        else none
      else none
      else none
      else none
      else none
      else none
    else
      some (.inr (v2, v3))
theorem delta_Ancestor_J3_sound (x0 : List api_Span) (x1 : List api_Span) (v2 : Int) (v3 : Int) (v4 : Int) (s : Bool) {Φ : Int × Int → Prop} {rec2 : (Int × Int × Int) → Prop} {o} (h : delta_Ancestor_J3_S x0 x1 v2 v3 v4 s = some o) (hK : (orK rec2 Φ) o) : delta_Ancestor_J3 x0 x1 v2 v3 v4 rec2 Φ s := by
  unfold delta_Ancestor_J3_S at h
  unfold delta_Ancestor_J3
  exact ifS h (fun h => adS h fun h => adS h fun h => adS h fun h => adS h fun h => adS h fun h => ifS h (fun h => have t := lfS h hK; t) fun h => adS h fun h => have t := lfS h hK; t) fun h => have t := lfS h hK; t
def delta_Ancestor_L2_S (x0 : List api_Span) (x1 : List api_Span) : (Int × Int × Int) → Option ((Int × Int × Int) ⊕ (Int × Int))
  | (v2, v3, v4) =>
    if v4 < (if (x1.length : Int) < (x0.length : Int) then (x1.length : Int) else (x0.length : Int)) then
      if inX v4 x0.length then
      if inX v4 x1.length then
      delta_Ancestor_J3_S x0 x1 v2 v3 v4 (decide (((ix x0 v4).Epoch) = ((ix x1 v4).Epoch)))
      else none
      else none
    else
      delta_Ancestor_J3_S x0 x1 v2 v3 v4 false
theorem delta_Ancestor_L2_sound (x0 : List api_Span) (x1 : List api_Span) (s : Int × Int × Int) {Φ : Int × Int → Prop} {rec2 : (Int × Int × Int) → Prop} {o} (h : delta_Ancestor_L2_S x0 x1 s = some o) (hK : (orK rec2 Φ) o) : delta_Ancestor_L2 x0 x1 Φ s rec2 := by
  obtain ⟨v2, v3, v4⟩ := s
  unfold delta_Ancestor_L2_S at h
  unfold delta_Ancestor_L2
  exact ifS h (fun h => adS h fun h => adS h fun h => delta_Ancestor_J3_sound _ _ _ _ _ _ h hK) fun h => delta_Ancestor_J3_sound _ _ _ _ _ _ h hK
def delta_Ancestor_J1_S (x0 : List api_Span) (x1 : List api_Span) : (Bool) → Option (Int × Int)
  | v1 =>
    if v1 = true then
      some ((0, 0))
    else
      loopS (delta_Ancestor_L2_S x0 x1) 100000 (0, 0, 0)
theorem delta_Ancestor_J1_sound (x0 : List api_Span) (x1 : List api_Span) (s : Bool) {Φ : Int × Int → Prop} {o} (h : delta_Ancestor_J1_S x0 x1 s = some o) (hK : Φ o) : delta_Ancestor_J1 x0 x1 Φ s := by
  unfold delta_Ancestor_J1_S at h
  unfold delta_Ancestor_J1
  exact ifS h (fun h => have t := lfS h hK; t) fun h => LoopW.of_S (fun s q rec hs hq => delta_Ancestor_L2_sound _ _ s hs hq) _ _ h hK
def delta_Ancestor_S (x0 : List api_Span) (x1 : List api_Span) : Option (Int × Int) :=
  Option.bind (delta_correct_S x0) fun v6 =>
  if ¬ (v6 = true) then
    delta_Ancestor_J1_S x0 x1 true
  else
    Option.bind (delta_correct_S x1) fun v7 =>
    delta_Ancestor_J1_S x0 x1 (decide (¬ (v7 = true)))
theorem delta_Ancestor_sound (x0 : List api_Span) (x1 : List api_Span) {Φ : Int × Int → Prop} {o} (h : delta_Ancestor_S x0 x1 = some o) (hK : Φ o) : delta_Ancestor_W x0 x1 Φ := by
  unfold delta_Ancestor_S at h
  unfold delta_Ancestor_W
  exact blS h fun _ hv h => delta_correct_sound _ hv (ifS h (fun h => delta_Ancestor_J1_sound _ _ _ h hK) fun h => blS h fun _ hv h => delta_correct_sound _ hv (delta_Ancestor_J1_sound _ _ _ h hK))
def slices_Clone_int_int_S (x0 : List Int) : Option (List Int) :=
  bothS (decide (x0 = [])) (
    some (([] : List Int))) (
    if lenOk (([] : List Int) ++ x0).length 8 then
    some ((([] : List Int) ++ x0))
    else none)
theorem slices_Clone_int_int_sound (x0 : List Int) {Φ : List Int → Prop} {o} (h : slices_Clone_int_int_S x0 = some o) (hK : Φ o) : slices_Clone_int_int_W x0 Φ := by
  unfold slices_Clone_int_int_S at h
  unfold slices_Clone_int_int_W
  exact nl2S h (fun h => have t := lfS h hK; t) fun h => adS h fun h => have t := lfS h hK; t
def slices_Clone_api_Sector_api_Sector_S (x0 : List Sec) : Option (List Sec) :=
  bothS (decide (x0 = [])) (
    some (([] : List Sec))) (
    if lenOk (([] : List Sec) ++ x0).length 8 then
    some ((([] : List Sec) ++ x0))
    else none)
theorem slices_Clone_api_Sector_api_Sector_sound (x0 : List Sec) {Φ : List Sec → Prop} {o} (h : slices_Clone_api_Sector_api_Sector_S x0 = some o) (hK : Φ o) : slices_Clone_api_Sector_api_Sector_W x0 Φ := by
  unfold slices_Clone_api_Sector_api_Sector_S at h
  unfold slices_Clone_api_Sector_api_Sector_W
  exact nl2S h (fun h => have t := lfS h hK; t) fun h => adS h fun h => have t := lfS h hK; t
def image_New_1_S (x0 : Int) : Option (List Sec) :=
  if 0 ≤ x0 then
  if lenOk x0.toNat 8 then
  some ((List.replicate x0.toNat sec0))
  else none
  else none
theorem image_New_1_sound (x0 : Int) {Φ : List Sec → Prop} {o} (h : image_New_1_S x0 = some o) (hK : Φ o) : image_New_1_W x0 Φ := by
  unfold image_New_1_S at h
  unfold image_New_1_W
  exact adS h fun h => adS h fun h => have t := lfS h hK; t
def image_New_L1_S (x0 : List Int) : (Int × List (List Sec)) → Option ((Int × List (List Sec)) ⊕ (List (List Sec) × Int))
  | (v2, v3) =>
    if v2 < (x0.length : Int) then
      if inX v2 x0.length then
      Option.bind (image_New_1_S (ix x0 v2)) fun v4 =>
      if lenOk (v3 ++ ([v4] : List (List Sec))).length 24 then
      if inI (v2 + 1) then
      some (.inl ((v2 + 1), (v3 ++ ([v4] : List (List Sec)))))
      else none
      else none
      else none
    else
      some (.inr (v3, 0))
theorem image_New_L1_sound (x0 : List Int) (s : Int × List (List Sec)) {Φ : List (List Sec) × Int → Prop} {rec1 : (Int × List (List Sec)) → Prop} {o} (h : image_New_L1_S x0 s = some o) (hK : (orK rec1 Φ) o) : image_New_L1 x0 Φ s rec1 := by
  obtain ⟨v2, v3⟩ := s
  unfold image_New_L1_S at h
  unfold image_New_L1
  exact ifS h (fun h => adS h fun h => blS h fun _ hv h => image_New_1_sound _ hv (adS h fun h => adS h fun h => have t := lfS h hK; t)) fun h => have t := lfS h hK; t
def image_New_S (x0 : List Int) : Option (List (List Sec) × Int) :=
  Option.bind (image_checkSizes_S x0) fun v1 =>
  if v1 ≠ 0 then
    some ((([] : List (List Sec)), v1))
  else
    if 0 ≤ (x0.length : Int) then
    if lenOk (x0.length : Int).toNat 24 then
    loopS (image_New_L1_S x0) 100000 (0, ([] : List (List Sec)))
    else none
    else none
theorem image_New_sound (x0 : List Int) {Φ : List (List Sec) × Int → Prop} {o} (h : image_New_S x0 = some o) (hK : Φ o) : image_New_W x0 Φ := by
  unfold image_New_S at h
  unfold image_New_W
  exact blS h fun _ hv h => image_checkSizes_sound _ hv (ifS h (fun h => have t := lfS h hK; t) fun h => adS h fun h => adS h fun h => LoopW.of_S (fun s q rec hs hq => image_New_L1_sound _ s hs hq) _ _ h hK)
def cycle_in_S (x0 : Int) (x1 : Int) (x2 : Int) : Option (Bool) :=
  if x1 ≤ x0 then
    some (decide (x0 ≤ x2))
  else
    some (false)
theorem cycle_in_sound (x0 : Int) (x1 : Int) (x2 : Int) {Φ : Bool → Prop} {o} (h : cycle_in_S x0 x1 x2 = some o) (hK : Φ o) : cycle_in_W x0 x1 x2 Φ := by
  unfold cycle_in_S at h
  unfold cycle_in_W
  exact ifS h (fun h => have t := lfS h hK; t) fun h => have t := lfS h hK; t
def cycle_positions_1_S (x0 : Int) : Option (Bool) :=
  Option.bind (cycle_in_S x0 0 1073741824) fun v1 =>
  some (decide (¬ (v1 = true)))
theorem cycle_positions_1_sound (x0 : Int) {Φ : Bool → Prop} {o} (h : cycle_positions_1_S x0 = some o) (hK : Φ o) : cycle_positions_1_W x0 Φ := by
  unfold cycle_positions_1_S at h
  unfold cycle_positions_1_W
  exact blS h fun _ hv h => cycle_in_sound _ _ _ hv (have t := lfS h hK; t)
def cycle_positions_L1_S (x0 : List Int) : (Int) → Option ((Int) ⊕ (Int))
  | v2 =>
    if v2 < (x0.length : Int) then
      if inX v2 x0.length then
      Option.bind (cycle_positions_1_S (ix x0 v2)) fun v3 =>
      if v3 = true then
        if 0 ≤ v2 then
          some (.inr 2)
        else
          some (.inr 0)
      else
        if inI (v2 + 1) then
        some (.inl (v2 + 1))
        else none
      else none
    else
      if 0 ≤ (-1) then
        some (.inr 2)
      else
        some (.inr 0)
theorem cycle_positions_L1_sound (x0 : List Int) (s : Int) {Φ : Int → Prop} {rec1 : (Int) → Prop} {o} (h : cycle_positions_L1_S x0 s = some o) (hK : (orK rec1 Φ) o) : cycle_positions_L1 x0 Φ s rec1 := by
  unfold cycle_positions_L1_S at h
  unfold cycle_positions_L1
  exact ifS h (fun h => adS h fun h => blS h fun _ hv h => cycle_positions_1_sound _ hv (ifS h (fun h => ifS h (fun h => have t := lfS h hK; t) fun h => have t := lfS h hK; t) fun h => adS h fun h => have t := lfS h hK; t)) fun h => ifS h (fun h => have t := lfS h hK; t) fun h => have t := lfS h hK; t
def cycle_positions_S (x0 : List Int) (x1 : Int) : Option (Int) :=
  Option.bind (cycle_in_S (x0.length : Int) x1 8) fun v1 =>
  if ¬ (v1 = true) then
    some (6)
  else
    loopS (cycle_positions_L1_S x0) 100000 0
theorem cycle_positions_sound (x0 : List Int) (x1 : Int) {Φ : Int → Prop} {o} (h : cycle_positions_S x0 x1 = some o) (hK : Φ o) : cycle_positions_W x0 x1 Φ := by
  unfold cycle_positions_S at h
  unfold cycle_positions_W
  exact blS h fun _ hv h => cycle_in_sound _ _ _ hv (ifS h (fun h => have t := lfS h hK; t) fun h => LoopW.of_S (fun s q rec hs hq => cycle_positions_L1_sound _ s hs hq) _ _ h hK)
def image_fits_J1_S (x0 : List (List Sec)) (x1 : api_Write) : (Bool) → Option (Int)
  | v1 =>
    if v1 = true then
      some (7)
    else
      if (x1.Data.length : Int) = 0 then
        some (1)
      else
        if x1.Start < 0 then
          some (2)
        else
          if inX x1.Volume x0.length then
          if inI (((ix x0 x1.Volume).length : Int) - (x1.Data.length : Int)) then
          if (((ix x0 x1.Volume).length : Int) - (x1.Data.length : Int)) < x1.Start then
            some (2)
          else
            some (0)
          else none
          else none
theorem image_fits_J1_sound (x0 : List (List Sec)) (x1 : api_Write) (s : Bool) {Φ : Int → Prop} {o} (h : image_fits_J1_S x0 x1 s = some o) (hK : Φ o) : image_fits_J1 x0 x1 Φ s := by
  unfold image_fits_J1_S at h
  unfold image_fits_J1
  exact ifS h (fun h => have t := lfS h hK; t) fun h => ifS h (fun h => have t := lfS h hK; t) fun h => ifS h (fun h => have t := lfS h hK; t) fun h => adS h fun h => adS h fun h => ifS h (fun h => have t := lfS h hK; t) fun h => have t := lfS h hK; t
def image_fits_S (x0 : List (List Sec)) (x1 : api_Write) : Option (Int) :=
  if x1.Volume < 0 then
    image_fits_J1_S x0 x1 true
  else
    image_fits_J1_S x0 x1 (decide ((x0.length : Int) ≤ x1.Volume))
theorem image_fits_sound (x0 : List (List Sec)) (x1 : api_Write) {Φ : Int → Prop} {o} (h : image_fits_S x0 x1 = some o) (hK : Φ o) : image_fits_W x0 x1 Φ := by
  unfold image_fits_S at h
  unfold image_fits_W
  exact ifS h (fun h => image_fits_J1_sound _ _ _ h hK) fun h => image_fits_J1_sound _ _ _ h hK
def image_Fits_S (x0 : List (List Sec)) (x1 : api_Write) : Option (Int) :=
  Option.bind (image_Check_S x0) fun v1 =>
  if v1 ≠ 0 then
    some (v1)
  else
    Option.bind (image_fits_S x0 x1) fun v2 =>
    some (v2)
theorem image_Fits_sound (x0 : List (List Sec)) (x1 : api_Write) {Φ : Int → Prop} {o} (h : image_Fits_S x0 x1 = some o) (hK : Φ o) : image_Fits_W x0 x1 Φ := by
  unfold image_Fits_S at h
  unfold image_Fits_W
  exact blS h fun _ hv h => image_Check_sound _ hv (ifS h (fun h => have t := lfS h hK; t) fun h => blS h fun _ hv h => image_fits_sound _ _ hv (have t := lfS h hK; t))
def coalesce_Check_L1_S (x0 : List api_Write) (v1 : List (List Sec) × Int) : (Int) → Option ((Int) ⊕ (Int))
  | v2 =>
    if v2 < (x0.length : Int) then
      if inX v2 x0.length then
      Option.bind (image_Fits_S v1.1 (ix x0 v2)) fun v3 =>
      if v3 ≠ 0 then
        some (.inr v3)
      else
        if v2 = 0 then
          if inI (v2 + 1) then
          some (.inl (v2 + 1))
          else none
        else
          if inI (v2 - 1) then
          if inX (v2 - 1) x0.length then
          if ((ix x0 v2).Volume) < ((ix x0 (v2 - 1)).Volume) then
            some (.inr 3)
          else
            if ((ix x0 v2).Volume) = ((ix x0 (v2 - 1)).Volume) then
              if inI (((ix x0 (v2 - 1)).Start) + (((ix x0 (v2 - 1)).Data).length : Int)) then
              if ((ix x0 v2).Start) ≤ (((ix x0 (v2 - 1)).Start) + (((ix x0 (v2 - 1)).Data).length : Int)) then
                some (.inr 3)
              else
                if inI (v2 + 1) then
                some (.inl (v2 + 1))
                else none
              else none
            else
              if inI (v2 + 1) then
              some (.inl (v2 + 1))
              else none
          else none
          else none
      else none
    else
      some (.inr 0)
theorem coalesce_Check_L1_sound (x0 : List api_Write) (v1 : List (List Sec) × Int) (s : Int) {Φ : Int → Prop} {rec1 : (Int) → Prop} {o} (h : coalesce_Check_L1_S x0 v1 s = some o) (hK : (orK rec1 Φ) o) : coalesce_Check_L1 x0 v1 Φ s rec1 := by
  unfold coalesce_Check_L1_S at h
  unfold coalesce_Check_L1
  exact ifS h (fun h => adS h fun h => blS h fun _ hv h => image_Fits_sound _ _ hv (ifS h (fun h => have t := lfS h hK; t) fun h => ifS h (fun h => adS h fun h => have t := lfS h hK; t) fun h => adS h fun h => adS h fun h => ifS h (fun h => have t := lfS h hK; t) fun h => ifS h (fun h => adS h fun h => ifS h (fun h => have t := lfS h hK; t) fun h => adS h fun h => have t := lfS h hK; t) fun h => adS h fun h => have t := lfS h hK; t)) fun h => have t := lfS h hK; t
def coalesce_Check_S (x0 : List api_Write) (x1 : List Int) : Option (Int) :=
  Option.bind (image_New_S x1) fun v1 =>
  if v1.2 ≠ 0 then
    some (v1.2)
  else
    loopS (coalesce_Check_L1_S x0 v1) 100000 0
theorem coalesce_Check_sound (x0 : List api_Write) (x1 : List Int) {Φ : Int → Prop} {o} (h : coalesce_Check_S x0 x1 = some o) (hK : Φ o) : coalesce_Check_W x0 x1 Φ := by
  unfold coalesce_Check_S at h
  unfold coalesce_Check_W
  exact blS h fun _ hv h => image_New_sound _ hv (ifS h (fun h => have t := lfS h hK; t) fun h => LoopW.of_S (fun s q rec hs hq => coalesce_Check_L1_sound _ _ s hs hq) _ _ h hK)
def cycle_Check_J1_S (x0 : api_Cycle) (x1 : List Int) : (Bool) → Option (Int)
  | v2 =>
    if v2 = true then
      some (2)
    else
      Option.bind (cycle_in_S x0.Time 0 1073741824) fun v3 =>
      if ¬ (v3 = true) then
        some (24)
      else
        Option.bind (cycle_positions_S x0.Positions 0) fun v4 =>
        if v4 ≠ 0 then
          some (v4)
        else
          Option.bind (coalesce_Check_S x0.Writes x1) fun v5 =>
          some (v5)
theorem cycle_Check_J1_sound (x0 : api_Cycle) (x1 : List Int) (s : Bool) {Φ : Int → Prop} {o} (h : cycle_Check_J1_S x0 x1 s = some o) (hK : Φ o) : cycle_Check_J1 x0 x1 Φ s := by
  unfold cycle_Check_J1_S at h
  unfold cycle_Check_J1
  exact ifS h (fun h => have t := lfS h hK; t) fun h => blS h fun _ hv h => cycle_in_sound _ _ _ hv (ifS h (fun h => have t := lfS h hK; t) fun h => blS h fun _ hv h => cycle_positions_sound _ _ hv (ifS h (fun h => have t := lfS h hK; t) fun h => blS h fun _ hv h => coalesce_Check_sound _ _ hv (have t := lfS h hK; t)))
def cycle_Check_S (x0 : api_Cycle) (x1 : List Int) : Option (Int) :=
  Option.bind (image_New_S x1) fun v1 =>
  if v1.2 ≠ 0 then
    some (v1.2)
  else
    if x0.Base < 0 then
      cycle_Check_J1_S x0 x1 true
    else
      if x0.Number ≤ x0.Base then
        cycle_Check_J1_S x0 x1 true
      else
        cycle_Check_J1_S x0 x1 (decide (1073741824 < x0.Number))
theorem cycle_Check_sound (x0 : api_Cycle) (x1 : List Int) {Φ : Int → Prop} {o} (h : cycle_Check_S x0 x1 = some o) (hK : Φ o) : cycle_Check_W x0 x1 Φ := by
  unfold cycle_Check_S at h
  unfold cycle_Check_W
  exact blS h fun _ hv h => image_New_sound _ hv (ifS h (fun h => have t := lfS h hK; t) fun h => ifS h (fun h => cycle_Check_J1_sound _ _ _ h hK) fun h => ifS h (fun h => cycle_Check_J1_sound _ _ _ h hK) fun h => cycle_Check_J1_sound _ _ _ h hK)
def reverse_Cycle_L3_S (x1 : api_Point) (v1 : List (List api_Extent) × Int) (v5 : Int) (v6 : List Int) : (Int × List api_Write) → Option ((Int × List api_Write) ⊕ ((Int × List Int × List api_Write) ⊕ (api_Cycle × Int)))
  | (v8, v9) =>
    if v8 < ((ix v1.1 v5).length : Int) then
      if inX v8 (ix v1.1 v5).length then
      if inI (((ix (ix v1.1 v5) v8).Start) + ((ix (ix v1.1 v5) v8).Count)) then
      if inS ((ix (ix v1.1 v5) v8).Start) (((ix (ix v1.1 v5) v8).Start) + ((ix (ix v1.1 v5) v8).Count)) (ix x1.Image v5).length then
      Option.bind (slices_Clone_api_Sector_api_Sector_S (sub (ix x1.Image v5) ((ix (ix v1.1 v5) v8).Start) (((ix (ix v1.1 v5) v8).Start) + ((ix (ix v1.1 v5) v8).Count)))) fun z =>
      let v10 : List Sec × Unit := (z, ())
      if lenOk (v9 ++ ([(api_Write.mk v5 ((ix (ix v1.1 v5) v8).Start) v10.1)] : List api_Write)).length 40 then
      if inI (v8 + 1) then
      some (.inl ((v8 + 1), (v9 ++ ([(api_Write.mk v5 ((ix (ix v1.1 v5) v8).Start) v10.1)] : List api_Write))))
      else none
      else none
      else none
      else none
      else none
    else
      if inI (v5 + 1) then
      some (.inr (.inl ((v5 + 1), (v6 ++ ([((ix x1.Image v5).length : Int)] : List Int)), v9)))
      else none
theorem reverse_Cycle_L3_sound (x1 : api_Point) (v1 : List (List api_Extent) × Int) (v5 : Int) (v6 : List Int) (s : Int × List api_Write) {Φ : api_Cycle × Int → Prop} {rec2 : (Int × List Int × List api_Write) → Prop} {rec3 : (Int × List api_Write) → Prop} {o} (h : reverse_Cycle_L3_S x1 v1 v5 v6 s = some o) (hK : (orK rec3 (orK rec2 Φ)) o) : reverse_Cycle_L3 x1 v1 v5 v6 rec2 Φ s rec3 := by
  obtain ⟨v8, v9⟩ := s
  unfold reverse_Cycle_L3_S at h
  unfold reverse_Cycle_L3
  exact ifS h (fun h => adS h fun h => adS h fun h => adS h fun h => blS h fun _ hv h => ⟨_, slices_Clone_api_Sector_api_Sector_sound _ hv rfl, adS h fun h => adS h fun h => have t := lfS h hK; t⟩) fun h => adS h fun h => have t := lfS h hK; t
def reverse_Cycle_L2_S (x1 : api_Point) (x2 : Int) (x3 : Int) (v1 : List (List api_Extent) × Int) (v2 : Int × Int) (v4 : List Int) : (Int × List Int × List api_Write) → Option ((Int × List Int × List api_Write) ⊕ (api_Cycle × Int))
  | (v5, v6, v7) =>
    if v5 < (x1.Image.length : Int) then
      if inX v5 x1.Image.length then
      if lenOk (v6 ++ ([((ix x1.Image v5).length : Int)] : List Int)).length 8 then
      if inX v5 v1.1.length then
      loopS (reverse_Cycle_L3_S x1 v1 v5 v6) 100000 (0, v7)
      else none
      else none
      else none
    else
      Option.bind (cycle_Check_S (api_Cycle.mk v2.1 x2 x3 v4 v7) v6) fun v11 =>
      if v11 ≠ 0 then
        some (.inr ((api_Cycle.mk 0 0 0 ([] : List Int) ([] : List api_Write)), v11))
      else
        some (.inr ((api_Cycle.mk v2.1 x2 x3 v4 v7), 0))
theorem reverse_Cycle_L2_sound (x1 : api_Point) (x2 : Int) (x3 : Int) (v1 : List (List api_Extent) × Int) (v2 : Int × Int) (v4 : List Int) (s : Int × List Int × List api_Write) {Φ : api_Cycle × Int → Prop} {rec2 : (Int × List Int × List api_Write) → Prop} {o} (h : reverse_Cycle_L2_S x1 x2 x3 v1 v2 v4 s = some o) (hK : (orK rec2 Φ) o) : reverse_Cycle_L2 x1 x2 x3 v1 v2 v4 Φ s rec2 := by
  obtain ⟨v5, v6, v7⟩ := s
  unfold reverse_Cycle_L2_S at h
  unfold reverse_Cycle_L2
  exact ifS h (fun h => adS h fun h => adS h fun h => adS h fun h => LoopW.of_S (fun s q rec hs hq => reverse_Cycle_L3_sound _ _ _ _ s hs hq) _ _ h hK) fun h => blS h fun _ hv h => cycle_Check_sound _ _ hv (ifS h (fun h => have t := lfS h hK; t) fun h => have t := lfS h hK; t)
def reverse_Cycle_J1_S (x1 : api_Point) (x2 : Int) (x3 : Int) (x4 : List Int) (v1 : List (List api_Extent) × Int) (v2 : Int × Int) : (Bool) → Option (api_Cycle × Int)
  | v3 =>
    if v3 = true then
      some (((api_Cycle.mk 0 0 0 ([] : List Int) ([] : List api_Write)), 2))
    else
      Option.bind (slices_Clone_int_int_S x4) fun v4 =>
      loopS (reverse_Cycle_L2_S x1 x2 x3 v1 v2 v4) 100000 (0, ([] : List Int), ([] : List api_Write))
theorem reverse_Cycle_J1_sound (x1 : api_Point) (x2 : Int) (x3 : Int) (x4 : List Int) (v1 : List (List api_Extent) × Int) (v2 : Int × Int) (s : Bool) {Φ : api_Cycle × Int → Prop} {o} (h : reverse_Cycle_J1_S x1 x2 x3 x4 v1 v2 s = some o) (hK : Φ o) : reverse_Cycle_J1 x1 x2 x3 x4 v1 v2 Φ s := by
  unfold reverse_Cycle_J1_S at h
  unfold reverse_Cycle_J1
  exact ifS h (fun h => have t := lfS h hK; t) fun h => blS h fun _ hv h => slices_Clone_int_int_sound _ hv (LoopW.of_S (fun s q rec hs hq => reverse_Cycle_L2_sound _ _ _ _ _ _ s hs hq) _ _ h hK)
def reverse_Cycle_S (x0 : api_Point) (x1 : api_Point) (x2 : Int) (x3 : Int) (x4 : List Int) : Option (api_Cycle × Int) :=
  Option.bind (delta_Between_S x0 x1) fun v1 =>
  if v1.2 ≠ 0 then
    some (((api_Cycle.mk 0 0 0 ([] : List Int) ([] : List api_Write)), v1.2))
  else
    Option.bind (delta_Ancestor_S x0.Lineage x1.Lineage) fun v2 =>
    if x2 ≤ v2.1 then
      reverse_Cycle_J1_S x1 x2 x3 x4 v1 v2 true
    else
      Option.bind (reverse_last_S x1.Lineage) fun v12 =>
      reverse_Cycle_J1_S x1 x2 x3 x4 v1 v2 (decide (x2 < v12))
theorem reverse_Cycle_sound (x0 : api_Point) (x1 : api_Point) (x2 : Int) (x3 : Int) (x4 : List Int) {Φ : api_Cycle × Int → Prop} {o} (h : reverse_Cycle_S x0 x1 x2 x3 x4 = some o) (hK : Φ o) : reverse_Cycle_W x0 x1 x2 x3 x4 Φ := by
  unfold reverse_Cycle_S at h
  unfold reverse_Cycle_W
  exact blS h fun _ hv h => delta_Between_sound _ _ hv (ifS h (fun h => have t := lfS h hK; t) fun h => blS h fun _ hv h => delta_Ancestor_sound _ _ hv (ifS h (fun h => reverse_Cycle_J1_sound _ _ _ _ _ _ _ h hK) fun h => blS h fun _ hv h => reverse_last_sound _ hv (reverse_Cycle_J1_sound _ _ _ _ _ _ _ h hK)))
def ref02_SameExtents_L1_S (x0 : List api_Extent) (x1 : List api_Extent) : (Int) → Option ((Int) ⊕ (Bool))
  | v1 =>
    if v1 < (x0.length : Int) then
      if inX v1 x0.length then
      if inX v1 x1.length then
      if (ix x0 v1) ≠ (ix x1 v1) then
        some (.inr false)
      else
        if inI (v1 + 1) then
        some (.inl (v1 + 1))
        else none
      else none
      else none
    else
      some (.inr true)
theorem ref02_SameExtents_L1_sound (x0 : List api_Extent) (x1 : List api_Extent) (s : Int) {Φ : Bool → Prop} {rec1 : (Int) → Prop} {o} (h : ref02_SameExtents_L1_S x0 x1 s = some o) (hK : (orK rec1 Φ) o) : ref02_SameExtents_L1 x0 x1 Φ s rec1 := by
  unfold ref02_SameExtents_L1_S at h
  unfold ref02_SameExtents_L1
  exact ifS h (fun h => adS h fun h => adS h fun h => ifS h (fun h => have t := lfS h hK; t) fun h => adS h fun h => have t := lfS h hK; t) fun h => have t := lfS h hK; t
def ref02_SameExtents_S (x0 : List api_Extent) (x1 : List api_Extent) : Option (Bool) :=
  if (x0.length : Int) ≠ (x1.length : Int) then
    some (false)
  else
    loopS (ref02_SameExtents_L1_S x0 x1) 100000 0
theorem ref02_SameExtents_sound (x0 : List api_Extent) (x1 : List api_Extent) {Φ : Bool → Prop} {o} (h : ref02_SameExtents_S x0 x1 = some o) (hK : Φ o) : ref02_SameExtents_W x0 x1 Φ := by
  unfold ref02_SameExtents_S at h
  unfold ref02_SameExtents_W
  exact ifS h (fun h => have t := lfS h hK; t) fun h => LoopW.of_S (fun s q rec hs hq => ref02_SameExtents_L1_sound _ _ s hs hq) _ _ h hK
def ref47_SameExtents_L1_S (x0 : List (List api_Extent)) (x1 : List (List api_Extent)) : (Int) → Option ((Int) ⊕ (Bool))
  | v1 =>
    if v1 < (x0.length : Int) then
      if inX v1 x0.length then
      if inX v1 x1.length then
      Option.bind (ref02_SameExtents_S (ix x0 v1) (ix x1 v1)) fun z =>
      let v2 : Bool × Unit := (z, ())
      if ¬ (v2.1 = true) then
        some (.inr false)
      else
        if inI (v1 + 1) then
        some (.inl (v1 + 1))
        else none
      else none
      else none
    else
      some (.inr true)
theorem ref47_SameExtents_L1_sound (x0 : List (List api_Extent)) (x1 : List (List api_Extent)) (s : Int) {Φ : Bool → Prop} {rec1 : (Int) → Prop} {o} (h : ref47_SameExtents_L1_S x0 x1 s = some o) (hK : (orK rec1 Φ) o) : ref47_SameExtents_L1 x0 x1 Φ s rec1 := by
  unfold ref47_SameExtents_L1_S at h
  unfold ref47_SameExtents_L1
  exact ifS h (fun h => adS h fun h => adS h fun h => blS h fun _ hv h => ⟨_, ref02_SameExtents_sound _ _ hv rfl, ifS h (fun h => have t := lfS h hK; t) fun h => adS h fun h => have t := lfS h hK; t⟩) fun h => have t := lfS h hK; t
def ref47_SameExtents_S (x0 : List (List api_Extent)) (x1 : List (List api_Extent)) : Option (Bool) :=
  if (x0.length : Int) ≠ (x1.length : Int) then
    some (false)
  else
    loopS (ref47_SameExtents_L1_S x0 x1) 100000 0
theorem ref47_SameExtents_sound (x0 : List (List api_Extent)) (x1 : List (List api_Extent)) {Φ : Bool → Prop} {o} (h : ref47_SameExtents_S x0 x1 = some o) (hK : Φ o) : ref47_SameExtents_W x0 x1 Φ := by
  unfold ref47_SameExtents_S at h
  unfold ref47_SameExtents_W
  exact ifS h (fun h => have t := lfS h hK; t) fun h => LoopW.of_S (fun s q rec hs hq => ref47_SameExtents_L1_sound _ _ s hs hq) _ _ h hK
def law47_awake_S : Option (Bool) :=
  Option.bind (law47_one_S 0 (8#8)) fun v1 =>
  Option.bind (law47_point_S 0 ([([(Sec.mk (1#8) (0#8) (0#8) (0#8) (0#8) (0#8) (0#8) (0#8)), (Sec.mk (2#8) (0#8) (0#8) (0#8) (0#8) (0#8) (0#8) (0#8)), (Sec.mk (3#8) (0#8) (0#8) (0#8) (0#8) (0#8) (0#8) (0#8))] : List Sec)] : List (List Sec)) ([(api_Span.mk 1 1 4)] : List api_Span) ([v1] : List api_Write)) fun v2 =>
  Option.bind (law47_one_S 2 (9#8)) fun v3 =>
  Option.bind (law47_point_S 1 ([([(Sec.mk (1#8) (0#8) (0#8) (0#8) (0#8) (0#8) (0#8) (0#8)), (Sec.mk (2#8) (0#8) (0#8) (0#8) (0#8) (0#8) (0#8) (0#8)), (Sec.mk (3#8) (0#8) (0#8) (0#8) (0#8) (0#8) (0#8) (0#8))] : List Sec)] : List (List Sec)) ([(api_Span.mk 1 1 4), (api_Span.mk 2 5 6)] : List api_Span) ([v3] : List api_Write)) fun v4 =>
  Option.bind (reverse_Undo_S v2 4) fun v5 =>
  Option.bind (reverse_Extents_S v2 v4) fun v6 =>
  Option.bind (reverse_Cycle_S v2 v4 6 7 ([] : List Int)) fun v7 =>
  if v5.2 ≠ 0 then
    some (false)
  else
    if v6.2 ≠ 0 then
      some (false)
    else
      if v7.2 ≠ 0 then
        some (false)
      else
        if v7.1.Base ≠ 4 then
          some (false)
        else
          if (v7.1.Writes.length : Int) ≠ 2 then
            some (false)
          else
            Option.bind (ref47_SameExtents_S v5.1 ([([(api_Extent.mk 0 1)] : List api_Extent)] : List (List api_Extent))) fun v8 =>
            if v8 = true then
              Option.bind (ref47_SameExtents_S v6.1 ([([(api_Extent.mk 0 1), (api_Extent.mk 2 1)] : List api_Extent)] : List (List api_Extent))) fun v9 =>
              if v9 = true then
                if inX 0 v7.1.Writes.length then
                if inX 0 ((ix v7.1.Writes 0).Data).length then
                if (ix ((ix v7.1.Writes 0).Data) 0) = (Sec.mk (1#8) (0#8) (0#8) (0#8) (0#8) (0#8) (0#8) (0#8)) then
                  if inX 1 v7.1.Writes.length then
                  if inX 0 ((ix v7.1.Writes 1).Data).length then
                  some (decide ((ix ((ix v7.1.Writes 1).Data) 0) = (Sec.mk (9#8) (0#8) (0#8) (0#8) (0#8) (0#8) (0#8) (0#8))))
                  else none
                  else none
                else
                  some (false)
                else none
                else none
              else
                some (false)
            else
              some (false)
theorem law47_awake_sound {Φ : Bool → Prop} {o} (h : law47_awake_S = some o) (hK : Φ o) : law47_awake_W Φ := by
  unfold law47_awake_S at h
  unfold law47_awake_W
  exact blS h fun _ hv h => law47_one_sound _ _ hv (blS h fun _ hv h => law47_point_sound _ _ _ _ hv (blS h fun _ hv h => law47_one_sound _ _ hv (blS h fun _ hv h => law47_point_sound _ _ _ _ hv (blS h fun _ hv h => reverse_Undo_sound _ _ hv (blS h fun _ hv h => reverse_Extents_sound _ _ hv (blS h fun _ hv h => reverse_Cycle_sound _ _ _ _ _ hv (ifS h (fun h => have t := lfS h hK; t) fun h => ifS h (fun h => have t := lfS h hK; t) fun h => ifS h (fun h => have t := lfS h hK; t) fun h => ifS h (fun h => have t := lfS h hK; t) fun h => ifS h (fun h => have t := lfS h hK; t) fun h => blS h fun _ hv h => ref47_SameExtents_sound _ _ hv (ifS h (fun h => blS h fun _ hv h => ref47_SameExtents_sound _ _ hv (ifS h (fun h => adS h fun h => adS h fun h => ifS h (fun h => adS h fun h => adS h fun h => have t := lfS h hK; t) fun h => have t := lfS h hK; t) fun h => have t := lfS h hK; t)) fun h => have t := lfS h hK; t))))))))
theorem law47_awake_ok {Φ : Bool → Prop} (h : Φ true) : law47_awake_W Φ := law47_awake_sound (o := true) (by kernel_rfl) h
def fewH (h : api_History) : Bool := decide (h.Sizes.length ≤ 9 ∧ h.Writes.length ≤ 40 ∧ h.Events.length ≤ 90) && (h.Sizes.all (fun n => decide (n ≤ 24)) && h.Writes.all fun w => decide (w.Data.length ≤ 30))
theorem ref15_Few_ok {h : api_History} {Φ : Bool → Prop} (hΦ : Φ (fewH h)) : ref15_Few_W h Φ := by
  unfold fewH at hΦ
  refine ⟨fun q => by rw [decide_eq_false (by omega)] at hΦ; exact hΦ, fun q => ⟨fun r => by rw [decide_eq_false (by omega)] at hΦ; exact hΦ, fun r => ⟨fun s => by rw [decide_eq_false (by omega)] at hΦ; exact hΦ, fun s => ?_⟩⟩⟩
  rw [decide_eq_true (by omega), Bool.true_and] at hΦ
  refine LoopW.findI h.Sizes.length (fun k => !decide (ix h.Sizes (k : Int) ≤ 24)) (fun k rec hk _ hr => ⟨fun _ => ⟨iX (by omega) (by omega), fun t => ?_, fun t => ⟨iI (by omega) (by omega), hr (by simp; omega)⟩⟩, fun _ => by omega⟩) fun rec hn => ⟨fun _ => by omega, fun _ => ?_⟩
  · rw [show h.Sizes.all (fun n => decide (n ≤ 24)) = false from by
      rw [List.all_eq_not_any_not, any_true_ix hk (by simp; omega)]; rfl] at hΦ
    exact hΦ
  · rw [show h.Sizes.all (fun n => decide (n ≤ 24)) = true from by
      rw [List.all_eq_not_any_not, any_false_ix fun k hk => by simpa using hn k hk]; rfl, Bool.true_and] at hΦ
    exact LoopW.allE h.Writes (fun w => decide (w.Data.length ≤ 30)) hΦ (fun k rec hk h1 h2 => ⟨fun _ => ⟨iX (by omega) (by omega), fun t => h1 (decide_eq_false (by omega)), fun t => ⟨iI (by omega) (by omega), h2 (decide_eq_true (by omega))⟩⟩, fun _ => by omega⟩) fun rec h0 => ⟨fun _ => by omega, fun _ => h0⟩
theorem fewH_small {h : api_History} (hf : fewH h = true) : SmallH h ∧ h.Writes.length ≤ 40 := by
  unfold fewH at hf
  rw [Bool.and_eq_true, Bool.and_eq_true, decide_eq_true_iff] at hf
  refine ⟨⟨by omega, by omega, fun k hk => ?_⟩, by omega⟩
  have := List.all_eq_true.1 hf.2.2 (ix h.Writes (k : Int)) (mem_ix (by omega) (by omega))
  have := of_decide_eq_true this
  omega
theorem half_ok {a b : Nat} (ha : a ≤ 1000000) (hb : b ≤ 1000000) : (((BitVec.ofInt 64 ((a : Int) + (b : Int))) >>> ((1#64).toNat : Int).toNat).toInt) = (((a + b) / 2 : Nat) : Int) := by
  have e : BitVec.ofInt 64 ((a : Int) + (b : Int)) = BitVec.ofNat 64 (a + b) := by
    rw [show (a : Int) + (b : Int) = ((a + b : Nat) : Int) by omega, BitVec.ofInt_natCast]
  rw [e, show ((1#64).toNat : Int).toNat = 1 from rfl, BitVec.toInt_eq_toNat_cond, BitVec.toNat_ushiftRight, BitVec.toNat_ofNat, Nat.mod_eq_of_lt (by omega), Nat.shiftRight_eq_div_pow, if_pos (by omega)]
theorem cmp_Less_int_ok {a b : Int} {Φ : Bool → Prop} (hΦ : Φ (decide (a < b))) : cmp_Less_int_W a b Φ :=
  ⟨fun q => absurd rfl (of_decide_eq_true q), fun _ => hΦ⟩
theorem slices_BinarySearch_int_ok {l : List Int} {x : Int} {Φ : Int × Bool → Prop} (hl : l.length ≤ 1000000) (hs : ∀ i j : Nat, i < j → j < l.length → ix l (i : Int) < ix l (j : Int)) (hΦ : ∀ p, Φ (p, decide (x ∈ l))) : slices_BinarySearch_int_int_W l x Φ := by
  refine LoopW.of_inv (fun s => ∃ a b : Nat, s = ((a : Int), (b : Int)) ∧ a ≤ b ∧ b ≤ l.length ∧ (∀ m : Nat, m < a → ix l (m : Int) < x) ∧ ∀ m : Nat, b ≤ m → m < l.length → x ≤ ix l (m : Int)) (fun s => (s.2 - s.1).toNat) ?_ ⟨0, l.length, rfl, Nat.zero_le _, Nat.le_refl _, fun m hm => by omega, fun m h1 h2 => by omega⟩
  rintro _ rec ⟨a, b, rfl, hab, hb, h1, h2⟩ hrec
  refine ⟨fun q => ?_, fun q => ?_⟩
  · rw [half_ok (by omega) (by omega)]
    refine ⟨iI (by omega) (by omega), iX (by omega) (by omega), cmp_Less_int_ok ⟨fun r => ?_, fun r => ?_⟩⟩
    · have r := of_decide_eq_true r
      refine ⟨iI (by omega) (by omega), hrec _ ⟨(a + b) / 2 + 1, b, rfl, by omega, hb, fun m hm => ?_, h2⟩ (by show ((b : Int) - (((a + b) / 2 : Nat) + 1 : Int)).toNat < ((b : Int) - (a : Int)).toNat; omega)⟩
      rcases Nat.lt_or_ge m ((a + b) / 2) with t | t
      · have := hs m ((a + b) / 2) t (by omega); omega
      · obtain rfl : m = (a + b) / 2 := by omega
        exact r
    · have r := of_decide_eq_false (Bool.eq_false_iff.2 r)
      refine hrec _ ⟨a, (a + b) / 2, rfl, by omega, by omega, h1, fun m hm hml => ?_⟩ (by show ((((a + b) / 2 : Nat) : Int) - (a : Int)).toNat < ((b : Int) - (a : Int)).toNat; omega)
      rcases Nat.lt_or_ge ((a + b) / 2) m with t | t
      · have := hs ((a + b) / 2) m t hml; omega
      · obtain rfl : m = (a + b) / 2 := by omega
        omega
  · have hab : a = b := by omega
    subst hab
    refine ⟨fun r => ⟨iX (by omega) (by omega), fun t => ?_, fun t => ⟨iX (by omega) (by omega), ⟨fun u => absurd rfl (of_decide_eq_true u), fun _ => ?_⟩⟩⟩, fun r => ?_⟩
    · have := hΦ (a : Int)
      rw [decide_eq_true (by rw [← t]; exact mem_ix (by omega) (by omega))] at this; exact this
    · have := hΦ (a : Int)
      rw [decide_eq_false fun hx => ?_] at this
      · exact this
      · obtain ⟨m, hm, rfl⟩ := List.getElem_of_mem hx
        rw [← ix_get hm] at h1 h2 t
        rcases Nat.lt_trichotomy m a with c | c | c
        · have := h1 m c; omega
        · subst c; exact t rfl
        · have := hs a m c hm; have := h2 a (Nat.le_refl _) (by omega); omega
    · have := hΦ (a : Int)
      rw [decide_eq_false fun hx => ?_] at this
      · exact this
      · obtain ⟨m, hm, rfl⟩ := List.getElem_of_mem hx
        rw [← ix_get hm] at h1
        have := h1 m (by omega); omega
def restL (_ : Nat) (cut : List Int) (k : Nat) : List Int := ((List.range k).filter fun i => decide (((i : Nat) : Int) ∉ cut)).map fun i : Nat => (i : Int)
def disc (h : api_History) (cut : List Int) : List Int := if histE h ≠ 0 then [] else if isSetB cut (h.Writes.length : Int) = false then [] else restL h.Writes.length cut h.Writes.length
theorem restL_len (n : Nat) (cut : List Int) (k : Nat) : (restL n cut k).length ≤ k := by
  unfold restL
  rw [List.length_map]
  exact Nat.le_trans (List.length_filter_le _ _) (by rw [List.length_range]; exact Nat.le_refl _)
theorem restL_in {n : Nat} {cut : List Int} {k : Nat} (h : (k : Int) ∈ cut) : restL n cut (k + 1) = restL n cut k := by
  unfold restL; rw [filter_range_snoc, if_neg (by simpa using h), List.append_nil]
theorem restL_out {n : Nat} {cut : List Int} {k : Nat} (h : (k : Int) ∉ cut) : restL n cut (k + 1) = restL n cut k ++ [(k : Int)] := by
  unfold restL; rw [filter_range_snoc, if_pos (decide_eq_true h), List.map_append]; rfl
theorem reverse_Discarded_ok {h : api_History} {cut : List Int} {Φ : List Int → Prop} (hh : SmallH h) (hl : cut.length ≤ 1000000) (hΦ : Φ (disc h cut)) : reverse_Discarded_W h cut Φ := by
  unfold disc at hΦ
  refine history_Image_ok hh hl (fun hz hb => ⟨fun q => absurd rfl q, fun _ => ?_⟩) (fun hz => ⟨fun _ => by rw [if_pos hz] at hΦ; exact hΦ, fun q => absurd hz q⟩) fun hz hb => ⟨fun _ => by rw [if_neg (by omega), if_pos hb] at hΦ; exact hΦ, fun q => absurd (by omega) q⟩
  rw [if_neg (by omega), if_neg (by rw [hb]; decide)] at hΦ
  have hw := hh.wr
  refine LoopW.upT h.Writes.length (fun k => ((k : Int), restL h.Writes.length cut k)) rfl (fun k rec hk hr => ⟨fun _ => ?_, fun _ => by omega⟩) fun rec => ⟨fun _ => by omega, fun _ => hΦ⟩
  have hrl := restL_len h.Writes.length cut k
  refine slices_BinarySearch_int_ok hl (fun i j hij hj => isSetB_lt hb hij hj) fun p => ⟨fun q => ?_, fun q => ?_⟩
  · have q : (k : Int) ∉ cut := fun c => q (decide_eq_true c)
    exact ⟨iL (by rw [len_snoc]; omega) (by omega), iI (by omega) (by omega), hr _ (by rw [restL_out q]; rfl)⟩
  · have q : (k : Int) ∈ cut := of_decide_eq_true (Classical.not_not.1 q)
    exact ⟨iI (by omega) (by omega), hr _ (by rw [restL_in q]; rfl)⟩
theorem filt_get (p : Nat → Bool) {n i : Nat} (hi : i < n) (hp : p i = true) : ((List.range n).filter p)[((List.range i).filter p).length]? = some i := by
  induction n with
  | zero => omega
  | succ n ih =>
    rw [filter_range_snoc]
    rcases Nat.lt_or_ge i n with h | h
    · have := ih h
      rw [List.getElem?_append_left (List.getElem?_eq_some_iff.1 this).1]; exact this
    · obtain rfl : i = n := by omega
      rw [if_pos hp, List.getElem?_append_right (Nat.le_refl _), Nat.sub_self]; rfl
def pickI (p : Nat → Bool) (n : Nat) : List Int := ((List.range n).filter p).map fun i : Nat => (i : Int)
theorem pickI_len (p : Nat → Bool) (n : Nat) : (pickI p n).length = ((List.range n).filter p).length := by unfold pickI; rw [List.length_map]
theorem pickI_le (p : Nat → Bool) (n : Nat) : (pickI p n).length ≤ n := by
  rw [pickI_len]; exact Nat.le_trans (List.length_filter_le _ _) (by rw [List.length_range]; exact Nat.le_refl _)
theorem pickI_yes {p : Nat → Bool} {n : Nat} (h : p n = true) : pickI p (n + 1) = pickI p n ++ [(n : Int)] := by unfold pickI; rw [filter_range_snoc, if_pos h, List.map_append]; rfl
theorem pickI_no {p : Nat → Bool} {n : Nat} (h : p n = false) : pickI p (n + 1) = pickI p n := by unfold pickI; rw [filter_range_snoc, if_neg (by rw [h]; decide), List.append_nil]
theorem pickI_at {p : Nat → Bool} {n i : Nat} (hi : i < n) (hp : p i = true) : (pickI p i).length < (pickI p n).length ∧ ix (pickI p n) ((pickI p i).length : Int) = (i : Int) := by
  have := filt_get p hi hp
  have hl := (List.getElem?_eq_some_iff.1 this).1
  have h1 : (pickI p i).length < (pickI p n).length := by rw [pickI_len, pickI_len]; exact hl
  refine ⟨h1, ?_⟩
  have e : (pickI p n)[(pickI p i).length]? = some (i : Int) := by
    rw [pickI_len]; unfold pickI; rw [List.getElem?_map, this]; rfl
  rw [ix_get h1]
  exact (List.getElem?_eq_some_iff.1 e).2
theorem pickI_mem {p : Nat → Bool} {n i : Nat} : (i : Int) ∈ pickI p n ↔ i < n ∧ p i = true := by
  unfold pickI
  rw [List.mem_map]
  constructor
  · rintro ⟨j, hj, e⟩
    obtain rfl : j = i := by omega
    rw [List.mem_filter, List.mem_range] at hj; exact hj
  · rintro h
    exact ⟨i, by rw [List.mem_filter, List.mem_range]; exact h, rfl⟩
theorem pickI_set (p : Nat → Bool) (n m : Nat) (hm : n ≤ m) : isSetB (pickI p n) (m : Int) = true := by
  induction n with
  | zero => rfl
  | succ n ih =>
    have ih := ih (by omega)
    cases hp : p n with
    | false => rw [pickI_no hp]; exact ih
    | true =>
      rw [pickI_yes hp]
      unfold isSetB
      rw [allN_true, len_snoc]
      intro k hk
      refine decide_eq_true ?_
      rcases Nat.lt_or_ge k (pickI p n).length with h | h
      · have := isSetB_at ih h
        have e : ∀ j : Nat, j < (pickI p n).length → ix (pickI p n ++ [(n : Int)]) (j : Int) = ix (pickI p n) (j : Int) := fun j hj => by rw [ix_get (by rw [len_snoc]; omega), ix_get hj, List.getElem_append_left hj]
        rw [e k h]
        refine ⟨this.1, this.2.1, fun h0 => ?_⟩
        rw [show (k : Int) - 1 = ((k - 1 : Nat) : Int) by omega, e _ (by omega), ← show (k : Int) - 1 = ((k - 1 : Nat) : Int) by omega]; exact this.2.2 h0
      · obtain rfl : k = (pickI p n).length := by omega
        have e : ix (pickI p n ++ [(n : Int)]) ((pickI p n).length : Int) = (n : Int) := by rw [ix_get (by rw [len_snoc]; omega), List.getElem_append_right (Nat.le_refl _)]; simp
        rw [e]
        refine ⟨by omega, by omega, fun h0 => ?_⟩
        rw [show ((pickI p n).length : Int) - 1 = (((pickI p n).length - 1 : Nat) : Int) by omega, ix_get (by rw [len_snoc]; omega), List.getElem_append_left (by omega)]
        obtain ⟨j, hj, e⟩ := List.mem_map.1 (show (pickI p n)[(pickI p n).length - 1]'(by omega) ∈ pickI p n from List.getElem_mem _)
        rw [List.mem_filter, List.mem_range] at hj
        rw [← e]; omega
theorem reverseDivides_law (h : api_History) (which : List Bool) (_ : Rg.rg h) (_ : Rg.rg which) : law47_ReverseDivides_W h which fun z => z = true := by
  unfold law47_ReverseDivides_W Join
  refine ref15_Few_ok ?_
  refine ⟨fun _ => ⟨fun _ => law47_awake_ok rfl, fun q => absurd rfl q⟩, fun q => ?_⟩
  obtain ⟨hh, hw⟩ := fewH_small (Classical.not_not.1 q)
  refine ref15_Check_ok hh ?_
  by_cases hz : histE h ≠ 0
  · rw [decide_eq_true hz]; exact ⟨fun _ => law47_awake_ok rfl, fun q => absurd rfl q⟩
  rw [decide_eq_false hz]
  have hz := Classical.not_not.1 hz
  refine ⟨fun q => Bool.noConfusion q, fun _ => ?_⟩
  have hm : min h.Writes.length which.length ≤ h.Writes.length := Nat.min_le_left _ _
  refine LoopW.upT (min h.Writes.length which.length) (fun k => ((k : Int), pickI (fun i => ix which (i : Int)) k)) rfl (fun k rec hk hr => ?_) fun rec => ?_
  · refine ⟨fun _ => ?_, fun _ => by omega⟩
    rw [decide_eq_true (by omega)]
    refine ⟨fun _ => ⟨iX (by omega) (by omega), fun c => ⟨iL (by rw [len_snoc]; have := pickI_le (fun i => ix which (i : Int)) k; omega) (by omega), iI (by omega) (by omega), hr _ (by rw [pickI_yes c]; rfl)⟩, fun c => ⟨iI (by omega) (by omega), hr _ (by rw [pickI_no (by simpa using c)]; rfl)⟩⟩, fun c => absurd rfl c⟩
  · have fin : law47_ReverseDivides_J3 h which ((min h.Writes.length which.length : Nat) : Int) (pickI (fun i => ix which (i : Int)) (min h.Writes.length which.length)) rec (fun z => z = true) false := by
      refine ⟨fun q => Bool.noConfusion q, fun _ => ?_⟩
      have hcut : pickI (fun i => ix which (i : Int)) (min h.Writes.length which.length) = pickI (fun i => decide (i < which.length) && ix which (i : Int)) h.Writes.length := by
        rcases Nat.le_total h.Writes.length which.length with a | a
        · rw [Nat.min_eq_left a]
          unfold pickI
          congr 1
          exact List.filter_congr fun i hi => by rw [decide_eq_true (by have := List.mem_range.1 hi; omega), Bool.true_and]
        · rw [Nat.min_eq_right a]
          have : ∀ d, pickI (fun i => decide (i < which.length) && ix which (i : Int)) (which.length + d) = pickI (fun i => ix which (i : Int)) which.length := fun d => by
            induction d with
            | zero =>
              unfold pickI
              congr 1
              exact List.filter_congr fun i hi => by rw [decide_eq_true (by have := List.mem_range.1 hi; omega), Bool.true_and]
            | succ d ih => rw [← ih, show which.length + (d + 1) = (which.length + d) + 1 by omega, pickI_no (by rw [decide_eq_false (by omega)]; rfl)]
          rw [show h.Writes.length = which.length + (h.Writes.length - which.length) by omega, this]
      rw [hcut]
      generalize (fun i : Nat => decide (i < which.length) && ix which (i : Int)) = p
      have hpl := pickI_le p h.Writes.length
      refine reverse_Discarded_ok hh (by omega) ?_
      have hdisc : disc h (pickI p h.Writes.length) = pickI (fun i => !p i) h.Writes.length := by
        unfold disc restL pickI
        rw [if_neg (by omega), if_neg (by rw [show ((List.range h.Writes.length).filter p).map (fun i : Nat => (i : Int)) = pickI p h.Writes.length from rfl, pickI_set p _ _ (Nat.le_refl _)]; decide)]
        congr 1
        refine List.filter_congr fun i hi => ?_
        have hi := List.mem_range.1 hi
        have := pickI_mem (p := p) (n := h.Writes.length) (i := i)
        rw [Bool.eq_iff_iff, decide_eq_true_iff, show ((List.range h.Writes.length).filter p).map (fun i : Nat => (i : Int)) = pickI p h.Writes.length from rfl, this]
        simp [hi]
      rw [hdisc]
      have hql := pickI_le (fun i => !p i) h.Writes.length
      refine LoopW.upT h.Writes.length (fun k => (((pickI p k).length : Int), ((pickI (fun i => !p i) k).length : Int), (k : Int))) rfl (fun k rec hk hr => ⟨fun _ => ?_, fun _ => by omega⟩) fun rec => ⟨fun _ => by omega, fun _ => law47_awake_ok ⟨fun _ => ⟨fun _ => decide_eq_true rfl, fun c => absurd rfl c⟩, fun c => absurd rfl c⟩⟩
      have h1 := pickI_le p k
      have h2 := pickI_le (fun i => !p i) k
      cases hp : p k with
      | true =>
        obtain ⟨g1, g2⟩ := pickI_at hk hp
        refine ⟨fun _ => ⟨iX (by omega) (by omega), ?_⟩, fun c => by omega⟩
        rw [g2, decide_eq_true rfl]
        refine ⟨fun _ => ⟨iI (by omega) (by omega), iI (by omega) (by omega), hr _ ?_⟩, fun c => absurd rfl c⟩
        rw [pickI_yes hp, pickI_no (p := fun i => !p i) (by rw [hp]; rfl), len_snoc]; rfl
      | false =>
        obtain ⟨g1, g2⟩ := pickI_at (p := fun i => !p i) hk (by simp [hp])
        have step : law47_ReverseDivides_J5 (pickI (fun i => !p i) h.Writes.length) ((pickI p k).length : Int) ((pickI (fun i => !p i) k).length : Int) (k : Int) rec (fun z => z = true) false := by
          refine ⟨fun q => Bool.noConfusion q, fun _ => ⟨fun _ => ⟨iX (by omega) (by omega), ?_⟩, fun c => by omega⟩⟩
          rw [g2, decide_eq_true rfl]
          refine ⟨fun _ => ⟨iI (by omega) (by omega), iI (by omega) (by omega), hr _ ?_⟩, fun c => absurd rfl c⟩
          rw [pickI_no hp, pickI_yes (p := fun i => !p i) (by rw [hp]; rfl), len_snoc]; rfl
        refine ⟨fun c => ⟨iX (by omega) (by omega), ?_⟩, fun _ => step⟩
        rw [decide_eq_false fun e => ?_]
        · exact step
        · have := (pickI_mem (p := p) (n := h.Writes.length) (i := k)).1 (e ▸ mem_ix (by omega) (by omega))
          rw [hp] at this; cases this.2
    by_cases hq : ((min h.Writes.length which.length : Nat) : Int) < (h.Writes.length : Int)
    · exact ⟨fun _ => by rw [decide_eq_false (by omega)]; exact fin, fun c => absurd hq c⟩
    · exact ⟨fun c => absurd c hq, fun _ => fin⟩
end Go.Proofs.YtjjodmgmidbamaaDoor
namespace Go.Proofs.YtjjodmgmidbamaaDoor
open Go.RowKit Go.ChangeShapes Go.WideShapes Go.ChangeAt
set_option maxRecDepth 100000 in
theorem reverseDivides_lifted (os : Os) (started : os.Started) (H : Type) (enc : TypeId × Value → H) :
    ReturnsInHanded {} Tryd.checked os 4 .any (fun w args => (Rows.reverseDividesSpec.pre enc Tryd.prog Tryd.f4 [] false w args ∧ laidMetH Tryd.prog [("math/bits.deBruijn64tab", Rows.laid_math_bits_deBruijn64tab)] w) ∧ sizedMet enc Tryd.prog Tryd.f4 (OpenSpec.ofChange Rows.reverseDividesSpec) false w args)
      (Rows.reverseDividesSpec.post enc Tryd.prog Tryd.f4 false true false false) := by
  refine returnsInHanded_of_change_and (C := Tryd.checked) (X := fun w _ => laidMetH Tryd.prog [("math/bits.deBruijn64tab", Rows.laid_math_bits_deBruijn64tab)] w) (fun _ _ _ hh h => h.of_heap hh) Tryd.own started (by kernel_rfl) Tryd.func4
    (ChangeSpec.witness_shaped (enc := enc) (C := Tryd.checked) (os := os) (X := fun w _ => laidMetH Tryd.prog [("math/bits.deBruijn64tab", Rows.laid_math_bits_deBruijn64tab)] w) false (World.doorLaid Tryd.prog 14 os) #[.agg #[.slice none 0 0, .slice none 0 0, .slice none 0 0], .slice none 0 0] 8 rfl (World.shaped_of_RefB (by kernel_rfl) (by kernel_rfl)) (by kernel_rfl) (by kernel_rfl) (by kernel_rfl) (Tryd.doorMet os _)) ?_
  intro W base args ds gs before hval0 hW _ _ hL _
  have hval : ∀ (j : Nat) t v, Tryd.f4.params[j]? = some t → args[j]? = some v → Value.okWide Tryd.prog W .any base t v := hval0
  have hW' := hW
  obtain ⟨p, q, hA0, hV, hpq, _, _⟩ := hW
  have hA : DataW.TrodAll enc Tryd.prog W 0 (fun _ => true) true Tryd.f4.params.toList args.toList ds p := hA0
  rw [Tryd.params4] at hA hval
  obtain ⟨v0, v1, d0, d1, p0, p1, rfl, rfl, rfl, h0, h1⟩ := trodAll_two hA
  obtain ⟨rfl, rfl⟩ := trodVars_none hV
  have hT := tabHolds hL
  obtain ⟨ks0, x0, rfl, hr0, hg0⟩ := open_strD Tryd.underlying26 rd26 (hval 0 26 v0 rfl rfl) h0
  obtain ⟨Az1, nz1, cz1, sz1, x1, rfl, hz1, hg1⟩ := open_slD Tryd.underlying32 rd32 (hval 1 32 v1 rfl rfl) h1
  refine Calls.mono ((RetP.toV (y := true) (F := fun z => .bool z) (RetP.mono (ok4 (x0, x1, ()) (fun y => y.1 = true) (reverseDivides_law x0 x1 hg0 hg1) (HW W) [.agg ks0.toArray, .slice Az1 nz1 cz1] hT ⟨_, ks0, _, rfl, by rw [pkw26], (show Dt.rd (α := api_History) (HW W) _ _ from hr0), ⟨_, [.slice Az1 nz1 cz1], _, rfl, by rw [pkw32], (show Dt.rd (α := List Bool) (HW W) _ _ from ⟨Az1, nz1, cz1, sz1, rfl, hz1⟩), rfl⟩⟩) fun _ _ _ _ ⟨y, hy, hr⟩ => lawRes y hy hr)) W fun b o e => e) ?_
  rintro e W' ⟨v, _, rfl, _, _, _, hb, rfl⟩
  exact ⟨_, rfl, post_law Tryd.laidOut Tryd.underlying4 rfl (by kernel_rfl) hW' rfl rfl hb⟩
theorem reverseDivides_holds : Rows.ReverseDividesSaid :=
  OpenClaim.holds_of_wide 4 Tryd.f4 rfl rfl rfl rfl rfl rfl rfl ⟨rfl, rfl, rfl, rfl, rfl⟩ rfl rfl rfl rfl rfl (by kernel_rfl) Tryd.func4 (by kernel_rfl)
    (of_decide_eq_true (by kernel_rfl)) (by unfold Func.isWrapper; first | (rw [if_pos (by decide +kernel)]; kernel_rfl) | (rw [if_neg (by decide +kernel)]; exact ⟨rfl, rfl⟩))
    (fun os started H enc _ => reverseDivides_lifted os started H enc)
theorem reverseDivides_card : Rows.ReverseDividesCardSaid :=
  Claim7.holds_tied_plain_at .later [] [.data] true (true, "23ff28c34db89c2f4e03ff02e83e22b3ec02ebb1818baec1f217c02b1e3bc61a") false
    reverseDivides_holds (fun _ h => by cases h) (by kernel_rfl) (fun _ h => by cases h) reverseDivides_row_tie rfl ⟨rfl, rfl⟩ (by kernel_rfl) rfl
    (fun f fn hf hfn => by
      obtain rfl : f = 4 := Option.some.inj ((show Tryd.prog.funcNamed "standby/standbylaw47.ReverseDivides" = some 4 by kernel_rfl).symm.trans hf) |>.symm
      obtain rfl : fn = Tryd.f4 := (Option.some.inj (Tryd.func4.symm.trans hfn)).symm
      exact ⟨by kernel_rfl, fun j t ht => by
        rw [Tryd.params4] at ht
        have hm : t ∈ [26, 32] := by
          have := Array.mem_of_getElem? ht
          simpa using this
        have hall : ([26, 32].all fun u => !Tryd.prog.wantsStandIn u) = true := by kernel_rfl
        exact (show Tryd.prog.wantsStandIn t = false by simpa using List.all_eq_true.1 hall t hm)⟩)
    (by kernel_rfl)
end Go.Proofs.YtjjodmgmidbamaaDoor
