/- Proved: the tied card of the statement ReverseUndoes: for every argument that can be read the law returns true and leaves its arguments as they were. Conditions: the row's own alone: the table math/bits.deBruijn64tab reads as listed, which the card ties to the program's text. -/
import Derived.Test.YtahlanamngfkcaaDoorM6
namespace Go.Proofs.YtahlanamngfkcaaDoor
open Go.RowKit
def orK {S R : Type} (a : S → Prop) (b : R → Prop) : S ⊕ R → Prop
  | .inl s => a s
  | .inr r => b r
def loopS {S R : Type} (step : S → Option (S ⊕ R)) : Nat → S → Option R
  | 0, _ => none
  | n + 1, s => match step s with
    | none => none
    | some (.inl s') => loopS step n s'
    | some (.inr r) => some r
theorem LoopW.of_S {S R : Type} {step : S → (S → Prop) → Prop} {stepS : S → Option (S ⊕ R)} {K : R → Prop} (hs : ∀ s q rec, stepS s = some q → orK rec K q → step s rec) : ∀ (n : Nat) (s : S) {o : R}, loopS stepS n s = some o → K o → LoopW step s := by
  intro n s o h hK
  refine ⟨n, ?_⟩
  induction n generalizing s with
  | zero => cases h
  | succ n ih =>
    unfold loopS at h
    split at h
    · cases h
    · rename_i s' e
      exact hs s _ _ e (ih s' h)
    · rename_i r e
      cases h
      exact hs s _ _ e hK
theorem ofBind {α β : Type} {x : Option α} {f : α → Option β} {o : β} (h : Option.bind x f = some o) : ∃ v, x = some v ∧ f v = some o := Option.bind_eq_some_iff.1 h
theorem ofIf {α : Type} {p : Prop} [Decidable p] {x : Option α} {o : α} (h : (if p then x else none) = some o) : p ∧ x = some o := by
  by_cases hp : p
  · rw [if_pos hp] at h; exact ⟨hp, h⟩
  · rw [if_neg hp] at h; cases h
theorem ofT {α : Type} {p : Prop} [Decidable p] {x y : Option α} {o : α} (hp : p) (h : (if p then x else y) = some o) : x = some o := by rw [if_pos hp] at h; exact h
theorem ofF {α : Type} {p : Prop} [Decidable p] {x y : Option α} {o : α} (hp : ¬ p) (h : (if p then x else y) = some o) : y = some o := by rw [if_neg hp] at h; exact h
def bothS {α : Type} [DecidableEq α] (b : Bool) (x y : Option α) : Option α := if b = true then (if x = y then x else none) else y
theorem ofBoth {α : Type} [DecidableEq α] {b : Bool} {x y : Option α} {o : α} (h : bothS b x y = some o) : (b = true → x = some o) ∧ y = some o := by
  unfold bothS at h
  by_cases hb : b = true
  · rw [if_pos hb] at h
    by_cases he : x = y
    · rw [if_pos he] at h; exact ⟨fun _ => h, he ▸ h⟩
    · rw [if_neg he] at h; cases h
  · rw [if_neg hb] at h; exact ⟨fun q => absurd q hb, h⟩
instance decI (x : Int) : Decidable (inI x) := inferInstanceAs (Decidable (_ ∧ _))
instance decX (i : Int) (n : Nat) : Decidable (inX i n) := inferInstanceAs (Decidable (_ ∧ _))
instance decS (a b : Int) (n : Nat) : Decidable (inS a b n) := inferInstanceAs (Decidable (_ ∧ _))
instance decL (n b : Nat) : Decidable (lenOk n b) := inferInstanceAs (Decidable (_ ∧ _))
def bitmap_Extents_S (x0 : api_Bitmap) : Option (List api_Extent) := some ((extR x0.Size x0.Words).map fun e => ⟨e.1, e.2⟩)
theorem bitmap_Extents_sound (x0 : api_Bitmap) {Φ : List api_Extent → Prop} {o} (h : bitmap_Extents_S x0 = some o) (hK : Φ o) : bitmap_Extents_W x0 Φ := by
  cases h; exact hK
def law47_one_S (x0 : Int) (x1 : BitVec 8) : Option (api_Write) :=
  some ((api_Write.mk 0 x0 ([(Sec.mk x1 (0#8) (0#8) (0#8) (0#8) (0#8) (0#8) (0#8))] : List Sec)))
theorem law47_one_sound (x0 : Int) (x1 : BitVec 8) {Φ : api_Write → Prop} {o} (h : law47_one_S x0 x1 = some o) (hK : Φ o) : law47_one_W x0 x1 Φ := by
  unfold law47_one_S at h
  unfold law47_one_W
  cases h; exact hK
def ref07_SizesOf_L1_S (x0 : List (List Sec)) : (List Int × Int) → Option ((List Int × Int) ⊕ (List Int))
  | (v4, v11) =>
    if v11 < (x0.length : Int) then
      if inX v11 x0.length then
      if lenOk (v4 ++ ([((ix x0 v11).length : Int)] : List Int)).length 8 then
      if inI (v11 + 1) then
      some (.inl ((v4 ++ ([((ix x0 v11).length : Int)] : List Int)), v11 + 1))
      else none
      else none
      else none
    else
      some (.inr v4)
theorem ref07_SizesOf_L1_sound (x0 : List (List Sec)) (s : List Int × Int) {Φ : List Int → Prop} {rec1 : (List Int × Int) → Prop} {o} (h : ref07_SizesOf_L1_S x0 s = some o) (hK : (orK rec1 Φ) o) : ref07_SizesOf_L1 x0 Φ s rec1 := by
  obtain ⟨v4, v11⟩ := s
  unfold ref07_SizesOf_L1_S at h
  unfold ref07_SizesOf_L1
  refine And.intro (fun hc => ?_) (fun hc => ?_)
  · replace h := ofT hc h; clear hc
    obtain ⟨hg, h⟩ := ofIf h
    refine And.intro hg ?_; clear hg
    obtain ⟨hg, h⟩ := ofIf h
    refine And.intro hg ?_; clear hg
    obtain ⟨hg, h⟩ := ofIf h
    refine And.intro hg ?_; clear hg
    cases h; exact hK
  · replace h := ofF hc h; clear hc
    cases h; exact hK
def ref07_SizesOf_S (x0 : List (List Sec)) : Option (List Int) :=
  loopS (ref07_SizesOf_L1_S x0) 100000 (([] : List Int), 0)
theorem ref07_SizesOf_sound (x0 : List (List Sec)) {Φ : List Int → Prop} {o} (h : ref07_SizesOf_S x0 = some o) (hK : Φ o) : ref07_SizesOf_W x0 Φ := by
  unfold ref07_SizesOf_S at h
  unfold ref07_SizesOf_W
  exact LoopW.of_S (fun s q rec hs hq => ref07_SizesOf_L1_sound _ s hs hq) _ _ h hK
def ref07_Sizes_L1_S (x0 : List Int) : (Int) → Option ((Int) ⊕ (Int))
  | (v6) =>
    if v6 < (x0.length : Int) then
      Option.bind (
        if inX v6 x0.length then some () else none : Option Unit) fun _ =>
      if ((ix x0 v6) < 1) ∨ (4096 < (ix x0 v6)) then
        some (.inr 2)
      else
        if inI (v6 + 1) then
        some (.inl (v6 + 1))
        else none
    else
      some (.inr 0)
theorem ref07_Sizes_L1_sound (x0 : List Int) (s : Int) {Φ : Int → Prop} {rec1 : (Int) → Prop} {o} (h : ref07_Sizes_L1_S x0 s = some o) (hK : (orK rec1 Φ) o) : ref07_Sizes_L1 x0 Φ s rec1 := by
  unfold ref07_Sizes_L1_S at h
  unfold ref07_Sizes_L1
  refine And.intro (fun hc => ?_) (fun hc => ?_)
  · replace h := ofT hc h; clear hc
    obtain ⟨_, h1, h⟩ := ofBind h
    refine And.intro ?_ ?_
    · replace h := h1; clear h1; have hK := True.intro
      exact (ofIf h).1
    · clear h1
      refine And.intro (fun hc => ?_) (fun hc => ?_)
      · replace h := ofT hc h; clear hc
        cases h; exact hK
      · replace h := ofF hc h; clear hc
        obtain ⟨hg, h⟩ := ofIf h
        refine And.intro hg ?_; clear hg
        cases h; exact hK
  · replace h := ofF hc h; clear hc
    cases h; exact hK
def ref07_Sizes_S (x0 : List Int) : Option (Int) :=
  if ((x0.length : Int) < 1) ∨ (8 < (x0.length : Int)) then
    some (6)
  else
    loopS (ref07_Sizes_L1_S x0) 100000 (0)
theorem ref07_Sizes_sound (x0 : List Int) {Φ : Int → Prop} {o} (h : ref07_Sizes_S x0 = some o) (hK : Φ o) : ref07_Sizes_W x0 Φ := by
  unfold ref07_Sizes_S at h
  unfold ref07_Sizes_W
  refine And.intro (fun hc => ?_) (fun hc => ?_)
  · replace h := ofT hc h; clear hc
    cases h; exact hK
  · replace h := ofF hc h; clear hc
    exact LoopW.of_S (fun s q rec hs hq => ref07_Sizes_L1_sound _ s hs hq) _ _ h hK
def ref07_Check_S (x0 : List (List Sec)) : Option (Int) :=
  Option.bind (ref07_SizesOf_S x0) fun v2 =>
  Option.bind (ref07_Sizes_S v2) fun v11 =>
  some (v11)
theorem ref07_Check_sound (x0 : List (List Sec)) {Φ : Int → Prop} {o} (h : ref07_Check_S x0 = some o) (hK : Φ o) : ref07_Check_W x0 Φ := by
  unfold ref07_Check_S at h
  unfold ref07_Check_W
  obtain ⟨_, hv, h⟩ := ofBind h
  refine ref07_SizesOf_sound _ hv ?_; clear hv
  obtain ⟨_, hv, h⟩ := ofBind h
  refine ref07_Sizes_sound _ hv ?_; clear hv
  cases h; exact hK
def ref07_Copy_L1_S (x0 : List (List Sec)) : (List (List Sec) × Int) → Option ((List (List Sec) × Int) ⊕ (List (List Sec)))
  | (v4, v12) =>
    if v12 < (x0.length : Int) then
      if inX v12 x0.length then
      if lenOk (([] : List Sec) ++ (ix x0 v12)).length 8 then
      if lenOk (v4 ++ [(([] : List Sec) ++ (ix x0 v12))]).length 24 then
      if inI (v12 + 1) then
      some (.inl ((v4 ++ [(([] : List Sec) ++ (ix x0 v12))]), v12 + 1))
      else none
      else none
      else none
      else none
    else
      some (.inr v4)
theorem ref07_Copy_L1_sound (x0 : List (List Sec)) (s : List (List Sec) × Int) {Φ : List (List Sec) → Prop} {rec1 : (List (List Sec) × Int) → Prop} {o} (h : ref07_Copy_L1_S x0 s = some o) (hK : (orK rec1 Φ) o) : ref07_Copy_L1 x0 Φ s rec1 := by
  obtain ⟨v4, v12⟩ := s
  unfold ref07_Copy_L1_S at h
  unfold ref07_Copy_L1
  refine And.intro (fun hc => ?_) (fun hc => ?_)
  · replace h := ofT hc h; clear hc
    obtain ⟨hg, h⟩ := ofIf h
    refine And.intro hg ?_; clear hg
    obtain ⟨hg, h⟩ := ofIf h
    refine And.intro hg ?_; clear hg
    obtain ⟨hg, h⟩ := ofIf h
    refine And.intro hg ?_; clear hg
    obtain ⟨hg, h⟩ := ofIf h
    refine And.intro hg ?_; clear hg
    cases h; exact hK
  · replace h := ofF hc h; clear hc
    cases h; exact hK
def ref07_Copy_S (x0 : List (List Sec)) : Option (List (List Sec)) :=
  loopS (ref07_Copy_L1_S x0) 100000 (([] : List (List Sec)), 0)
theorem ref07_Copy_sound (x0 : List (List Sec)) {Φ : List (List Sec) → Prop} {o} (h : ref07_Copy_S x0 = some o) (hK : Φ o) : ref07_Copy_W x0 Φ := by
  unfold ref07_Copy_S at h
  unfold ref07_Copy_W
  exact LoopW.of_S (fun s q rec hs hq => ref07_Copy_L1_sound _ s hs hq) _ _ h hK
def ref07_FitsSizes_S (x0 : List Int) (x1 : api_Write) : Option (Int) :=
  if (x1.Volume < 0) ∨ ((x0.length : Int) ≤ x1.Volume) then
    some (7)
  else
    if (x1.Data.length : Int) = 0 then
      some (1)
    else
      Option.bind (
        if ¬ (x1.Start < 0) then
          if inX x1.Volume x0.length then
          if ¬ ((ix x0 x1.Volume) ≤ x1.Start) then
            if inI ((ix x0 x1.Volume) - x1.Start) then some () else none
          else some ()
          else none
        else some () : Option Unit) fun _ =>
      if (x1.Start < 0) ∨ (((ix x0 x1.Volume) ≤ x1.Start) ∨ (((ix x0 x1.Volume) - x1.Start) < (x1.Data.length : Int))) then
        some (2)
      else
        some (0)
theorem ref07_FitsSizes_sound (x0 : List Int) (x1 : api_Write) {Φ : Int → Prop} {o} (h : ref07_FitsSizes_S x0 x1 = some o) (hK : Φ o) : ref07_FitsSizes_W x0 x1 Φ := by
  unfold ref07_FitsSizes_S at h
  unfold ref07_FitsSizes_W
  refine And.intro (fun hc => ?_) (fun hc => ?_)
  · replace h := ofT hc h; clear hc
    cases h; exact hK
  · replace h := ofF hc h; clear hc
    refine And.intro (fun hc => ?_) (fun hc => ?_)
    · replace h := ofT hc h; clear hc
      cases h; exact hK
    · replace h := ofF hc h; clear hc
      obtain ⟨_, h1, h⟩ := ofBind h
      refine And.intro ?_ ?_
      · replace h := h1; clear h1; have hK := True.intro
        intro hc; replace h := ofT hc h; clear hc
        obtain ⟨hg, h⟩ := ofIf h
        refine And.intro hg ?_; clear hg
        intro hc; replace h := ofT hc h; clear hc
        exact (ofIf h).1
      · clear h1
        refine And.intro (fun hc => ?_) (fun hc => ?_)
        · replace h := ofT hc h; clear hc
          cases h; exact hK
        · replace h := ofF hc h; clear hc
          cases h; exact hK
def ref07_Fits_S (x0 : List (List Sec)) (x1 : api_Write) : Option (Int) :=
  Option.bind (ref07_Check_S x0) fun v4 =>
  if v4 ≠ 0 then
    some (v4)
  else
    Option.bind (ref07_SizesOf_S x0) fun v8 =>
    Option.bind (ref07_FitsSizes_S v8 x1) fun v14 =>
    some (v14)
theorem ref07_Fits_sound (x0 : List (List Sec)) (x1 : api_Write) {Φ : Int → Prop} {o} (h : ref07_Fits_S x0 x1 = some o) (hK : Φ o) : ref07_Fits_W x0 x1 Φ := by
  unfold ref07_Fits_S at h
  unfold ref07_Fits_W
  obtain ⟨_, hv, h⟩ := ofBind h
  refine ref07_Check_sound _ hv ?_; clear hv
  refine And.intro (fun hc => ?_) (fun hc => ?_)
  · replace h := ofT hc h; clear hc
    cases h; exact hK
  · replace h := ofF hc h; clear hc
    obtain ⟨_, hv, h⟩ := ofBind h
    refine ⟨_, ref07_SizesOf_sound _ hv rfl, ?_⟩; clear hv
    obtain ⟨_, hv, h⟩ := ofBind h
    refine ⟨_, ref07_FitsSizes_sound _ _ hv rfl, ?_⟩; clear hv
    cases h; exact hK
def ref07_Apply_L2_S (x1 : List api_Write) (v24 : Int) : (List (List Sec) × Int) → Option ((List (List Sec) × Int) ⊕ ((List (List Sec) × Int) ⊕ (List (List Sec) × Int × Int)))
  | (v37, v45) =>
    if v45 < (((ix x1 v24).Data).length : Int) then
      if inX ((ix x1 v24).Volume) v37.length then
      if inI (((ix x1 v24).Start) + v45) then
      if inX v45 ((ix x1 v24).Data).length then
      if inX (((ix x1 v24).Start) + v45) (ix v37 ((ix x1 v24).Volume)).length then
      if inI (v45 + 1) then
      some (.inl ((put v37 ((ix x1 v24).Volume) (put (ix v37 ((ix x1 v24).Volume)) (((ix x1 v24).Start) + v45) (ix ((ix x1 v24).Data) v45))), v45 + 1))
      else none
      else none
      else none
      else none
      else none
    else
      if inI (v24 + 1) then
      some (.inr (.inl (v37, v24 + 1)))
      else none
theorem ref07_Apply_L2_sound (x1 : List api_Write) (v24 : Int) (s : List (List Sec) × Int) {Φ : List (List Sec) × Int × Int → Prop} {rec1 : (List (List Sec) × Int) → Prop} {rec2 : (List (List Sec) × Int) → Prop} {o} (h : ref07_Apply_L2_S x1 v24 s = some o) (hK : (orK rec2 (orK rec1 Φ)) o) : ref07_Apply_L2 x1 v24 rec1 Φ s rec2 := by
  obtain ⟨v37, v45⟩ := s
  unfold ref07_Apply_L2_S at h
  unfold ref07_Apply_L2
  refine And.intro (fun hc => ?_) (fun hc => ?_)
  · replace h := ofT hc h; clear hc
    obtain ⟨hg, h⟩ := ofIf h
    refine And.intro hg ?_; clear hg
    obtain ⟨hg, h⟩ := ofIf h
    refine And.intro hg ?_; clear hg
    obtain ⟨hg, h⟩ := ofIf h
    refine And.intro hg ?_; clear hg
    obtain ⟨hg, h⟩ := ofIf h
    refine And.intro hg ?_; clear hg
    obtain ⟨hg, h⟩ := ofIf h
    refine And.intro hg ?_; clear hg
    cases h; exact hK
  · replace h := ofF hc h; clear hc
    obtain ⟨hg, h⟩ := ofIf h
    refine And.intro hg ?_; clear hg
    cases h; exact hK
def ref07_Apply_L1_S (x0 : List (List Sec)) (x1 : List api_Write) : (List (List Sec) × Int) → Option ((List (List Sec) × Int) ⊕ (List (List Sec) × Int × Int))
  | (v16, v24) =>
    if v24 < (x1.length : Int) then
      if inX v24 x1.length then
      Option.bind (ref07_Fits_S x0 (ix x1 v24)) fun v31 =>
      if v31 ≠ 0 then
        some (.inr (([] : List (List Sec)), v24, v31))
      else
        loopS (ref07_Apply_L2_S x1 v24) 100000 (v16, 0)
      else none
    else
      some (.inr (v16, 0, 0))
theorem ref07_Apply_L1_sound (x0 : List (List Sec)) (x1 : List api_Write) (s : List (List Sec) × Int) {Φ : List (List Sec) × Int × Int → Prop} {rec1 : (List (List Sec) × Int) → Prop} {o} (h : ref07_Apply_L1_S x0 x1 s = some o) (hK : (orK rec1 Φ) o) : ref07_Apply_L1 x0 x1 Φ s rec1 := by
  obtain ⟨v16, v24⟩ := s
  unfold ref07_Apply_L1_S at h
  unfold ref07_Apply_L1
  refine And.intro (fun hc => ?_) (fun hc => ?_)
  · replace h := ofT hc h; clear hc
    obtain ⟨hg, h⟩ := ofIf h
    refine And.intro hg ?_; clear hg
    obtain ⟨_, hv, h⟩ := ofBind h
    refine ref07_Fits_sound _ _ hv ?_; clear hv
    refine And.intro (fun hc => ?_) (fun hc => ?_)
    · replace h := ofT hc h; clear hc
      cases h; exact hK
    · replace h := ofF hc h; clear hc
      exact LoopW.of_S (fun s q rec hs hq => ref07_Apply_L2_sound _ _ s hs hq) _ _ h hK
  · replace h := ofF hc h; clear hc
    cases h; exact hK
def ref07_Apply_S (x0 : List (List Sec)) (x1 : List api_Write) : Option (List (List Sec) × Int × Int) :=
  Option.bind (ref07_Check_S x0) fun v3 =>
  if v3 ≠ 0 then
    some ((([] : List (List Sec)), 0, v3))
  else
    Option.bind (ref07_Copy_S x0) fun v7 =>
    loopS (ref07_Apply_L1_S x0 x1) 100000 (v7, 0)
theorem ref07_Apply_sound (x0 : List (List Sec)) (x1 : List api_Write) {Φ : List (List Sec) × Int × Int → Prop} {o} (h : ref07_Apply_S x0 x1 = some o) (hK : Φ o) : ref07_Apply_W x0 x1 Φ := by
  unfold ref07_Apply_S at h
  unfold ref07_Apply_W
  obtain ⟨_, hv, h⟩ := ofBind h
  refine ref07_Check_sound _ hv ?_; clear hv
  refine And.intro (fun hc => ?_) (fun hc => ?_)
  · replace h := ofT hc h; clear hc
    cases h; exact hK
  · replace h := ofF hc h; clear hc
    obtain ⟨_, hv, h⟩ := ofBind h
    refine ref07_Copy_sound _ hv ?_; clear hv
    exact LoopW.of_S (fun s q rec hs hq => ref07_Apply_L1_sound _ _ s hs hq) _ _ h hK
def ref02_New_S (x0 : Int) : Option (api_Bitmap × Int) :=
  if (x0 < 0) ∨ (4096 < x0) then
    some (((api_Bitmap.mk 0 ([] : List (BitVec 64))), 2))
  else
    if inI (x0 + 63) then
    if 0 ≤ (x0 + 63) ∧ inI (x0 + 63) then
    if 0 ≤ ((x0 + 63) / 64) then
    if lenOk ((x0 + 63) / 64).toNat 8 then
    some (((api_Bitmap.mk x0 (List.replicate ((x0 + 63) / 64).toNat (0#64))), 0))
    else none
    else none
    else none
    else none
theorem ref02_New_sound (x0 : Int) {Φ : api_Bitmap × Int → Prop} {o} (h : ref02_New_S x0 = some o) (hK : Φ o) : ref02_New_W x0 Φ := by
  unfold ref02_New_S at h
  unfold ref02_New_W
  refine And.intro (fun hc => ?_) (fun hc => ?_)
  · replace h := ofT hc h; clear hc
    cases h; exact hK
  · replace h := ofF hc h; clear hc
    obtain ⟨hg, h⟩ := ofIf h
    refine And.intro hg ?_; clear hg
    obtain ⟨hg, h⟩ := ofIf h
    refine And.intro hg ?_; clear hg
    obtain ⟨hg, h⟩ := ofIf h
    refine And.intro hg ?_; clear hg
    obtain ⟨hg, h⟩ := ofIf h
    refine And.intro hg ?_; clear hg
    cases h; exact hK
def ref43_Clean_L1_S (x0 : List Int) : (List api_Bitmap × Int) → Option ((List api_Bitmap × Int) ⊕ (List api_Bitmap))
  | (v4, v11) =>
    if v11 < (x0.length : Int) then
      if inX v11 x0.length then
      Option.bind (ref02_New_S (ix x0 v11)) fun v17 =>
      if lenOk (v4 ++ ([v17.1] : List api_Bitmap)).length 32 then
      if inI (v11 + 1) then
      some (.inl ((v4 ++ ([v17.1] : List api_Bitmap)), v11 + 1))
      else none
      else none
      else none
    else
      some (.inr v4)
theorem ref43_Clean_L1_sound (x0 : List Int) (s : List api_Bitmap × Int) {Φ : List api_Bitmap → Prop} {rec1 : (List api_Bitmap × Int) → Prop} {o} (h : ref43_Clean_L1_S x0 s = some o) (hK : (orK rec1 Φ) o) : ref43_Clean_L1 x0 Φ s rec1 := by
  obtain ⟨v4, v11⟩ := s
  unfold ref43_Clean_L1_S at h
  unfold ref43_Clean_L1
  refine And.intro (fun hc => ?_) (fun hc => ?_)
  · replace h := ofT hc h; clear hc
    obtain ⟨hg, h⟩ := ofIf h
    refine And.intro hg ?_; clear hg
    obtain ⟨_, hv, h⟩ := ofBind h
    refine ref02_New_sound _ hv ?_; clear hv
    obtain ⟨hg, h⟩ := ofIf h
    refine And.intro hg ?_; clear hg
    obtain ⟨hg, h⟩ := ofIf h
    refine And.intro hg ?_; clear hg
    cases h; exact hK
  · replace h := ofF hc h; clear hc
    cases h; exact hK
def ref43_Clean_S (x0 : List Int) : Option (List api_Bitmap) :=
  loopS (ref43_Clean_L1_S x0) 100000 (([] : List api_Bitmap), 0)
theorem ref43_Clean_sound (x0 : List Int) {Φ : List api_Bitmap → Prop} {o} (h : ref43_Clean_S x0 = some o) (hK : Φ o) : ref43_Clean_W x0 Φ := by
  unfold ref43_Clean_S at h
  unfold ref43_Clean_W
  exact LoopW.of_S (fun s q rec hs hq => ref43_Clean_L1_sound _ s hs hq) _ _ h hK
def ref02_Copy_S (x0 : api_Bitmap) : Option (api_Bitmap) :=
  if lenOk (([] : List (BitVec 64)) ++ x0.Words).length 8 then
  some ((api_Bitmap.mk x0.Size (([] : List (BitVec 64)) ++ x0.Words)))
  else none
theorem ref02_Copy_sound (x0 : api_Bitmap) {Φ : api_Bitmap → Prop} {o} (h : ref02_Copy_S x0 = some o) (hK : Φ o) : ref02_Copy_W x0 Φ := by
  unfold ref02_Copy_S at h
  unfold ref02_Copy_W
  obtain ⟨hg, h⟩ := ofIf h
  refine And.intro hg ?_; clear hg
  cases h; exact hK
def ref02_bit_S (x0 : api_Bitmap) (x1 : Int) : Option (Bool) :=
  if 0 ≤ x1 ∧ inI x1 then
  if inX (x1 / 64) x0.Words.length then
  if 0 ≤ x1 then
  some (decide ((((ix x0.Words (x1 / 64)) >>> ((BitVec.ofInt 64 (x1 % 64)).toNat : Int).toNat) &&& (1#64)) = (1#64)))
  else none
  else none
  else none
theorem ref02_bit_sound (x0 : api_Bitmap) (x1 : Int) {Φ : Bool → Prop} {o} (h : ref02_bit_S x0 x1 = some o) (hK : Φ o) : ref02_bit_W x0 x1 Φ := by
  unfold ref02_bit_S at h
  unfold ref02_bit_W
  obtain ⟨hg, h⟩ := ofIf h
  refine And.intro hg ?_; clear hg
  obtain ⟨hg, h⟩ := ofIf h
  refine And.intro hg ?_; clear hg
  obtain ⟨hg, h⟩ := ofIf h
  refine And.intro hg ?_; clear hg
  cases h; exact hK
def ref02_Check_L1_S (x0 : api_Bitmap) : (Int) → Option ((Int) ⊕ (Int))
  | (v10) =>
    if inI (64 * (x0.Words.length : Int)) then
    if v10 < (64 * (x0.Words.length : Int)) then
      Option.bind (ref02_bit_S x0 v10) fun v15 =>
      if v15 = true then
        some (.inr 3)
      else
        if inI (v10 + 1) then
        some (.inl (v10 + 1))
        else none
    else
      some (.inr 0)
    else none
theorem ref02_Check_L1_sound (x0 : api_Bitmap) (s : Int) {Φ : Int → Prop} {rec1 : (Int) → Prop} {o} (h : ref02_Check_L1_S x0 s = some o) (hK : (orK rec1 Φ) o) : ref02_Check_L1 x0 Φ s rec1 := by
  unfold ref02_Check_L1_S at h
  unfold ref02_Check_L1
  obtain ⟨hg, h⟩ := ofIf h
  refine And.intro hg ?_; clear hg
  refine And.intro (fun hc => ?_) (fun hc => ?_)
  · replace h := ofT hc h; clear hc
    obtain ⟨_, hv, h⟩ := ofBind h
    refine ref02_bit_sound _ _ hv ?_; clear hv
    refine And.intro (fun hc => ?_) (fun hc => ?_)
    · replace h := ofT hc h; clear hc
      cases h; exact hK
    · replace h := ofF hc h; clear hc
      obtain ⟨hg, h⟩ := ofIf h
      refine And.intro hg ?_; clear hg
      cases h; exact hK
  · replace h := ofF hc h; clear hc
    cases h; exact hK
def ref02_Check_S (x0 : api_Bitmap) : Option (Int) :=
  Option.bind (
    if ¬ (x0.Size < 0) then
      if ¬ (4096 < x0.Size) then
        if inI (x0.Size + 63) then
        if 0 ≤ (x0.Size + 63) ∧ inI (x0.Size + 63) then some () else none
        else none
      else some ()
    else some () : Option Unit) fun _ =>
  if (x0.Size < 0) ∨ ((4096 < x0.Size) ∨ ((x0.Words.length : Int) ≠ ((x0.Size + 63) / 64))) then
    some (3)
  else
    loopS (ref02_Check_L1_S x0) 100000 (x0.Size)
theorem ref02_Check_sound (x0 : api_Bitmap) {Φ : Int → Prop} {o} (h : ref02_Check_S x0 = some o) (hK : Φ o) : ref02_Check_W x0 Φ := by
  unfold ref02_Check_S at h
  unfold ref02_Check_W
  obtain ⟨_, h1, h⟩ := ofBind h
  refine And.intro ?_ ?_
  · replace h := h1; clear h1; have hK := True.intro
    intro hc; replace h := ofT hc h; clear hc
    intro hc; replace h := ofT hc h; clear hc
    obtain ⟨hg, h⟩ := ofIf h
    refine And.intro hg ?_; clear hg
    exact (ofIf h).1
  · clear h1
    refine And.intro (fun hc => ?_) (fun hc => ?_)
    · replace h := ofT hc h; clear hc
      cases h; exact hK
    · replace h := ofF hc h; clear hc
      exact LoopW.of_S (fun s q rec hs hq => ref02_Check_L1_sound _ s hs hq) _ _ h hK
def ref02_Fits_S (x0 : api_Extent) (x1 : Int) : Option (Bool) :=
  Option.bind (
    if 0 ≤ x0.Start then
      if 0 ≤ x0.Count then
        if x0.Start ≤ x1 then
          if inI (x1 - x0.Start) then some () else none
        else some ()
      else some ()
    else some () : Option Unit) fun _ =>
  some (decide ((0 ≤ x0.Start) ∧ ((0 ≤ x0.Count) ∧ ((x0.Start ≤ x1) ∧ (x0.Count ≤ (x1 - x0.Start))))))
theorem ref02_Fits_sound (x0 : api_Extent) (x1 : Int) {Φ : Bool → Prop} {o} (h : ref02_Fits_S x0 x1 = some o) (hK : Φ o) : ref02_Fits_W x0 x1 Φ := by
  unfold ref02_Fits_S at h
  unfold ref02_Fits_W
  obtain ⟨_, h1, h⟩ := ofBind h
  refine And.intro ?_ ?_
  · replace h := h1; clear h1; have hK := True.intro
    intro hc; replace h := ofT hc h; clear hc
    intro hc; replace h := ofT hc h; clear hc
    intro hc; replace h := ofT hc h; clear hc
    exact (ofIf h).1
  · clear h1
    cases h; exact hK
def ref02_change_L1_S (x1 : api_Extent) (x2 : Bool) (v13 : api_Bitmap) : (List (BitVec 64) × Int) → Option ((List (BitVec 64) × Int) ⊕ (api_Bitmap × Int))
  | (v22, v29) =>
    if inI (x1.Start + x1.Count) then
    if v29 < (x1.Start + x1.Count) then
      if x2 = true then
        if 0 ≤ v29 ∧ inI v29 then
        if inX (v29 / 64) v22.length then
        if 0 ≤ v29 then
        if inI (v29 + 1) then
        some (.inl ((put v22 (v29 / 64) ((ix v22 (v29 / 64)) ||| ((1#64) <<< ((BitVec.ofInt 64 (v29 % 64)).toNat : Int).toNat))), v29 + 1))
        else none
        else none
        else none
        else none
      else
        if 0 ≤ v29 ∧ inI v29 then
        if inX (v29 / 64) v22.length then
        if 0 ≤ v29 then
        if inI (v29 + 1) then
        some (.inl ((put v22 (v29 / 64) ((ix v22 (v29 / 64)) &&& ~~~((1#64) <<< ((BitVec.ofInt 64 (v29 % 64)).toNat : Int).toNat))), v29 + 1))
        else none
        else none
        else none
        else none
    else
      some (.inr ((api_Bitmap.mk v13.Size v22), 0))
    else none
theorem ref02_change_L1_sound (x1 : api_Extent) (x2 : Bool) (v13 : api_Bitmap) (s : List (BitVec 64) × Int) {Φ : api_Bitmap × Int → Prop} {rec1 : (List (BitVec 64) × Int) → Prop} {o} (h : ref02_change_L1_S x1 x2 v13 s = some o) (hK : (orK rec1 Φ) o) : ref02_change_L1 x1 x2 v13 Φ s rec1 := by
  obtain ⟨v22, v29⟩ := s
  unfold ref02_change_L1_S at h
  unfold ref02_change_L1
  obtain ⟨hg, h⟩ := ofIf h
  refine And.intro hg ?_; clear hg
  refine And.intro (fun hc => ?_) (fun hc => ?_)
  · replace h := ofT hc h; clear hc
    refine And.intro (fun hc => ?_) (fun hc => ?_)
    · replace h := ofT hc h; clear hc
      obtain ⟨hg, h⟩ := ofIf h
      refine And.intro hg ?_; clear hg
      obtain ⟨hg, h⟩ := ofIf h
      refine And.intro hg ?_; clear hg
      obtain ⟨hg, h⟩ := ofIf h
      refine And.intro hg ?_; clear hg
      obtain ⟨hg, h⟩ := ofIf h
      refine And.intro hg ?_; clear hg
      cases h; exact hK
    · replace h := ofF hc h; clear hc
      obtain ⟨hg, h⟩ := ofIf h
      refine And.intro hg ?_; clear hg
      obtain ⟨hg, h⟩ := ofIf h
      refine And.intro hg ?_; clear hg
      obtain ⟨hg, h⟩ := ofIf h
      refine And.intro hg ?_; clear hg
      obtain ⟨hg, h⟩ := ofIf h
      refine And.intro hg ?_; clear hg
      cases h; exact hK
  · replace h := ofF hc h; clear hc
    cases h; exact hK
def ref02_change_S (x0 : api_Bitmap) (x1 : api_Extent) (x2 : Bool) : Option (api_Bitmap × Int) :=
  Option.bind (ref02_Check_S x0) fun v5 =>
  if v5 ≠ 0 then
    some (((api_Bitmap.mk 0 ([] : List (BitVec 64))), 3))
  else
    Option.bind (ref02_Fits_S x1 x0.Size) fun v9 =>
    if ¬ (v9 = true) then
      some (((api_Bitmap.mk 0 ([] : List (BitVec 64))), 2))
    else
      Option.bind (ref02_Copy_S x0) fun v13 =>
      loopS (ref02_change_L1_S x1 x2 v13) 100000 (v13.Words, x1.Start)
theorem ref02_change_sound (x0 : api_Bitmap) (x1 : api_Extent) (x2 : Bool) {Φ : api_Bitmap × Int → Prop} {o} (h : ref02_change_S x0 x1 x2 = some o) (hK : Φ o) : ref02_change_W x0 x1 x2 Φ := by
  unfold ref02_change_S at h
  unfold ref02_change_W
  obtain ⟨_, hv, h⟩ := ofBind h
  refine ref02_Check_sound _ hv ?_; clear hv
  refine And.intro (fun hc => ?_) (fun hc => ?_)
  · replace h := ofT hc h; clear hc
    cases h; exact hK
  · replace h := ofF hc h; clear hc
    obtain ⟨_, hv, h⟩ := ofBind h
    refine ref02_Fits_sound _ _ hv ?_; clear hv
    refine And.intro (fun hc => ?_) (fun hc => ?_)
    · replace h := ofT hc h; clear hc
      cases h; exact hK
    · replace h := ofF hc h; clear hc
      obtain ⟨_, hv, h⟩ := ofBind h
      refine ref02_Copy_sound _ hv ?_; clear hv
      exact LoopW.of_S (fun s q rec hs hq => ref02_change_L1_sound _ _ _ s hs hq) _ _ h hK
def ref02_Set_S (x0 : api_Bitmap) (x1 : api_Extent) : Option (api_Bitmap × Int) :=
  Option.bind (ref02_change_S x0 x1 true) fun v5 =>
  some ((v5.1, v5.2))
theorem ref02_Set_sound (x0 : api_Bitmap) (x1 : api_Extent) {Φ : api_Bitmap × Int → Prop} {o} (h : ref02_Set_S x0 x1 = some o) (hK : Φ o) : ref02_Set_W x0 x1 Φ := by
  unfold ref02_Set_S at h
  unfold ref02_Set_W
  obtain ⟨_, hv, h⟩ := ofBind h
  refine ref02_change_sound _ _ _ hv ?_; clear hv
  cases h; exact hK
def ref43_Mark_L2_S (x1 : List api_Write) : (List api_Bitmap × Int) → Option ((List api_Bitmap × Int) ⊕ ((List api_Bitmap × Int) ⊕ (List api_Bitmap)))
  | (v40, v47) =>
    if v47 < (x1.length : Int) then
      if inX v47 x1.length then
      if inX ((ix x1 v47).Volume) v40.length then
      Option.bind (ref02_Set_S (ix v40 ((ix x1 v47).Volume)) (api_Extent.mk ((ix x1 v47).Start) (((ix x1 v47).Data).length : Int))) fun v77 =>
      if inI (v47 + 1) then
      some (.inl ((put v40 ((ix x1 v47).Volume) v77.1), v47 + 1))
      else none
      else none
      else none
    else
      some (.inr (.inr v40))
theorem ref43_Mark_L2_sound (x1 : List api_Write) (s : List api_Bitmap × Int) {Φ : List api_Bitmap → Prop} {rec1 : (List api_Bitmap × Int) → Prop} {rec2 : (List api_Bitmap × Int) → Prop} {o} (h : ref43_Mark_L2_S x1 s = some o) (hK : (orK rec2 (orK rec1 Φ)) o) : ref43_Mark_L2 x1 Φ s rec2 := by
  obtain ⟨v40, v47⟩ := s
  unfold ref43_Mark_L2_S at h
  unfold ref43_Mark_L2
  refine And.intro (fun hc => ?_) (fun hc => ?_)
  · replace h := ofT hc h; clear hc
    obtain ⟨hg, h⟩ := ofIf h
    refine And.intro hg ?_; clear hg
    obtain ⟨hg, h⟩ := ofIf h
    refine And.intro hg ?_; clear hg
    obtain ⟨_, hv, h⟩ := ofBind h
    refine ⟨_, ref02_Set_sound _ _ hv rfl, ?_⟩; clear hv
    obtain ⟨hg, h⟩ := ofIf h
    refine And.intro hg ?_; clear hg
    cases h; exact hK
  · replace h := ofF hc h; clear hc
    cases h; exact hK
def ref43_Mark_L1_S (x0 : List api_Bitmap) (x1 : List api_Write) : (List api_Bitmap × Int) → Option ((List api_Bitmap × Int) ⊕ (List api_Bitmap))
  | (v5, v12) =>
    if v12 < (x0.length : Int) then
      if inX v12 x0.length then
      Option.bind (ref02_Copy_S (ix x0 v12)) fun v19 =>
      if lenOk (v5 ++ ([v19] : List api_Bitmap)).length 32 then
      if inI (v12 + 1) then
      some (.inl ((v5 ++ ([v19] : List api_Bitmap)), v12 + 1))
      else none
      else none
      else none
    else
      loopS (ref43_Mark_L2_S x1) 100000 (v5, 0)
theorem ref43_Mark_L1_sound (x0 : List api_Bitmap) (x1 : List api_Write) (s : List api_Bitmap × Int) {Φ : List api_Bitmap → Prop} {rec1 : (List api_Bitmap × Int) → Prop} {o} (h : ref43_Mark_L1_S x0 x1 s = some o) (hK : (orK rec1 Φ) o) : ref43_Mark_L1 x0 x1 Φ s rec1 := by
  obtain ⟨v5, v12⟩ := s
  unfold ref43_Mark_L1_S at h
  unfold ref43_Mark_L1
  refine And.intro (fun hc => ?_) (fun hc => ?_)
  · replace h := ofT hc h; clear hc
    obtain ⟨hg, h⟩ := ofIf h
    refine And.intro hg ?_; clear hg
    obtain ⟨_, hv, h⟩ := ofBind h
    refine ref02_Copy_sound _ hv ?_; clear hv
    obtain ⟨hg, h⟩ := ofIf h
    refine And.intro hg ?_; clear hg
    obtain ⟨hg, h⟩ := ofIf h
    refine And.intro hg ?_; clear hg
    cases h; exact hK
  · replace h := ofF hc h; clear hc
    exact LoopW.of_S (fun s q rec hs hq => ref43_Mark_L2_sound _ s hs hq) _ _ h hK
def ref43_Mark_S (x0 : List api_Bitmap) (x1 : List api_Write) : Option (List api_Bitmap) :=
  loopS (ref43_Mark_L1_S x0 x1) 100000 (([] : List api_Bitmap), 0)
theorem ref43_Mark_sound (x0 : List api_Bitmap) (x1 : List api_Write) {Φ : List api_Bitmap → Prop} {o} (h : ref43_Mark_S x0 x1 = some o) (hK : Φ o) : ref43_Mark_W x0 x1 Φ := by
  unfold ref43_Mark_S at h
  unfold ref43_Mark_W
  exact LoopW.of_S (fun s q rec hs hq => ref43_Mark_L1_sound _ _ s hs hq) _ _ h hK
def law47_point_S (x0 : Int) (x1 : List (List Sec)) (x2 : List api_Span) (x3 : List api_Write) : Option (api_Point) :=
  Option.bind (ref07_Apply_S x1 x3) fun v5 =>
  Option.bind (ref07_SizesOf_S x1) fun v12 =>
  Option.bind (ref43_Clean_S v12) fun v21 =>
  Option.bind (ref43_Mark_S v21 x3) fun v30 =>
  some ((api_Point.mk x0 x2 v30 v5.1))
theorem law47_point_sound (x0 : Int) (x1 : List (List Sec)) (x2 : List api_Span) (x3 : List api_Write) {Φ : api_Point → Prop} {o} (h : law47_point_S x0 x1 x2 x3 = some o) (hK : Φ o) : law47_point_W x0 x1 x2 x3 Φ := by
  unfold law47_point_S at h
  unfold law47_point_W
  obtain ⟨_, hv, h⟩ := ofBind h
  refine ref07_Apply_sound _ _ hv ?_; clear hv
  obtain ⟨_, hv, h⟩ := ofBind h
  refine ref07_SizesOf_sound _ hv ?_; clear hv
  obtain ⟨_, hv, h⟩ := ofBind h
  refine ref43_Clean_sound _ hv ?_; clear hv
  obtain ⟨_, hv, h⟩ := ofBind h
  refine ref43_Mark_sound _ _ hv ?_; clear hv
  cases h; exact hK
def delta_in_S (x0 : Int) (x1 : Int) : Option (Bool) :=
  some (decide ((x1 ≤ x0) ∧ (x0 ≤ 1073741824)))
theorem delta_in_sound (x0 : Int) (x1 : Int) {Φ : Bool → Prop} {o} (h : delta_in_S x0 x1 = some o) (hK : Φ o) : delta_in_W x0 x1 Φ := by
  unfold delta_in_S at h
  unfold delta_in_W
  cases h; exact hK
def delta_correct_L1_S (x0 : List api_Span) : (Int × Int × Int × Int) → Option ((Int × Int × Int × Int) ⊕ (Bool))
  | (v5, _, v7, v8) =>
    if v8 < (x0.length : Int) then
      if inX v8 x0.length then
      if inI (v7 + 1) then
      if ((ix x0 v8).From) ≠ (v7 + 1) then
        some (.inr false)
      else
        if ((ix x0 v8).To) < ((ix x0 v8).From) then
          some (.inr false)
        else
          if 1073741824 < ((ix x0 v8).To) then
            some (.inr false)
          else
            Option.bind (delta_in_S ((ix x0 v8).Epoch) 1) fun v30 =>
            if ¬ (v30 = true) then
              some (.inr false)
            else
              if ((ix x0 v8).Epoch) ≤ v5 then
                some (.inr false)
              else
                if inI (v8 + 1) then
                some (.inl ((ix x0 v8).Epoch, (ix x0 v8).From, (ix x0 v8).To, v8 + 1))
                else none
      else none
      else none
    else
      some (.inr true)
theorem delta_correct_L1_sound (x0 : List api_Span) (s : Int × Int × Int × Int) {Φ : Bool → Prop} {rec1 : (Int × Int × Int × Int) → Prop} {o} (h : delta_correct_L1_S x0 s = some o) (hK : (orK rec1 Φ) o) : delta_correct_L1 x0 Φ s rec1 := by
  obtain ⟨v5, v6, v7, v8⟩ := s
  unfold delta_correct_L1_S at h
  unfold delta_correct_L1
  refine And.intro (fun hc => ?_) (fun hc => ?_)
  · replace h := ofT hc h; clear hc
    obtain ⟨hg, h⟩ := ofIf h
    refine And.intro hg ?_; clear hg
    obtain ⟨hg, h⟩ := ofIf h
    refine And.intro hg ?_; clear hg
    refine And.intro (fun hc => ?_) (fun hc => ?_)
    · replace h := ofT hc h; clear hc
      cases h; exact hK
    · replace h := ofF hc h; clear hc
      refine And.intro (fun hc => ?_) (fun hc => ?_)
      · replace h := ofT hc h; clear hc
        cases h; exact hK
      · replace h := ofF hc h; clear hc
        refine And.intro (fun hc => ?_) (fun hc => ?_)
        · replace h := ofT hc h; clear hc
          cases h; exact hK
        · replace h := ofF hc h; clear hc
          obtain ⟨_, hv, h⟩ := ofBind h
          refine delta_in_sound _ _ hv ?_; clear hv
          refine And.intro (fun hc => ?_) (fun hc => ?_)
          · replace h := ofT hc h; clear hc
            cases h; exact hK
          · replace h := ofF hc h; clear hc
            refine And.intro (fun hc => ?_) (fun hc => ?_)
            · replace h := ofT hc h; clear hc
              cases h; exact hK
            · replace h := ofF hc h; clear hc
              obtain ⟨hg, h⟩ := ofIf h
              refine And.intro hg ?_; clear hg
              cases h; exact hK
  · replace h := ofF hc h; clear hc
    cases h; exact hK
def delta_correct_S (x0 : List api_Span) : Option (Bool) :=
  loopS (delta_correct_L1_S x0) 100000 (0, 0, 0, 0)
theorem delta_correct_sound (x0 : List api_Span) {Φ : Bool → Prop} {o} (h : delta_correct_S x0 = some o) (hK : Φ o) : delta_correct_W x0 Φ := by
  unfold delta_correct_S at h
  unfold delta_correct_W
  exact LoopW.of_S (fun s q rec hs hq => delta_correct_L1_sound _ s hs hq) _ _ h hK
def image_sizes_1_S (x0 : List Sec) : Option (Int) :=
  some ((x0.length : Int))
theorem image_sizes_1_sound (x0 : List Sec) {Φ : Int → Prop} {o} (h : image_sizes_1_S x0 = some o) (hK : Φ o) : image_sizes_1_W x0 Φ := by
  unfold image_sizes_1_S at h
  unfold image_sizes_1_W
  cases h; exact hK
def image_mapped_api_Sector_int__image_sizes_1_L1_S (x0 : List (List Sec)) : (List Int × Int) → Option ((List Int × Int) ⊕ (List Int))
  | (v12, v19) =>
    if v19 < (x0.length : Int) then
      if inX v19 x0.length then
      Option.bind (image_sizes_1_S (ix x0 v19)) fun v26 =>
      if lenOk (v12 ++ ([v26] : List Int)).length 8 then
      if inI (v19 + 1) then
      some (.inl ((v12 ++ ([v26] : List Int)), v19 + 1))
      else none
      else none
      else none
    else
      some (.inr v12)
theorem image_mapped_api_Sector_int__image_sizes_1_L1_sound (x0 : List (List Sec)) (s : List Int × Int) {Φ : List Int → Prop} {rec1 : (List Int × Int) → Prop} {o} (h : image_mapped_api_Sector_int__image_sizes_1_L1_S x0 s = some o) (hK : (orK rec1 Φ) o) : image_mapped_api_Sector_int__image_sizes_1_L1 x0 Φ s rec1 := by
  obtain ⟨v12, v19⟩ := s
  unfold image_mapped_api_Sector_int__image_sizes_1_L1_S at h
  unfold image_mapped_api_Sector_int__image_sizes_1_L1
  refine And.intro (fun hc => ?_) (fun hc => ?_)
  · replace h := ofT hc h; clear hc
    obtain ⟨hg, h⟩ := ofIf h
    refine And.intro hg ?_; clear hg
    obtain ⟨_, hv, h⟩ := ofBind h
    refine image_sizes_1_sound _ hv ?_; clear hv
    obtain ⟨hg, h⟩ := ofIf h
    refine And.intro hg ?_; clear hg
    obtain ⟨hg, h⟩ := ofIf h
    refine And.intro hg ?_; clear hg
    cases h; exact hK
  · replace h := ofF hc h; clear hc
    cases h; exact hK
def image_mapped_api_Sector_int__image_sizes_1_S (x0 : List (List Sec)) : Option (List Int) :=
  if 0 ≤ (x0.length : Int) then
  if lenOk (x0.length : Int).toNat 8 then
  loopS (image_mapped_api_Sector_int__image_sizes_1_L1_S x0) 100000 (([] : List Int), 0)
  else none
  else none
theorem image_mapped_api_Sector_int__image_sizes_1_sound (x0 : List (List Sec)) {Φ : List Int → Prop} {o} (h : image_mapped_api_Sector_int__image_sizes_1_S x0 = some o) (hK : Φ o) : image_mapped_api_Sector_int__image_sizes_1_W x0 Φ := by
  unfold image_mapped_api_Sector_int__image_sizes_1_S at h
  unfold image_mapped_api_Sector_int__image_sizes_1_W
  obtain ⟨hg, h⟩ := ofIf h
  refine And.intro hg ?_; clear hg
  obtain ⟨hg, h⟩ := ofIf h
  refine And.intro hg ?_; clear hg
  exact LoopW.of_S (fun s q rec hs hq => image_mapped_api_Sector_int__image_sizes_1_L1_sound _ s hs hq) _ _ h hK
def image_sizes_S (x0 : List (List Sec)) : Option (List Int) :=
  Option.bind (image_mapped_api_Sector_int__image_sizes_1_S x0) fun v2 =>
  some (v2)
theorem image_sizes_sound (x0 : List (List Sec)) {Φ : List Int → Prop} {o} (h : image_sizes_S x0 = some o) (hK : Φ o) : image_sizes_W x0 Φ := by
  unfold image_sizes_S at h
  unfold image_sizes_W
  obtain ⟨_, hv, h⟩ := ofBind h
  refine image_mapped_api_Sector_int__image_sizes_1_sound _ hv ?_; clear hv
  cases h; exact hK
def image_checkSizes_1_S (x0 : Int) : Option (Bool) :=
  some (decide ((x0 < 1) ∨ (4096 < x0)))
theorem image_checkSizes_1_sound (x0 : Int) {Φ : Bool → Prop} {o} (h : image_checkSizes_1_S x0 = some o) (hK : Φ o) : image_checkSizes_1_W x0 Φ := by
  unfold image_checkSizes_1_S at h
  unfold image_checkSizes_1_W
  cases h; exact hK
def slices_IndexFunc_int_int__image_checkSizes_1_L1_S (x0 : List Int) : (Int) → Option ((Int) ⊕ (Int))
  | (v4) =>
    if v4 < (x0.length : Int) then
      if inX v4 x0.length then
      Option.bind (image_checkSizes_1_S (ix x0 v4)) fun v10 =>
      if v10 = true then
        some (.inr v4)
      else
        if inI (v4 + 1) then
        some (.inl (v4 + 1))
        else none
      else none
    else
      some (.inr (-1))
theorem slices_IndexFunc_int_int__image_checkSizes_1_L1_sound (x0 : List Int) (s : Int) {Φ : Int → Prop} {rec1 : (Int) → Prop} {o} (h : slices_IndexFunc_int_int__image_checkSizes_1_L1_S x0 s = some o) (hK : (orK rec1 Φ) o) : slices_IndexFunc_int_int__image_checkSizes_1_L1 x0 Φ s rec1 := by
  unfold slices_IndexFunc_int_int__image_checkSizes_1_L1_S at h
  unfold slices_IndexFunc_int_int__image_checkSizes_1_L1
  refine And.intro (fun hc => ?_) (fun hc => ?_)
  · replace h := ofT hc h; clear hc
    obtain ⟨hg, h⟩ := ofIf h
    refine And.intro hg ?_; clear hg
    obtain ⟨_, hv, h⟩ := ofBind h
    refine image_checkSizes_1_sound _ hv ?_; clear hv
    refine And.intro (fun hc => ?_) (fun hc => ?_)
    · replace h := ofT hc h; clear hc
      cases h; exact hK
    · replace h := ofF hc h; clear hc
      obtain ⟨hg, h⟩ := ofIf h
      refine And.intro hg ?_; clear hg
      cases h; exact hK
  · replace h := ofF hc h; clear hc
    cases h; exact hK
def slices_IndexFunc_int_int__image_checkSizes_1_S (x0 : List Int) : Option (Int) :=
  loopS (slices_IndexFunc_int_int__image_checkSizes_1_L1_S x0) 100000 (0)
theorem slices_IndexFunc_int_int__image_checkSizes_1_sound (x0 : List Int) {Φ : Int → Prop} {o} (h : slices_IndexFunc_int_int__image_checkSizes_1_S x0 = some o) (hK : Φ o) : slices_IndexFunc_int_int__image_checkSizes_1_W x0 Φ := by
  unfold slices_IndexFunc_int_int__image_checkSizes_1_S at h
  unfold slices_IndexFunc_int_int__image_checkSizes_1_W
  exact LoopW.of_S (fun s q rec hs hq => slices_IndexFunc_int_int__image_checkSizes_1_L1_sound _ s hs hq) _ _ h hK
def slices_ContainsFunc_int_int__image_checkSizes_1_S (x0 : List Int) : Option (Bool) :=
  Option.bind (slices_IndexFunc_int_int__image_checkSizes_1_S x0) fun v2 =>
  some (decide (0 ≤ v2))
theorem slices_ContainsFunc_int_int__image_checkSizes_1_sound (x0 : List Int) {Φ : Bool → Prop} {o} (h : slices_ContainsFunc_int_int__image_checkSizes_1_S x0 = some o) (hK : Φ o) : slices_ContainsFunc_int_int__image_checkSizes_1_W x0 Φ := by
  unfold slices_ContainsFunc_int_int__image_checkSizes_1_S at h
  unfold slices_ContainsFunc_int_int__image_checkSizes_1_W
  obtain ⟨_, hv, h⟩ := ofBind h
  refine slices_IndexFunc_int_int__image_checkSizes_1_sound _ hv ?_; clear hv
  cases h; exact hK
def image_checkSizes_S (x0 : List Int) : Option (Int) :=
  if ((x0.length : Int) < 1) ∨ (8 < (x0.length : Int)) then
    some (6)
  else
    Option.bind (slices_ContainsFunc_int_int__image_checkSizes_1_S x0) fun v4 =>
    if v4 = true then
      some (2)
    else
      some (0)
theorem image_checkSizes_sound (x0 : List Int) {Φ : Int → Prop} {o} (h : image_checkSizes_S x0 = some o) (hK : Φ o) : image_checkSizes_W x0 Φ := by
  unfold image_checkSizes_S at h
  unfold image_checkSizes_W
  refine And.intro (fun hc => ?_) (fun hc => ?_)
  · replace h := ofT hc h; clear hc
    cases h; exact hK
  · replace h := ofF hc h; clear hc
    obtain ⟨_, hv, h⟩ := ofBind h
    refine slices_ContainsFunc_int_int__image_checkSizes_1_sound _ hv ?_; clear hv
    refine And.intro (fun hc => ?_) (fun hc => ?_)
    · replace h := ofT hc h; clear hc
      cases h; exact hK
    · replace h := ofF hc h; clear hc
      cases h; exact hK
def image_Check_S (x0 : List (List Sec)) : Option (Int) :=
  Option.bind (image_sizes_S x0) fun v2 =>
  Option.bind (image_checkSizes_S v2) fun v11 =>
  some (v11)
theorem image_Check_sound (x0 : List (List Sec)) {Φ : Int → Prop} {o} (h : image_Check_S x0 = some o) (hK : Φ o) : image_Check_W x0 Φ := by
  unfold image_Check_S at h
  unfold image_Check_W
  obtain ⟨_, hv, h⟩ := ofBind h
  refine image_sizes_sound _ hv ?_; clear hv
  obtain ⟨_, hv, h⟩ := ofBind h
  refine image_checkSizes_sound _ hv ?_; clear hv
  cases h; exact hK
def bitmap_words_S (x0 : Int) : Option (Int) :=
  if inI (x0 + 64) then
  if inI ((x0 + 64) - 1) then
  if 0 ≤ ((x0 + 64) - 1) ∧ inI ((x0 + 64) - 1) then
  some (((x0 + 64) - 1) / 64)
  else none
  else none
  else none
theorem bitmap_words_sound (x0 : Int) {Φ : Int → Prop} {o} (h : bitmap_words_S x0 = some o) (hK : Φ o) : bitmap_words_W x0 Φ := by
  unfold bitmap_words_S at h
  unfold bitmap_words_W
  obtain ⟨hg, h⟩ := ofIf h
  refine And.intro hg ?_; clear hg
  obtain ⟨hg, h⟩ := ofIf h
  refine And.intro hg ?_; clear hg
  obtain ⟨hg, h⟩ := ofIf h
  refine And.intro hg ?_; clear hg
  cases h; exact hK
def bitmap_Check_J1_S (x0 : api_Bitmap) : Option (Int) :=
  if 0 ≤ x0.Size then
  Option.bind (
    if 0 < (x0.Size % 64) then
      if inI ((x0.Words.length : Int) - 1) then
      if inX ((x0.Words.length : Int) - 1) x0.Words.length then
      if 0 ≤ (x0.Size % 64) then some () else none
      else none
      else none
    else some () : Option Unit) fun _ =>
  if (0 < (x0.Size % 64)) ∧ (((ix x0.Words ((x0.Words.length : Int) - 1)) >>> (x0.Size % 64 : Int).toNat) ≠ (0#64)) then
    some (3)
  else
    some (0)
  else none
theorem bitmap_Check_J1_sound (x0 : api_Bitmap) {Φ : Int → Prop} {o} (h : bitmap_Check_J1_S x0 = some o) (hK : Φ o) : bitmap_Check_J1 x0 Φ := by
  unfold bitmap_Check_J1_S at h
  unfold bitmap_Check_J1
  obtain ⟨hg, h⟩ := ofIf h
  refine And.intro hg ?_; clear hg
  obtain ⟨_, h1, h⟩ := ofBind h
  refine And.intro ?_ ?_
  · replace h := h1; clear h1; have hK := True.intro
    intro hc; replace h := ofT hc h; clear hc
    obtain ⟨hg, h⟩ := ofIf h
    refine And.intro hg ?_; clear hg
    obtain ⟨hg, h⟩ := ofIf h
    refine And.intro hg ?_; clear hg
    exact (ofIf h).1
  · clear h1
    refine And.intro (fun hc => ?_) (fun hc => ?_)
    · replace h := ofT hc h; clear hc
      cases h; exact hK
    · replace h := ofF hc h; clear hc
      cases h; exact hK
def bitmap_Check_S (x0 : api_Bitmap) : Option (Int) :=
  if x0.Size < 0 then
    some (3)
  else
    if 4096 < x0.Size then
      some (3)
    else
      Option.bind (bitmap_words_S x0.Size) fun v19 =>
      if (x0.Words.length : Int) ≠ v19 then
        some (3)
      else
        bitmap_Check_J1_S x0
theorem bitmap_Check_sound (x0 : api_Bitmap) {Φ : Int → Prop} {o} (h : bitmap_Check_S x0 = some o) (hK : Φ o) : bitmap_Check_W x0 Φ := by
  unfold bitmap_Check_S at h
  unfold bitmap_Check_W
  refine And.intro (fun hc => ?_) (fun hc => ?_)
  · replace h := ofT hc h; clear hc
    cases h; exact hK
  · replace h := ofF hc h; clear hc
    refine And.intro (fun hc => ?_) (fun hc => ?_)
    · replace h := ofT hc h; clear hc
      cases h; exact hK
    · replace h := ofF hc h; clear hc
      obtain ⟨_, hv, h⟩ := ofBind h
      refine ⟨_, bitmap_words_sound _ hv rfl, ?_⟩; clear hv
      refine And.intro (fun hc => ?_) (fun hc => ?_)
      · replace h := ofT hc h; clear hc
        cases h; exact hK
      · replace h := ofF hc h; clear hc
        exact bitmap_Check_J1_sound _ h hK
def delta_Check_L1_S (x0 : api_Point) : (Int) → Option ((Int) ⊕ (Int))
  | (v20) =>
    if v20 < (x0.Dirty.length : Int) then
      if inX v20 x0.Dirty.length then
      Option.bind (bitmap_Check_S (ix x0.Dirty v20)) fun v28 =>
      if v28 ≠ 0 then
        some (.inr v28)
      else
        if inX v20 x0.Image.length then
        if ((ix x0.Dirty v20).Size) ≠ ((ix x0.Image v20).length : Int) then
          some (.inr 22)
        else
          if inI (v20 + 1) then
          some (.inl (v20 + 1))
          else none
        else none
      else none
    else
      some (.inr 0)
theorem delta_Check_L1_sound (x0 : api_Point) (s : Int) {Φ : Int → Prop} {rec1 : (Int) → Prop} {o} (h : delta_Check_L1_S x0 s = some o) (hK : (orK rec1 Φ) o) : delta_Check_L1 x0 Φ s rec1 := by
  unfold delta_Check_L1_S at h
  unfold delta_Check_L1
  refine And.intro (fun hc => ?_) (fun hc => ?_)
  · replace h := ofT hc h; clear hc
    obtain ⟨hg, h⟩ := ofIf h
    refine And.intro hg ?_; clear hg
    obtain ⟨_, hv, h⟩ := ofBind h
    refine bitmap_Check_sound _ hv ?_; clear hv
    refine And.intro (fun hc => ?_) (fun hc => ?_)
    · replace h := ofT hc h; clear hc
      cases h; exact hK
    · replace h := ofF hc h; clear hc
      obtain ⟨hg, h⟩ := ofIf h
      refine And.intro hg ?_; clear hg
      refine And.intro (fun hc => ?_) (fun hc => ?_)
      · replace h := ofT hc h; clear hc
        cases h; exact hK
      · replace h := ofF hc h; clear hc
        obtain ⟨hg, h⟩ := ofIf h
        refine And.intro hg ?_; clear hg
        cases h; exact hK
  · replace h := ofF hc h; clear hc
    cases h; exact hK
def delta_Check_S (x0 : api_Point) : Option (Int) :=
  Option.bind (delta_in_S x0.Site 0) fun v5 =>
  if ¬ (v5 = true) then
    some (2)
  else
    Option.bind (delta_correct_S x0.Lineage) fun v9 =>
    if ¬ (v9 = true) then
      some (3)
    else
      Option.bind (image_Check_S x0.Image) fun v13 =>
      if v13 ≠ 0 then
        some (v13)
      else
        if (x0.Dirty.length : Int) ≠ (x0.Image.length : Int) then
          some (6)
        else
          loopS (delta_Check_L1_S x0) 100000 (0)
theorem delta_Check_sound (x0 : api_Point) {Φ : Int → Prop} {o} (h : delta_Check_S x0 = some o) (hK : Φ o) : delta_Check_W x0 Φ := by
  unfold delta_Check_S at h
  unfold delta_Check_W
  obtain ⟨_, hv, h⟩ := ofBind h
  refine delta_in_sound _ _ hv ?_; clear hv
  refine And.intro (fun hc => ?_) (fun hc => ?_)
  · replace h := ofT hc h; clear hc
    cases h; exact hK
  · replace h := ofF hc h; clear hc
    obtain ⟨_, hv, h⟩ := ofBind h
    refine delta_correct_sound _ hv ?_; clear hv
    refine And.intro (fun hc => ?_) (fun hc => ?_)
    · replace h := ofT hc h; clear hc
      cases h; exact hK
    · replace h := ofF hc h; clear hc
      obtain ⟨_, hv, h⟩ := ofBind h
      refine image_Check_sound _ hv ?_; clear hv
      refine And.intro (fun hc => ?_) (fun hc => ?_)
      · replace h := ofT hc h; clear hc
        cases h; exact hK
      · replace h := ofF hc h; clear hc
        refine And.intro (fun hc => ?_) (fun hc => ?_)
        · replace h := ofT hc h; clear hc
          cases h; exact hK
        · replace h := ofF hc h; clear hc
          exact LoopW.of_S (fun s q rec hs hq => delta_Check_L1_sound _ s hs hq) _ _ h hK
def reverse_last_S (x0 : List api_Span) : Option (Int) :=
  if (x0.length : Int) = 0 then
    some (0)
  else
    if inI ((x0.length : Int) - 1) then
    if inX ((x0.length : Int) - 1) x0.length then
    some ((ix x0 ((x0.length : Int) - 1)).To)
    else none
    else none
theorem reverse_last_sound (x0 : List api_Span) {Φ : Int → Prop} {o} (h : reverse_last_S x0 = some o) (hK : Φ o) : reverse_last_W x0 Φ := by
  unfold reverse_last_S at h
  unfold reverse_last_W
  refine And.intro (fun hc => ?_) (fun hc => ?_)
  · replace h := ofT hc h; clear hc
    cases h; exact hK
  · replace h := ofF hc h; clear hc
    obtain ⟨hg, h⟩ := ofIf h
    refine And.intro hg ?_; clear hg
    obtain ⟨hg, h⟩ := ofIf h
    refine And.intro hg ?_; clear hg
    cases h; exact hK
def reverse_Undo_1_S (_ : Int) (x1 : api_Bitmap) : Option (List api_Extent) :=
  Option.bind (bitmap_Extents_S x1) fun v3 =>
  some (v3)
theorem reverse_Undo_1_sound (x0 : Int) (x1 : api_Bitmap) {Φ : List api_Extent → Prop} {o} (h : reverse_Undo_1_S x0 x1 = some o) (hK : Φ o) : reverse_Undo_1_W x0 x1 Φ := by
  unfold reverse_Undo_1_S at h
  unfold reverse_Undo_1_W
  obtain ⟨_, hv, h⟩ := ofBind h
  refine bitmap_Extents_sound _ hv ?_; clear hv
  cases h; exact hK
def reverse_volumes_api_Extent__reverse_Undo_1_L1_S (x0 : List api_Bitmap) : (List (List api_Extent) × Int) → Option ((List (List api_Extent) × Int) ⊕ (List (List api_Extent)))
  | (v4, v11) =>
    if v11 < (x0.length : Int) then
      if inX v11 x0.length then
      Option.bind (reverse_Undo_1_S v11 (ix x0 v11)) fun v19 =>
      if lenOk (v4 ++ ([v19] : List (List api_Extent))).length 24 then
      if inI (v11 + 1) then
      some (.inl ((v4 ++ ([v19] : List (List api_Extent))), v11 + 1))
      else none
      else none
      else none
    else
      some (.inr v4)
theorem reverse_volumes_api_Extent__reverse_Undo_1_L1_sound (x0 : List api_Bitmap) (s : List (List api_Extent) × Int) {Φ : List (List api_Extent) → Prop} {rec1 : (List (List api_Extent) × Int) → Prop} {o} (h : reverse_volumes_api_Extent__reverse_Undo_1_L1_S x0 s = some o) (hK : (orK rec1 Φ) o) : reverse_volumes_api_Extent__reverse_Undo_1_L1 x0 Φ s rec1 := by
  obtain ⟨v4, v11⟩ := s
  unfold reverse_volumes_api_Extent__reverse_Undo_1_L1_S at h
  unfold reverse_volumes_api_Extent__reverse_Undo_1_L1
  refine And.intro (fun hc => ?_) (fun hc => ?_)
  · replace h := ofT hc h; clear hc
    obtain ⟨hg, h⟩ := ofIf h
    refine And.intro hg ?_; clear hg
    obtain ⟨_, hv, h⟩ := ofBind h
    refine reverse_Undo_1_sound _ _ hv ?_; clear hv
    obtain ⟨hg, h⟩ := ofIf h
    refine And.intro hg ?_; clear hg
    obtain ⟨hg, h⟩ := ofIf h
    refine And.intro hg ?_; clear hg
    cases h; exact hK
  · replace h := ofF hc h; clear hc
    cases h; exact hK
def reverse_volumes_api_Extent__reverse_Undo_1_S (x0 : List api_Bitmap) : Option (List (List api_Extent)) :=
  loopS (reverse_volumes_api_Extent__reverse_Undo_1_L1_S x0) 100000 (([] : List (List api_Extent)), 0)
theorem reverse_volumes_api_Extent__reverse_Undo_1_sound (x0 : List api_Bitmap) {Φ : List (List api_Extent) → Prop} {o} (h : reverse_volumes_api_Extent__reverse_Undo_1_S x0 = some o) (hK : Φ o) : reverse_volumes_api_Extent__reverse_Undo_1_W x0 Φ := by
  unfold reverse_volumes_api_Extent__reverse_Undo_1_S at h
  unfold reverse_volumes_api_Extent__reverse_Undo_1_W
  exact LoopW.of_S (fun s q rec hs hq => reverse_volumes_api_Extent__reverse_Undo_1_L1_sound _ s hs hq) _ _ h hK
def reverse_Undo_S (x0 : api_Point) (x1 : Int) : Option (List (List api_Extent) × Int) :=
  Option.bind (delta_Check_S x0) fun v5 =>
  if v5 ≠ 0 then
    some ((([] : List (List api_Extent)), v5))
  else
    if x1 < 0 then
      some ((([] : List (List api_Extent)), 2))
    else
      Option.bind (reverse_last_S x0.Lineage) fun v28 =>
      if v28 < x1 then
        some ((([] : List (List api_Extent)), 2))
      else
        Option.bind (reverse_volumes_api_Extent__reverse_Undo_1_S x0.Dirty) fun v32 =>
        some ((v32, 0))
theorem reverse_Undo_sound (x0 : api_Point) (x1 : Int) {Φ : List (List api_Extent) × Int → Prop} {o} (h : reverse_Undo_S x0 x1 = some o) (hK : Φ o) : reverse_Undo_W x0 x1 Φ := by
  unfold reverse_Undo_S at h
  unfold reverse_Undo_W
  obtain ⟨_, hv, h⟩ := ofBind h
  refine delta_Check_sound _ hv ?_; clear hv
  refine And.intro (fun hc => ?_) (fun hc => ?_)
  · replace h := ofT hc h; clear hc
    cases h; exact hK
  · replace h := ofF hc h; clear hc
    refine And.intro (fun hc => ?_) (fun hc => ?_)
    · replace h := ofT hc h; clear hc
      cases h; exact hK
    · replace h := ofF hc h; clear hc
      obtain ⟨_, hv, h⟩ := ofBind h
      refine reverse_last_sound _ hv ?_; clear hv
      refine And.intro (fun hc => ?_) (fun hc => ?_)
      · replace h := ofT hc h; clear hc
        cases h; exact hK
      · replace h := ofF hc h; clear hc
        obtain ⟨_, hv, h⟩ := ofBind h
        refine reverse_volumes_api_Extent__reverse_Undo_1_sound _ hv ?_; clear hv
        cases h; exact hK
def delta_alike_1_S (x0 : List Sec) (x1 : List Sec) : Option (Bool) :=
  some (decide ((x0.length : Int) = (x1.length : Int)))
theorem delta_alike_1_sound (x0 : List Sec) (x1 : List Sec) {Φ : Bool → Prop} {o} (h : delta_alike_1_S x0 x1 = some o) (hK : Φ o) : delta_alike_1_W x0 x1 Φ := by
  unfold delta_alike_1_S at h
  unfold delta_alike_1_W
  cases h; exact hK
def slices_EqualFunc_api_Image_api_Image_api_Sector_api_Sector__delta_alike_1_L1_S (x0 : List (List Sec)) (x1 : List (List Sec)) : (Int) → Option ((Int) ⊕ (Bool))
  | (v6) =>
    if v6 < (x0.length : Int) then
      if inX v6 x0.length then
      if inX v6 x1.length then
      Option.bind (delta_alike_1_S (ix x0 v6) (ix x1 v6)) fun v16 =>
      if ¬ (v16 = true) then
        some (.inr false)
      else
        if inI (v6 + 1) then
        some (.inl (v6 + 1))
        else none
      else none
      else none
    else
      some (.inr true)
theorem slices_EqualFunc_api_Image_api_Image_api_Sector_api_Sector__delta_alike_1_L1_sound (x0 : List (List Sec)) (x1 : List (List Sec)) (s : Int) {Φ : Bool → Prop} {rec1 : (Int) → Prop} {o} (h : slices_EqualFunc_api_Image_api_Image_api_Sector_api_Sector__delta_alike_1_L1_S x0 x1 s = some o) (hK : (orK rec1 Φ) o) : slices_EqualFunc_api_Image_api_Image_api_Sector_api_Sector__delta_alike_1_L1 x0 x1 Φ s rec1 := by
  unfold slices_EqualFunc_api_Image_api_Image_api_Sector_api_Sector__delta_alike_1_L1_S at h
  unfold slices_EqualFunc_api_Image_api_Image_api_Sector_api_Sector__delta_alike_1_L1
  refine And.intro (fun hc => ?_) (fun hc => ?_)
  · replace h := ofT hc h; clear hc
    obtain ⟨hg, h⟩ := ofIf h
    refine And.intro hg ?_; clear hg
    obtain ⟨hg, h⟩ := ofIf h
    refine And.intro hg ?_; clear hg
    obtain ⟨_, hv, h⟩ := ofBind h
    refine delta_alike_1_sound _ _ hv ?_; clear hv
    refine And.intro (fun hc => ?_) (fun hc => ?_)
    · replace h := ofT hc h; clear hc
      cases h; exact hK
    · replace h := ofF hc h; clear hc
      obtain ⟨hg, h⟩ := ofIf h
      refine And.intro hg ?_; clear hg
      cases h; exact hK
  · replace h := ofF hc h; clear hc
    cases h; exact hK
def slices_EqualFunc_api_Image_api_Image_api_Sector_api_Sector__delta_alike_1_S (x0 : List (List Sec)) (x1 : List (List Sec)) : Option (Bool) :=
  if (x0.length : Int) ≠ (x1.length : Int) then
    some (false)
  else
    loopS (slices_EqualFunc_api_Image_api_Image_api_Sector_api_Sector__delta_alike_1_L1_S x0 x1) 100000 (0)
theorem slices_EqualFunc_api_Image_api_Image_api_Sector_api_Sector__delta_alike_1_sound (x0 : List (List Sec)) (x1 : List (List Sec)) {Φ : Bool → Prop} {o} (h : slices_EqualFunc_api_Image_api_Image_api_Sector_api_Sector__delta_alike_1_S x0 x1 = some o) (hK : Φ o) : slices_EqualFunc_api_Image_api_Image_api_Sector_api_Sector__delta_alike_1_W x0 x1 Φ := by
  unfold slices_EqualFunc_api_Image_api_Image_api_Sector_api_Sector__delta_alike_1_S at h
  unfold slices_EqualFunc_api_Image_api_Image_api_Sector_api_Sector__delta_alike_1_W
  refine And.intro (fun hc => ?_) (fun hc => ?_)
  · replace h := ofT hc h; clear hc
    cases h; exact hK
  · replace h := ofF hc h; clear hc
    exact LoopW.of_S (fun s q rec hs hq => slices_EqualFunc_api_Image_api_Image_api_Sector_api_Sector__delta_alike_1_L1_sound _ _ s hs hq) _ _ h hK
def delta_alike_S (x0 : List (List Sec)) (x1 : List (List Sec)) : Option (Bool) :=
  Option.bind (slices_EqualFunc_api_Image_api_Image_api_Sector_api_Sector__delta_alike_1_S x0 x1) fun v3 =>
  some (v3)
theorem delta_alike_sound (x0 : List (List Sec)) (x1 : List (List Sec)) {Φ : Bool → Prop} {o} (h : delta_alike_S x0 x1 = some o) (hK : Φ o) : delta_alike_W x0 x1 Φ := by
  unfold delta_alike_S at h
  unfold delta_alike_W
  obtain ⟨_, hv, h⟩ := ofBind h
  refine slices_EqualFunc_api_Image_api_Image_api_Sector_api_Sector__delta_alike_1_sound _ _ hv ?_; clear hv
  cases h; exact hK
def bitmap_Or_1_S (x0 : BitVec 64) (x1 : BitVec 64) : Option (BitVec 64) :=
  some (x0 ||| x1)
theorem bitmap_Or_1_sound (x0 : BitVec 64) (x1 : BitVec 64) {Φ : BitVec 64 → Prop} {o} (h : bitmap_Or_1_S x0 x1 = some o) (hK : Φ o) : bitmap_Or_1_W x0 x1 Φ := by
  unfold bitmap_Or_1_S at h
  unfold bitmap_Or_1_W
  cases h; exact hK
def bitmap_both__bitmap_Or_1_L1_S (x0 : api_Bitmap) (x1 : api_Bitmap) : (List (BitVec 64) × Int) → Option ((List (BitVec 64) × Int) ⊕ (api_Bitmap × Int))
  | (v25, v32) =>
    if v32 < ((List.replicate (x0.Words.length : Int).toNat (0#64)).length : Int) then
      if inX v32 x0.Words.length then
      if inX v32 x1.Words.length then
      Option.bind (bitmap_Or_1_S (ix x0.Words v32) (ix x1.Words v32)) fun v40 =>
      if inX v32 v25.length then
      if inI (v32 + 1) then
      some (.inl ((put v25 v32 v40), v32 + 1))
      else none
      else none
      else none
      else none
    else
      some (.inr ((api_Bitmap.mk x0.Size v25), 0))
theorem bitmap_both__bitmap_Or_1_L1_sound (x0 : api_Bitmap) (x1 : api_Bitmap) (s : List (BitVec 64) × Int) {Φ : api_Bitmap × Int → Prop} {rec1 : (List (BitVec 64) × Int) → Prop} {o} (h : bitmap_both__bitmap_Or_1_L1_S x0 x1 s = some o) (hK : (orK rec1 Φ) o) : bitmap_both__bitmap_Or_1_L1 x0 x1 Φ s rec1 := by
  obtain ⟨v25, v32⟩ := s
  unfold bitmap_both__bitmap_Or_1_L1_S at h
  unfold bitmap_both__bitmap_Or_1_L1
  refine And.intro (fun hc => ?_) (fun hc => ?_)
  · replace h := ofT hc h; clear hc
    obtain ⟨hg, h⟩ := ofIf h
    refine And.intro hg ?_; clear hg
    obtain ⟨hg, h⟩ := ofIf h
    refine And.intro hg ?_; clear hg
    obtain ⟨_, hv, h⟩ := ofBind h
    refine ⟨_, bitmap_Or_1_sound _ _ hv rfl, ?_⟩; clear hv
    obtain ⟨hg, h⟩ := ofIf h
    refine And.intro hg ?_; clear hg
    obtain ⟨hg, h⟩ := ofIf h
    refine And.intro hg ?_; clear hg
    cases h; exact hK
  · replace h := ofF hc h; clear hc
    cases h; exact hK
def bitmap_both__bitmap_Or_1_S (x0 : api_Bitmap) (x1 : api_Bitmap) : Option (api_Bitmap × Int) :=
  Option.bind (bitmap_Check_S x0) fun v6 =>
  if v6 ≠ 0 then
    some (((api_Bitmap.mk 0 ([] : List (BitVec 64))), v6))
  else
    Option.bind (bitmap_Check_S x1) fun v10 =>
    if v10 ≠ 0 then
      some (((api_Bitmap.mk 0 ([] : List (BitVec 64))), v10))
    else
      if x0.Size ≠ x1.Size then
        some (((api_Bitmap.mk 0 ([] : List (BitVec 64))), 22))
      else
        if 0 ≤ (x0.Words.length : Int) then
        if lenOk (x0.Words.length : Int).toNat 8 then
        loopS (bitmap_both__bitmap_Or_1_L1_S x0 x1) 100000 ((List.replicate (x0.Words.length : Int).toNat (0#64)), 0)
        else none
        else none
theorem bitmap_both__bitmap_Or_1_sound (x0 : api_Bitmap) (x1 : api_Bitmap) {Φ : api_Bitmap × Int → Prop} {o} (h : bitmap_both__bitmap_Or_1_S x0 x1 = some o) (hK : Φ o) : bitmap_both__bitmap_Or_1_W x0 x1 Φ := by
  unfold bitmap_both__bitmap_Or_1_S at h
  unfold bitmap_both__bitmap_Or_1_W
  obtain ⟨_, hv, h⟩ := ofBind h
  refine bitmap_Check_sound _ hv ?_; clear hv
  refine And.intro (fun hc => ?_) (fun hc => ?_)
  · replace h := ofT hc h; clear hc
    cases h; exact hK
  · replace h := ofF hc h; clear hc
    obtain ⟨_, hv, h⟩ := ofBind h
    refine bitmap_Check_sound _ hv ?_; clear hv
    refine And.intro (fun hc => ?_) (fun hc => ?_)
    · replace h := ofT hc h; clear hc
      cases h; exact hK
    · replace h := ofF hc h; clear hc
      refine And.intro (fun hc => ?_) (fun hc => ?_)
      · replace h := ofT hc h; clear hc
        cases h; exact hK
      · replace h := ofF hc h; clear hc
        obtain ⟨hg, h⟩ := ofIf h
        refine And.intro hg ?_; clear hg
        obtain ⟨hg, h⟩ := ofIf h
        refine And.intro hg ?_; clear hg
        exact LoopW.of_S (fun s q rec hs hq => bitmap_both__bitmap_Or_1_L1_sound _ _ s hs hq) _ _ h hK
def bitmap_Or_S (x0 : api_Bitmap) (x1 : api_Bitmap) : Option (api_Bitmap × Int) :=
  Option.bind (bitmap_both__bitmap_Or_1_S x0 x1) fun v6 =>
  some ((v6.1, v6.2))
theorem bitmap_Or_sound (x0 : api_Bitmap) (x1 : api_Bitmap) {Φ : api_Bitmap × Int → Prop} {o} (h : bitmap_Or_S x0 x1 = some o) (hK : Φ o) : bitmap_Or_W x0 x1 Φ := by
  unfold bitmap_Or_S at h
  unfold bitmap_Or_W
  obtain ⟨_, hv, h⟩ := ofBind h
  refine bitmap_both__bitmap_Or_1_sound _ _ hv ?_; clear hv
  cases h; exact hK
def delta_marked_L1_S (x0 : api_Point) (x1 : api_Point) : (List (List api_Extent) × Int) → Option ((List (List api_Extent) × Int) ⊕ (List (List api_Extent)))
  | (v19, v26) =>
    if v26 < ((List.replicate (x0.Dirty.length : Int).toNat ([] : List api_Extent)).length : Int) then
      if inX v26 x0.Dirty.length then
      if inX v26 x1.Dirty.length then
      Option.bind (bitmap_Or_S (ix x0.Dirty v26) (ix x1.Dirty v26)) fun v36 =>
      Option.bind (bitmap_Extents_S v36.1) fun v100 =>
      if inX v26 v19.length then
      if inI (v26 + 1) then
      some (.inl ((put v19 v26 v100), v26 + 1))
      else none
      else none
      else none
      else none
    else
      some (.inr v19)
theorem delta_marked_L1_sound (x0 : api_Point) (x1 : api_Point) (s : List (List api_Extent) × Int) {Φ : List (List api_Extent) → Prop} {rec1 : (List (List api_Extent) × Int) → Prop} {o} (h : delta_marked_L1_S x0 x1 s = some o) (hK : (orK rec1 Φ) o) : delta_marked_L1 x0 x1 Φ s rec1 := by
  obtain ⟨v19, v26⟩ := s
  unfold delta_marked_L1_S at h
  unfold delta_marked_L1
  refine And.intro (fun hc => ?_) (fun hc => ?_)
  · replace h := ofT hc h; clear hc
    obtain ⟨hg, h⟩ := ofIf h
    refine And.intro hg ?_; clear hg
    obtain ⟨hg, h⟩ := ofIf h
    refine And.intro hg ?_; clear hg
    obtain ⟨_, hv, h⟩ := ofBind h
    refine ⟨_, bitmap_Or_sound _ _ hv rfl, ?_⟩; clear hv
    obtain ⟨_, hv, h⟩ := ofBind h
    refine bitmap_Extents_sound _ hv ?_; clear hv
    obtain ⟨hg, h⟩ := ofIf h
    refine And.intro hg ?_; clear hg
    obtain ⟨hg, h⟩ := ofIf h
    refine And.intro hg ?_; clear hg
    cases h; exact hK
  · replace h := ofF hc h; clear hc
    cases h; exact hK
def delta_marked_S (x0 : api_Point) (x1 : api_Point) : Option (List (List api_Extent)) :=
  if 0 ≤ (x0.Dirty.length : Int) then
  if lenOk (x0.Dirty.length : Int).toNat 24 then
  loopS (delta_marked_L1_S x0 x1) 100000 ((List.replicate (x0.Dirty.length : Int).toNat ([] : List api_Extent)), 0)
  else none
  else none
theorem delta_marked_sound (x0 : api_Point) (x1 : api_Point) {Φ : List (List api_Extent) → Prop} {o} (h : delta_marked_S x0 x1 = some o) (hK : Φ o) : delta_marked_W x0 x1 Φ := by
  unfold delta_marked_S at h
  unfold delta_marked_W
  obtain ⟨hg, h⟩ := ofIf h
  refine And.intro hg ?_; clear hg
  obtain ⟨hg, h⟩ := ofIf h
  refine And.intro hg ?_; clear hg
  exact LoopW.of_S (fun s q rec hs hq => delta_marked_L1_sound _ _ s hs hq) _ _ h hK
def delta_Between_L1_S (x0 : api_Point) (x1 : api_Point) : (Int) → Option ((Int) ⊕ (List (List api_Extent) × Int))
  | (v13) =>
    if v13 < (([x0, x1] : List api_Point).length : Int) then
      if inX v13 ([x0, x1] : List api_Point).length then
      Option.bind (delta_Check_S (ix ([x0, x1] : List api_Point) v13)) fun v23 =>
      if v23 ≠ 0 then
        some (.inr (([] : List (List api_Extent)), v23))
      else
        if inI (v13 + 1) then
        some (.inl (v13 + 1))
        else none
      else none
    else
      Option.bind (delta_alike_S x0.Image x1.Image) fun v28 =>
      if ¬ (v28 = true) then
        some (.inr (([] : List (List api_Extent)), 22))
      else
        Option.bind (delta_marked_S x0 x1) fun v32 =>
        some (.inr (v32, 0))
theorem delta_Between_L1_sound (x0 : api_Point) (x1 : api_Point) (s : Int) {Φ : List (List api_Extent) × Int → Prop} {rec1 : (Int) → Prop} {o} (h : delta_Between_L1_S x0 x1 s = some o) (hK : (orK rec1 Φ) o) : delta_Between_L1 x0 x1 Φ s rec1 := by
  unfold delta_Between_L1_S at h
  unfold delta_Between_L1
  refine And.intro (fun hc => ?_) (fun hc => ?_)
  · replace h := ofT hc h; clear hc
    obtain ⟨hg, h⟩ := ofIf h
    refine And.intro hg ?_; clear hg
    obtain ⟨_, hv, h⟩ := ofBind h
    refine delta_Check_sound _ hv ?_; clear hv
    refine And.intro (fun hc => ?_) (fun hc => ?_)
    · replace h := ofT hc h; clear hc
      cases h; exact hK
    · replace h := ofF hc h; clear hc
      obtain ⟨hg, h⟩ := ofIf h
      refine And.intro hg ?_; clear hg
      cases h; exact hK
  · replace h := ofF hc h; clear hc
    obtain ⟨_, hv, h⟩ := ofBind h
    refine delta_alike_sound _ _ hv ?_; clear hv
    refine And.intro (fun hc => ?_) (fun hc => ?_)
    · replace h := ofT hc h; clear hc
      cases h; exact hK
    · replace h := ofF hc h; clear hc
      obtain ⟨_, hv, h⟩ := ofBind h
      refine delta_marked_sound _ _ hv ?_; clear hv
      cases h; exact hK
def delta_Between_S (x0 : api_Point) (x1 : api_Point) : Option (List (List api_Extent) × Int) :=
  loopS (delta_Between_L1_S x0 x1) 100000 (0)
theorem delta_Between_sound (x0 : api_Point) (x1 : api_Point) {Φ : List (List api_Extent) × Int → Prop} {o} (h : delta_Between_S x0 x1 = some o) (hK : Φ o) : delta_Between_W x0 x1 Φ := by
  unfold delta_Between_S at h
  unfold delta_Between_W
  exact LoopW.of_S (fun s q rec hs hq => delta_Between_L1_sound _ _ s hs hq) _ _ h hK
def reverse_Extents_S (x0 : api_Point) (x1 : api_Point) : Option (List (List api_Extent) × Int) :=
  Option.bind (delta_Between_S x0 x1) fun v9 =>
  some ((v9.1, v9.2))
theorem reverse_Extents_sound (x0 : api_Point) (x1 : api_Point) {Φ : List (List api_Extent) × Int → Prop} {o} (h : reverse_Extents_S x0 x1 = some o) (hK : Φ o) : reverse_Extents_W x0 x1 Φ := by
  unfold reverse_Extents_S at h
  unfold reverse_Extents_W
  obtain ⟨_, hv, h⟩ := ofBind h
  refine delta_Between_sound _ _ hv ?_; clear hv
  cases h; exact hK
def delta_Ancestor_L3_S (x0 : List api_Span) (x1 : List api_Span) : (Int × Int × Int) → Option ((Int × Int × Int) ⊕ (Int × Int))
  | (v11, v12, v13) =>
    Option.bind (
      if v13 < (if (x1.length : Int) < (x0.length : Int) then (x1.length : Int) else (x0.length : Int)) then
        if inX v13 x0.length then
        if inX v13 x1.length then some () else none
        else none
      else some () : Option Unit) fun _ =>
    if (v13 < (if (x1.length : Int) < (x0.length : Int) then (x1.length : Int) else (x0.length : Int))) ∧ (((ix x0 v13).Epoch) = ((ix x1 v13).Epoch)) then
      if inX v13 x0.length then
      if inX v13 x1.length then
      if ((ix x0 v13).To) ≠ ((ix x1 v13).To) then
        some (.inr (if ((ix x1 v13).To) < ((ix x0 v13).To) then ((ix x1 v13).To) else ((ix x0 v13).To), (ix x0 v13).Epoch))
      else
        if inI (v13 + 1) then
        some (.inl (if ((ix x1 v13).To) < ((ix x0 v13).To) then ((ix x1 v13).To) else ((ix x0 v13).To), (ix x0 v13).Epoch, v13 + 1))
        else none
      else none
      else none
    else
      some (.inr (v11, v12))
theorem delta_Ancestor_L3_sound (x0 : List api_Span) (x1 : List api_Span) (s : Int × Int × Int) {Φ : Int × Int → Prop} {rec3 : (Int × Int × Int) → Prop} {o} (h : delta_Ancestor_L3_S x0 x1 s = some o) (hK : (orK rec3 Φ) o) : delta_Ancestor_L3 x0 x1 Φ s rec3 := by
  obtain ⟨v11, v12, v13⟩ := s
  unfold delta_Ancestor_L3_S at h
  unfold delta_Ancestor_L3
  obtain ⟨_, h1, h⟩ := ofBind h
  refine And.intro ?_ ?_
  · replace h := h1; clear h1; have hK := True.intro
    intro hc; replace h := ofT hc h; clear hc
    obtain ⟨hg, h⟩ := ofIf h
    refine And.intro hg ?_; clear hg
    exact (ofIf h).1
  · clear h1
    refine And.intro (fun hc => ?_) (fun hc => ?_)
    · replace h := ofT hc h; clear hc
      obtain ⟨hg, h⟩ := ofIf h
      refine And.intro hg ?_; clear hg
      obtain ⟨hg, h⟩ := ofIf h
      refine And.intro hg ?_; clear hg
      refine And.intro (fun hc => ?_) (fun hc => ?_)
      · replace h := ofT hc h; clear hc
        cases h; exact hK
      · replace h := ofF hc h; clear hc
        obtain ⟨hg, h⟩ := ofIf h
        refine And.intro hg ?_; clear hg
        cases h; exact hK
    · replace h := ofF hc h; clear hc
      cases h; exact hK
def delta_Ancestor_J1_S (x0 : List api_Span) (x1 : List api_Span) : Option (Int × Int) :=
  loopS (delta_Ancestor_L3_S x0 x1) 100000 (0, 0, 0)
theorem delta_Ancestor_J1_sound (x0 : List api_Span) (x1 : List api_Span) {Φ : Int × Int → Prop} {o} (h : delta_Ancestor_J1_S x0 x1 = some o) (hK : Φ o) : delta_Ancestor_J1 x0 x1 Φ := by
  unfold delta_Ancestor_J1_S at h
  unfold delta_Ancestor_J1
  exact LoopW.of_S (fun s q rec hs hq => delta_Ancestor_L3_sound _ _ s hs hq) _ _ h hK
def delta_Ancestor_S (x0 : List api_Span) (x1 : List api_Span) : Option (Int × Int) :=
  Option.bind (delta_correct_S x0) fun v72 =>
  if ¬ (v72 = true) then
    some ((0, 0))
  else
    Option.bind (delta_correct_S x1) fun v76 =>
    if ¬ (v76 = true) then
      some ((0, 0))
    else
      delta_Ancestor_J1_S x0 x1
theorem delta_Ancestor_sound (x0 : List api_Span) (x1 : List api_Span) {Φ : Int × Int → Prop} {o} (h : delta_Ancestor_S x0 x1 = some o) (hK : Φ o) : delta_Ancestor_W x0 x1 Φ := by
  unfold delta_Ancestor_S at h
  unfold delta_Ancestor_W
  obtain ⟨_, hv, h⟩ := ofBind h
  refine delta_correct_sound _ hv ?_; clear hv
  refine And.intro (fun hc => ?_) (fun hc => ?_)
  · replace h := ofT hc h; clear hc
    cases h; exact hK
  · replace h := ofF hc h; clear hc
    obtain ⟨_, hv, h⟩ := ofBind h
    refine delta_correct_sound _ hv ?_; clear hv
    refine And.intro (fun hc => ?_) (fun hc => ?_)
    · replace h := ofT hc h; clear hc
      cases h; exact hK
    · replace h := ofF hc h; clear hc
      exact delta_Ancestor_J1_sound _ _ h hK
def slices_Clone_int_int_S (x0 : List Int) : Option (List Int) :=
  bothS (x0).isEmpty (
    some (([] : List Int))) (
    if lenOk (([] : List Int) ++ x0).length 8 then
    some ((([] : List Int) ++ x0))
    else none)
theorem slices_Clone_int_int_sound (x0 : List Int) {Φ : List Int → Prop} {o} (h : slices_Clone_int_int_S x0 = some o) (hK : Φ o) : slices_Clone_int_int_W x0 Φ := by
  unfold slices_Clone_int_int_S at h
  unfold slices_Clone_int_int_W
  obtain ⟨h2, h3⟩ := ofBoth h
  refine And.intro (fun hc => ?_) ?_
  · replace h := h2 (List.isEmpty_iff.2 hc); clear hc h2 h3
    cases h; exact hK
  · replace h := h3; clear h2 h3
    obtain ⟨hg, h⟩ := ofIf h
    refine And.intro hg ?_; clear hg
    cases h; exact hK
def slices_Clone_api_Sector_api_Sector_S (x0 : List Sec) : Option (List Sec) :=
  bothS (x0).isEmpty (
    some (([] : List Sec))) (
    if lenOk (([] : List Sec) ++ x0).length 8 then
    some ((([] : List Sec) ++ x0))
    else none)
theorem slices_Clone_api_Sector_api_Sector_sound (x0 : List Sec) {Φ : List Sec → Prop} {o} (h : slices_Clone_api_Sector_api_Sector_S x0 = some o) (hK : Φ o) : slices_Clone_api_Sector_api_Sector_W x0 Φ := by
  unfold slices_Clone_api_Sector_api_Sector_S at h
  unfold slices_Clone_api_Sector_api_Sector_W
  obtain ⟨h2, h3⟩ := ofBoth h
  refine And.intro (fun hc => ?_) ?_
  · replace h := h2 (List.isEmpty_iff.2 hc); clear hc h2 h3
    cases h; exact hK
  · replace h := h3; clear h2 h3
    obtain ⟨hg, h⟩ := ofIf h
    refine And.intro hg ?_; clear hg
    cases h; exact hK
def image_New_1_S (x0 : Int) : Option (List Sec) :=
  if 0 ≤ x0 then
  if lenOk x0.toNat 8 then
  some ((List.replicate x0.toNat sec0))
  else none
  else none
theorem image_New_1_sound (x0 : Int) {Φ : List Sec → Prop} {o} (h : image_New_1_S x0 = some o) (hK : Φ o) : image_New_1_W x0 Φ := by
  unfold image_New_1_S at h
  unfold image_New_1_W
  obtain ⟨hg, h⟩ := ofIf h
  refine And.intro hg ?_; clear hg
  obtain ⟨hg, h⟩ := ofIf h
  refine And.intro hg ?_; clear hg
  cases h; exact hK
def image_mapped_int_api_Sector__image_New_1_L1_S (x0 : List Int) : (List (List Sec) × Int) → Option ((List (List Sec) × Int) ⊕ (List (List Sec)))
  | (v12, v20) =>
    if v20 < (x0.length : Int) then
      if inX v20 x0.length then
      Option.bind (image_New_1_S (ix x0 v20)) fun v26 =>
      if lenOk (v12 ++ [v26]).length 24 then
      if inI (v20 + 1) then
      some (.inl ((v12 ++ [v26]), v20 + 1))
      else none
      else none
      else none
    else
      some (.inr v12)
theorem image_mapped_int_api_Sector__image_New_1_L1_sound (x0 : List Int) (s : List (List Sec) × Int) {Φ : List (List Sec) → Prop} {rec1 : (List (List Sec) × Int) → Prop} {o} (h : image_mapped_int_api_Sector__image_New_1_L1_S x0 s = some o) (hK : (orK rec1 Φ) o) : image_mapped_int_api_Sector__image_New_1_L1 x0 Φ s rec1 := by
  obtain ⟨v12, v20⟩ := s
  unfold image_mapped_int_api_Sector__image_New_1_L1_S at h
  unfold image_mapped_int_api_Sector__image_New_1_L1
  refine And.intro (fun hc => ?_) (fun hc => ?_)
  · replace h := ofT hc h; clear hc
    obtain ⟨hg, h⟩ := ofIf h
    refine And.intro hg ?_; clear hg
    obtain ⟨_, hv, h⟩ := ofBind h
    refine image_New_1_sound _ hv ?_; clear hv
    obtain ⟨hg, h⟩ := ofIf h
    refine And.intro hg ?_; clear hg
    obtain ⟨hg, h⟩ := ofIf h
    refine And.intro hg ?_; clear hg
    cases h; exact hK
  · replace h := ofF hc h; clear hc
    cases h; exact hK
def image_mapped_int_api_Sector__image_New_1_S (x0 : List Int) : Option (List (List Sec)) :=
  if 0 ≤ (x0.length : Int) then
  if lenOk (x0.length : Int).toNat 24 then
  loopS (image_mapped_int_api_Sector__image_New_1_L1_S x0) 100000 (([] : List (List Sec)), 0)
  else none
  else none
theorem image_mapped_int_api_Sector__image_New_1_sound (x0 : List Int) {Φ : List (List Sec) → Prop} {o} (h : image_mapped_int_api_Sector__image_New_1_S x0 = some o) (hK : Φ o) : image_mapped_int_api_Sector__image_New_1_W x0 Φ := by
  unfold image_mapped_int_api_Sector__image_New_1_S at h
  unfold image_mapped_int_api_Sector__image_New_1_W
  obtain ⟨hg, h⟩ := ofIf h
  refine And.intro hg ?_; clear hg
  obtain ⟨hg, h⟩ := ofIf h
  refine And.intro hg ?_; clear hg
  exact LoopW.of_S (fun s q rec hs hq => image_mapped_int_api_Sector__image_New_1_L1_sound _ s hs hq) _ _ h hK
def image_New_S (x0 : List Int) : Option (List (List Sec) × Int) :=
  Option.bind (image_checkSizes_S x0) fun v2 =>
  if v2 ≠ 0 then
    some ((([] : List (List Sec)), v2))
  else
    Option.bind (image_mapped_int_api_Sector__image_New_1_S x0) fun v6 =>
    some ((v6, 0))
theorem image_New_sound (x0 : List Int) {Φ : List (List Sec) × Int → Prop} {o} (h : image_New_S x0 = some o) (hK : Φ o) : image_New_W x0 Φ := by
  unfold image_New_S at h
  unfold image_New_W
  obtain ⟨_, hv, h⟩ := ofBind h
  refine image_checkSizes_sound _ hv ?_; clear hv
  refine And.intro (fun hc => ?_) (fun hc => ?_)
  · replace h := ofT hc h; clear hc
    cases h; exact hK
  · replace h := ofF hc h; clear hc
    obtain ⟨_, hv, h⟩ := ofBind h
    refine image_mapped_int_api_Sector__image_New_1_sound _ hv ?_; clear hv
    cases h; exact hK
def cycle_in_S (x0 : Int) (x1 : Int) (x2 : Int) : Option (Bool) :=
  some (decide ((x1 ≤ x0) ∧ (x0 ≤ x2)))
theorem cycle_in_sound (x0 : Int) (x1 : Int) (x2 : Int) {Φ : Bool → Prop} {o} (h : cycle_in_S x0 x1 x2 = some o) (hK : Φ o) : cycle_in_W x0 x1 x2 Φ := by
  unfold cycle_in_S at h
  unfold cycle_in_W
  cases h; exact hK
def cycle_positions_1_S (x0 : Int) : Option (Bool) :=
  Option.bind (cycle_in_S x0 0 1073741824) fun v1 =>
  some (decide (¬ (v1 = true)))
theorem cycle_positions_1_sound (x0 : Int) {Φ : Bool → Prop} {o} (h : cycle_positions_1_S x0 = some o) (hK : Φ o) : cycle_positions_1_W x0 Φ := by
  unfold cycle_positions_1_S at h
  unfold cycle_positions_1_W
  obtain ⟨_, hv, h⟩ := ofBind h
  refine cycle_in_sound _ _ _ hv ?_; clear hv
  cases h; exact hK
def slices_IndexFunc_int_int__cycle_positions_1_L1_S (x0 : List Int) : (Int) → Option ((Int) ⊕ (Int))
  | (v4) =>
    if v4 < (x0.length : Int) then
      if inX v4 x0.length then
      Option.bind (cycle_positions_1_S (ix x0 v4)) fun v10 =>
      if v10 = true then
        some (.inr v4)
      else
        if inI (v4 + 1) then
        some (.inl (v4 + 1))
        else none
      else none
    else
      some (.inr (-1))
theorem slices_IndexFunc_int_int__cycle_positions_1_L1_sound (x0 : List Int) (s : Int) {Φ : Int → Prop} {rec1 : (Int) → Prop} {o} (h : slices_IndexFunc_int_int__cycle_positions_1_L1_S x0 s = some o) (hK : (orK rec1 Φ) o) : slices_IndexFunc_int_int__cycle_positions_1_L1 x0 Φ s rec1 := by
  unfold slices_IndexFunc_int_int__cycle_positions_1_L1_S at h
  unfold slices_IndexFunc_int_int__cycle_positions_1_L1
  refine And.intro (fun hc => ?_) (fun hc => ?_)
  · replace h := ofT hc h; clear hc
    obtain ⟨hg, h⟩ := ofIf h
    refine And.intro hg ?_; clear hg
    obtain ⟨_, hv, h⟩ := ofBind h
    refine cycle_positions_1_sound _ hv ?_; clear hv
    refine And.intro (fun hc => ?_) (fun hc => ?_)
    · replace h := ofT hc h; clear hc
      cases h; exact hK
    · replace h := ofF hc h; clear hc
      obtain ⟨hg, h⟩ := ofIf h
      refine And.intro hg ?_; clear hg
      cases h; exact hK
  · replace h := ofF hc h; clear hc
    cases h; exact hK
def slices_IndexFunc_int_int__cycle_positions_1_S (x0 : List Int) : Option (Int) :=
  loopS (slices_IndexFunc_int_int__cycle_positions_1_L1_S x0) 100000 (0)
theorem slices_IndexFunc_int_int__cycle_positions_1_sound (x0 : List Int) {Φ : Int → Prop} {o} (h : slices_IndexFunc_int_int__cycle_positions_1_S x0 = some o) (hK : Φ o) : slices_IndexFunc_int_int__cycle_positions_1_W x0 Φ := by
  unfold slices_IndexFunc_int_int__cycle_positions_1_S at h
  unfold slices_IndexFunc_int_int__cycle_positions_1_W
  exact LoopW.of_S (fun s q rec hs hq => slices_IndexFunc_int_int__cycle_positions_1_L1_sound _ s hs hq) _ _ h hK
def slices_ContainsFunc_int_int__cycle_positions_1_S (x0 : List Int) : Option (Bool) :=
  Option.bind (slices_IndexFunc_int_int__cycle_positions_1_S x0) fun v2 =>
  some (decide (0 ≤ v2))
theorem slices_ContainsFunc_int_int__cycle_positions_1_sound (x0 : List Int) {Φ : Bool → Prop} {o} (h : slices_ContainsFunc_int_int__cycle_positions_1_S x0 = some o) (hK : Φ o) : slices_ContainsFunc_int_int__cycle_positions_1_W x0 Φ := by
  unfold slices_ContainsFunc_int_int__cycle_positions_1_S at h
  unfold slices_ContainsFunc_int_int__cycle_positions_1_W
  obtain ⟨_, hv, h⟩ := ofBind h
  refine slices_IndexFunc_int_int__cycle_positions_1_sound _ hv ?_; clear hv
  cases h; exact hK
def cycle_positions_S (x0 : List Int) (x1 : Int) : Option (Int) :=
  Option.bind (cycle_in_S (x0.length : Int) x1 8) fun v2 =>
  if ¬ (v2 = true) then
    some (6)
  else
    Option.bind (slices_ContainsFunc_int_int__cycle_positions_1_S x0) fun v6 =>
    if v6 = true then
      some (2)
    else
      some (0)
theorem cycle_positions_sound (x0 : List Int) (x1 : Int) {Φ : Int → Prop} {o} (h : cycle_positions_S x0 x1 = some o) (hK : Φ o) : cycle_positions_W x0 x1 Φ := by
  unfold cycle_positions_S at h
  unfold cycle_positions_W
  obtain ⟨_, hv, h⟩ := ofBind h
  refine cycle_in_sound _ _ _ hv ?_; clear hv
  refine And.intro (fun hc => ?_) (fun hc => ?_)
  · replace h := ofT hc h; clear hc
    cases h; exact hK
  · replace h := ofF hc h; clear hc
    obtain ⟨_, hv, h⟩ := ofBind h
    refine slices_ContainsFunc_int_int__cycle_positions_1_sound _ hv ?_; clear hv
    refine And.intro (fun hc => ?_) (fun hc => ?_)
    · replace h := ofT hc h; clear hc
      cases h; exact hK
    · replace h := ofF hc h; clear hc
      cases h; exact hK
def image_fits_S (x0 : List (List Sec)) (x1 : api_Write) : Option (Int) :=
  if (x1.Volume < 0) ∨ ((x0.length : Int) ≤ x1.Volume) then
    some (7)
  else
    if (x1.Data.length : Int) = 0 then
      some (1)
    else
      Option.bind (
        if ¬ (x1.Start < 0) then
          if inX x1.Volume x0.length then
          if inI (((ix x0 x1.Volume).length : Int) - (x1.Data.length : Int)) then some () else none
          else none
        else some () : Option Unit) fun _ =>
      if (x1.Start < 0) ∨ ((((ix x0 x1.Volume).length : Int) - (x1.Data.length : Int)) < x1.Start) then
        some (2)
      else
        some (0)
theorem image_fits_sound (x0 : List (List Sec)) (x1 : api_Write) {Φ : Int → Prop} {o} (h : image_fits_S x0 x1 = some o) (hK : Φ o) : image_fits_W x0 x1 Φ := by
  unfold image_fits_S at h
  unfold image_fits_W
  refine And.intro (fun hc => ?_) (fun hc => ?_)
  · replace h := ofT hc h; clear hc
    cases h; exact hK
  · replace h := ofF hc h; clear hc
    refine And.intro (fun hc => ?_) (fun hc => ?_)
    · replace h := ofT hc h; clear hc
      cases h; exact hK
    · replace h := ofF hc h; clear hc
      obtain ⟨_, h1, h⟩ := ofBind h
      refine And.intro ?_ ?_
      · replace h := h1; clear h1; have hK := True.intro
        intro hc; replace h := ofT hc h; clear hc
        obtain ⟨hg, h⟩ := ofIf h
        refine And.intro hg ?_; clear hg
        exact (ofIf h).1
      · clear h1
        refine And.intro (fun hc => ?_) (fun hc => ?_)
        · replace h := ofT hc h; clear hc
          cases h; exact hK
        · replace h := ofF hc h; clear hc
          cases h; exact hK
def image_Fits_S (x0 : List (List Sec)) (x1 : api_Write) : Option (Int) :=
  Option.bind (image_Check_S x0) fun v4 =>
  if v4 ≠ 0 then
    some (v4)
  else
    Option.bind (image_fits_S x0 x1) fun v8 =>
    some (v8)
theorem image_Fits_sound (x0 : List (List Sec)) (x1 : api_Write) {Φ : Int → Prop} {o} (h : image_Fits_S x0 x1 = some o) (hK : Φ o) : image_Fits_W x0 x1 Φ := by
  unfold image_Fits_S at h
  unfold image_Fits_W
  obtain ⟨_, hv, h⟩ := ofBind h
  refine image_Check_sound _ hv ?_; clear hv
  refine And.intro (fun hc => ?_) (fun hc => ?_)
  · replace h := ofT hc h; clear hc
    cases h; exact hK
  · replace h := ofF hc h; clear hc
    obtain ⟨_, hv, h⟩ := ofBind h
    refine image_fits_sound _ _ hv ?_; clear hv
    cases h; exact hK
def coalesce_Check_1_S (x0 : api_Write) (y800 : List (List Sec)) : Option (Int) :=
  Option.bind (image_Fits_S y800 x0) fun v4 =>
  some (v4)
theorem coalesce_Check_1_sound (x0 : api_Write) (y800 : List (List Sec)) {Φ : Int → Prop} {o} (h : coalesce_Check_1_S x0 y800 = some o) (hK : Φ o) : coalesce_Check_1_W x0 y800 Φ := by
  unfold coalesce_Check_1_S at h
  unfold coalesce_Check_1_W
  obtain ⟨_, hv, h⟩ := ofBind h
  refine image_Fits_sound _ _ hv ?_; clear hv
  cases h; exact hK
def coalesce_check__coalesce_Check_1_L1_S (x0 : List api_Write) (y910 : List (List Sec)) : (Int) → Option ((Int) ⊕ (Int))
  | (v5) =>
    if v5 < (x0.length : Int) then
      if inX v5 x0.length then
      Option.bind (coalesce_Check_1_S (ix x0 v5) y910) fun v16 =>
      if v16 ≠ 0 then
        some (.inr v16)
      else
        if v5 = 0 then
          if inI (v5 + 1) then
          some (.inl (v5 + 1))
          else none
        else
          if inI (v5 - 1) then
          if inX (v5 - 1) x0.length then
          Option.bind (
            if ¬ (((ix x0 v5).Volume) < ((ix x0 (v5 - 1)).Volume)) then
              if ((ix x0 v5).Volume) = ((ix x0 (v5 - 1)).Volume) then
                if inI (((ix x0 (v5 - 1)).Start) + (((ix x0 (v5 - 1)).Data).length : Int)) then some () else none
              else some ()
            else some () : Option Unit) fun _ =>
          if (((ix x0 v5).Volume) < ((ix x0 (v5 - 1)).Volume)) ∨ ((((ix x0 v5).Volume) = ((ix x0 (v5 - 1)).Volume)) ∧ (((ix x0 v5).Start) ≤ (((ix x0 (v5 - 1)).Start) + (((ix x0 (v5 - 1)).Data).length : Int)))) then
            some (.inr 3)
          else
            if inI (v5 + 1) then
            some (.inl (v5 + 1))
            else none
          else none
          else none
      else none
    else
      some (.inr 0)
theorem coalesce_check__coalesce_Check_1_L1_sound (x0 : List api_Write) (y910 : List (List Sec)) (s : Int) {Φ : Int → Prop} {rec1 : (Int) → Prop} {o} (h : coalesce_check__coalesce_Check_1_L1_S x0 y910 s = some o) (hK : (orK rec1 Φ) o) : coalesce_check__coalesce_Check_1_L1 x0 y910 Φ s rec1 := by
  unfold coalesce_check__coalesce_Check_1_L1_S at h
  unfold coalesce_check__coalesce_Check_1_L1
  refine And.intro (fun hc => ?_) (fun hc => ?_)
  · replace h := ofT hc h; clear hc
    obtain ⟨hg, h⟩ := ofIf h
    refine And.intro hg ?_; clear hg
    obtain ⟨_, hv, h⟩ := ofBind h
    refine coalesce_Check_1_sound _ _ hv ?_; clear hv
    refine And.intro (fun hc => ?_) (fun hc => ?_)
    · replace h := ofT hc h; clear hc
      cases h; exact hK
    · replace h := ofF hc h; clear hc
      refine And.intro (fun hc => ?_) (fun hc => ?_)
      · replace h := ofT hc h; clear hc
        obtain ⟨hg, h⟩ := ofIf h
        refine And.intro hg ?_; clear hg
        cases h; exact hK
      · replace h := ofF hc h; clear hc
        obtain ⟨hg, h⟩ := ofIf h
        refine And.intro hg ?_; clear hg
        obtain ⟨hg, h⟩ := ofIf h
        refine And.intro hg ?_; clear hg
        obtain ⟨_, h1, h⟩ := ofBind h
        refine And.intro ?_ ?_
        · replace h := h1; clear h1; have hK := True.intro
          intro hc; replace h := ofT hc h; clear hc
          intro hc; replace h := ofT hc h; clear hc
          exact (ofIf h).1
        · clear h1
          refine And.intro (fun hc => ?_) (fun hc => ?_)
          · replace h := ofT hc h; clear hc
            cases h; exact hK
          · replace h := ofF hc h; clear hc
            obtain ⟨hg, h⟩ := ofIf h
            refine And.intro hg ?_; clear hg
            cases h; exact hK
  · replace h := ofF hc h; clear hc
    cases h; exact hK
def coalesce_check__coalesce_Check_1_S (x0 : List api_Write) (y910 : List (List Sec)) : Option (Int) :=
  loopS (coalesce_check__coalesce_Check_1_L1_S x0 y910) 100000 (0)
theorem coalesce_check__coalesce_Check_1_sound (x0 : List api_Write) (y910 : List (List Sec)) {Φ : Int → Prop} {o} (h : coalesce_check__coalesce_Check_1_S x0 y910 = some o) (hK : Φ o) : coalesce_check__coalesce_Check_1_W x0 y910 Φ := by
  unfold coalesce_check__coalesce_Check_1_S at h
  unfold coalesce_check__coalesce_Check_1_W
  exact LoopW.of_S (fun s q rec hs hq => coalesce_check__coalesce_Check_1_L1_sound _ _ s hs hq) _ _ h hK
def coalesce_Check_S (x0 : List api_Write) (x1 : List Int) : Option (Int) :=
  Option.bind (image_New_S x1) fun v3 =>
  if v3.2 ≠ 0 then
    some (v3.2)
  else
    Option.bind (coalesce_check__coalesce_Check_1_S x0 v3.1) fun v12 =>
    some (v12)
theorem coalesce_Check_sound (x0 : List api_Write) (x1 : List Int) {Φ : Int → Prop} {o} (h : coalesce_Check_S x0 x1 = some o) (hK : Φ o) : coalesce_Check_W x0 x1 Φ := by
  unfold coalesce_Check_S at h
  unfold coalesce_Check_W
  obtain ⟨_, hv, h⟩ := ofBind h
  refine image_New_sound _ hv ?_; clear hv
  refine And.intro (fun hc => ?_) (fun hc => ?_)
  · replace h := ofT hc h; clear hc
    cases h; exact hK
  · replace h := ofF hc h; clear hc
    obtain ⟨_, hv, h⟩ := ofBind h
    refine coalesce_check__coalesce_Check_1_sound _ _ hv ?_; clear hv
    cases h; exact hK
def cycle_Check_S (x0 : api_Cycle) (x1 : List Int) : Option (Int) :=
  Option.bind (image_New_S x1) fun v5 =>
  if v5.2 ≠ 0 then
    some (v5.2)
  else
    if (x0.Base < 0) ∨ ((x0.Number ≤ x0.Base) ∨ (1073741824 < x0.Number)) then
      some (2)
    else
      Option.bind (cycle_in_S x0.Time 0 1073741824) fun v13 =>
      if ¬ (v13 = true) then
        some (24)
      else
        Option.bind (cycle_positions_S x0.Positions 0) fun v17 =>
        if v17 ≠ 0 then
          some (v17)
        else
          Option.bind (coalesce_Check_S x0.Writes x1) fun v21 =>
          some (v21)
theorem cycle_Check_sound (x0 : api_Cycle) (x1 : List Int) {Φ : Int → Prop} {o} (h : cycle_Check_S x0 x1 = some o) (hK : Φ o) : cycle_Check_W x0 x1 Φ := by
  unfold cycle_Check_S at h
  unfold cycle_Check_W
  obtain ⟨_, hv, h⟩ := ofBind h
  refine image_New_sound _ hv ?_; clear hv
  refine And.intro (fun hc => ?_) (fun hc => ?_)
  · replace h := ofT hc h; clear hc
    cases h; exact hK
  · replace h := ofF hc h; clear hc
    refine And.intro (fun hc => ?_) (fun hc => ?_)
    · replace h := ofT hc h; clear hc
      cases h; exact hK
    · replace h := ofF hc h; clear hc
      obtain ⟨_, hv, h⟩ := ofBind h
      refine cycle_in_sound _ _ _ hv ?_; clear hv
      refine And.intro (fun hc => ?_) (fun hc => ?_)
      · replace h := ofT hc h; clear hc
        cases h; exact hK
      · replace h := ofF hc h; clear hc
        obtain ⟨_, hv, h⟩ := ofBind h
        refine cycle_positions_sound _ _ hv ?_; clear hv
        refine And.intro (fun hc => ?_) (fun hc => ?_)
        · replace h := ofT hc h; clear hc
          cases h; exact hK
        · replace h := ofF hc h; clear hc
          obtain ⟨_, hv, h⟩ := ofBind h
          refine coalesce_Check_sound _ _ hv ?_; clear hv
          cases h; exact hK
def reverse_Cycle_L3_S (x1 : api_Point) (v11 : List (List api_Extent) × Int) (v39 : List Int) (v46 : Int) : (List api_Write × Int) → Option ((List api_Write × Int) ⊕ ((List api_Write × List Int × Int) ⊕ (api_Cycle × Int)))
  | (v67, v74) =>
    if v74 < ((ix v11.1 v46).length : Int) then
      if inX v74 (ix v11.1 v46).length then
      if inI (((ix (ix v11.1 v46) v74).Start) + ((ix (ix v11.1 v46) v74).Count)) then
      if inS ((ix (ix v11.1 v46) v74).Start) (((ix (ix v11.1 v46) v74).Start) + ((ix (ix v11.1 v46) v74).Count)) (ix x1.Image v46).length then
      Option.bind (slices_Clone_api_Sector_api_Sector_S (sub (ix x1.Image v46) ((ix (ix v11.1 v46) v74).Start) (((ix (ix v11.1 v46) v74).Start) + ((ix (ix v11.1 v46) v74).Count)))) fun v102 =>
      if lenOk (v67 ++ ([(api_Write.mk v46 ((ix (ix v11.1 v46) v74).Start) v102)] : List api_Write)).length 40 then
      if inI (v74 + 1) then
      some (.inl ((v67 ++ ([(api_Write.mk v46 ((ix (ix v11.1 v46) v74).Start) v102)] : List api_Write)), v74 + 1))
      else none
      else none
      else none
      else none
      else none
    else
      if inI (v46 + 1) then
      some (.inr (.inl (v67, (v39 ++ ([((ix x1.Image v46).length : Int)] : List Int)), v46 + 1)))
      else none
theorem reverse_Cycle_L3_sound (x1 : api_Point) (v11 : List (List api_Extent) × Int) (v39 : List Int) (v46 : Int) (s : List api_Write × Int) {Φ : api_Cycle × Int → Prop} {rec2 : (List api_Write × List Int × Int) → Prop} {rec3 : (List api_Write × Int) → Prop} {o} (h : reverse_Cycle_L3_S x1 v11 v39 v46 s = some o) (hK : (orK rec3 (orK rec2 Φ)) o) : reverse_Cycle_L3 x1 v11 v39 v46 rec2 Φ s rec3 := by
  obtain ⟨v67, v74⟩ := s
  unfold reverse_Cycle_L3_S at h
  unfold reverse_Cycle_L3
  refine And.intro (fun hc => ?_) (fun hc => ?_)
  · replace h := ofT hc h; clear hc
    obtain ⟨hg, h⟩ := ofIf h
    refine And.intro hg ?_; clear hg
    obtain ⟨hg, h⟩ := ofIf h
    refine And.intro hg ?_; clear hg
    obtain ⟨hg, h⟩ := ofIf h
    refine And.intro hg ?_; clear hg
    obtain ⟨_, hv, h⟩ := ofBind h
    refine ⟨_, slices_Clone_api_Sector_api_Sector_sound _ hv rfl, ?_⟩; clear hv
    obtain ⟨hg, h⟩ := ofIf h
    refine And.intro hg ?_; clear hg
    obtain ⟨hg, h⟩ := ofIf h
    refine And.intro hg ?_; clear hg
    cases h; exact hK
  · replace h := ofF hc h; clear hc
    obtain ⟨hg, h⟩ := ofIf h
    refine And.intro hg ?_; clear hg
    cases h; exact hK
def reverse_Cycle_L2_S (x1 : api_Point) (x2 : Int) (x3 : Int) (v11 : List (List api_Extent) × Int) (v18 : Int × Int) (v23 : List Int) : (List api_Write × List Int × Int) → Option ((List api_Write × List Int × Int) ⊕ (api_Cycle × Int))
  | (v32, v39, v46) =>
    if v46 < (x1.Image.length : Int) then
      if inX v46 x1.Image.length then
      if lenOk (v39 ++ ([((ix x1.Image v46).length : Int)] : List Int)).length 8 then
      if inX v46 v11.1.length then
      loopS (reverse_Cycle_L3_S x1 v11 v39 v46) 100000 (v32, 0)
      else none
      else none
      else none
    else
      Option.bind (cycle_Check_S (api_Cycle.mk v18.1 x2 x3 v23 v32) v39) fun v176 =>
      if v176 ≠ 0 then
        some (.inr ((api_Cycle.mk 0 0 0 ([] : List Int) ([] : List api_Write)), v176))
      else
        some (.inr ((api_Cycle.mk v18.1 x2 x3 v23 v32), 0))
theorem reverse_Cycle_L2_sound (x1 : api_Point) (x2 : Int) (x3 : Int) (v11 : List (List api_Extent) × Int) (v18 : Int × Int) (v23 : List Int) (s : List api_Write × List Int × Int) {Φ : api_Cycle × Int → Prop} {rec2 : (List api_Write × List Int × Int) → Prop} {o} (h : reverse_Cycle_L2_S x1 x2 x3 v11 v18 v23 s = some o) (hK : (orK rec2 Φ) o) : reverse_Cycle_L2 x1 x2 x3 v11 v18 v23 Φ s rec2 := by
  obtain ⟨v32, v39, v46⟩ := s
  unfold reverse_Cycle_L2_S at h
  unfold reverse_Cycle_L2
  refine And.intro (fun hc => ?_) (fun hc => ?_)
  · replace h := ofT hc h; clear hc
    obtain ⟨hg, h⟩ := ofIf h
    refine And.intro hg ?_; clear hg
    obtain ⟨hg, h⟩ := ofIf h
    refine And.intro hg ?_; clear hg
    obtain ⟨hg, h⟩ := ofIf h
    refine And.intro hg ?_; clear hg
    exact LoopW.of_S (fun s q rec hs hq => reverse_Cycle_L3_sound _ _ _ _ s hs hq) _ _ h hK
  · replace h := ofF hc h; clear hc
    obtain ⟨_, hv, h⟩ := ofBind h
    refine cycle_Check_sound _ _ hv ?_; clear hv
    refine And.intro (fun hc => ?_) (fun hc => ?_)
    · replace h := ofT hc h; clear hc
      cases h; exact hK
    · replace h := ofF hc h; clear hc
      cases h; exact hK
def reverse_Cycle_J1_S (x1 : api_Point) (x2 : Int) (x3 : Int) (x4 : List Int) (v11 : List (List api_Extent) × Int) (v18 : Int × Int) : Option (api_Cycle × Int) :=
  Option.bind (slices_Clone_int_int_S x4) fun v23 =>
  loopS (reverse_Cycle_L2_S x1 x2 x3 v11 v18 v23) 100000 (([] : List api_Write), ([] : List Int), 0)
theorem reverse_Cycle_J1_sound (x1 : api_Point) (x2 : Int) (x3 : Int) (x4 : List Int) (v11 : List (List api_Extent) × Int) (v18 : Int × Int) {Φ : api_Cycle × Int → Prop} {o} (h : reverse_Cycle_J1_S x1 x2 x3 x4 v11 v18 = some o) (hK : Φ o) : reverse_Cycle_J1 x1 x2 x3 x4 v11 v18 Φ := by
  unfold reverse_Cycle_J1_S at h
  unfold reverse_Cycle_J1
  obtain ⟨_, hv, h⟩ := ofBind h
  refine slices_Clone_int_int_sound _ hv ?_; clear hv
  exact LoopW.of_S (fun s q rec hs hq => reverse_Cycle_L2_sound _ _ _ _ _ _ s hs hq) _ _ h hK
def reverse_Cycle_S (x0 : api_Point) (x1 : api_Point) (x2 : Int) (x3 : Int) (x4 : List Int) : Option (api_Cycle × Int) :=
  Option.bind (delta_Between_S x0 x1) fun v11 =>
  if v11.2 ≠ 0 then
    some (((api_Cycle.mk 0 0 0 ([] : List Int) ([] : List api_Write)), v11.2))
  else
    Option.bind (delta_Ancestor_S x0.Lineage x1.Lineage) fun v18 =>
    if x2 ≤ v18.1 then
      some (((api_Cycle.mk 0 0 0 ([] : List Int) ([] : List api_Write)), 2))
    else
      Option.bind (reverse_last_S x1.Lineage) fun v186 =>
      if x2 < v186 then
        some (((api_Cycle.mk 0 0 0 ([] : List Int) ([] : List api_Write)), 2))
      else
        reverse_Cycle_J1_S x1 x2 x3 x4 v11 v18
theorem reverse_Cycle_sound (x0 : api_Point) (x1 : api_Point) (x2 : Int) (x3 : Int) (x4 : List Int) {Φ : api_Cycle × Int → Prop} {o} (h : reverse_Cycle_S x0 x1 x2 x3 x4 = some o) (hK : Φ o) : reverse_Cycle_W x0 x1 x2 x3 x4 Φ := by
  unfold reverse_Cycle_S at h
  unfold reverse_Cycle_W
  obtain ⟨_, hv, h⟩ := ofBind h
  refine delta_Between_sound _ _ hv ?_; clear hv
  refine And.intro (fun hc => ?_) (fun hc => ?_)
  · replace h := ofT hc h; clear hc
    cases h; exact hK
  · replace h := ofF hc h; clear hc
    obtain ⟨_, hv, h⟩ := ofBind h
    refine delta_Ancestor_sound _ _ hv ?_; clear hv
    refine And.intro (fun hc => ?_) (fun hc => ?_)
    · replace h := ofT hc h; clear hc
      cases h; exact hK
    · replace h := ofF hc h; clear hc
      obtain ⟨_, hv, h⟩ := ofBind h
      refine reverse_last_sound _ hv ?_; clear hv
      refine And.intro (fun hc => ?_) (fun hc => ?_)
      · replace h := ofT hc h; clear hc
        cases h; exact hK
      · replace h := ofF hc h; clear hc
        exact reverse_Cycle_J1_sound _ _ _ _ _ _ h hK
def ref02_SameExtents_L1_S (x0 : List api_Extent) (x1 : List api_Extent) : (Int) → Option ((Int) ⊕ (Bool))
  | (v6) =>
    if v6 < (x0.length : Int) then
      if inX v6 x0.length then
      if inX v6 x1.length then
      if (ix x0 v6) ≠ (ix x1 v6) then
        some (.inr false)
      else
        if inI (v6 + 1) then
        some (.inl (v6 + 1))
        else none
      else none
      else none
    else
      some (.inr true)
theorem ref02_SameExtents_L1_sound (x0 : List api_Extent) (x1 : List api_Extent) (s : Int) {Φ : Bool → Prop} {rec1 : (Int) → Prop} {o} (h : ref02_SameExtents_L1_S x0 x1 s = some o) (hK : (orK rec1 Φ) o) : ref02_SameExtents_L1 x0 x1 Φ s rec1 := by
  unfold ref02_SameExtents_L1_S at h
  unfold ref02_SameExtents_L1
  refine And.intro (fun hc => ?_) (fun hc => ?_)
  · replace h := ofT hc h; clear hc
    obtain ⟨hg, h⟩ := ofIf h
    refine And.intro hg ?_; clear hg
    obtain ⟨hg, h⟩ := ofIf h
    refine And.intro hg ?_; clear hg
    refine And.intro (fun hc => ?_) (fun hc => ?_)
    · replace h := ofT hc h; clear hc
      cases h; exact hK
    · replace h := ofF hc h; clear hc
      obtain ⟨hg, h⟩ := ofIf h
      refine And.intro hg ?_; clear hg
      cases h; exact hK
  · replace h := ofF hc h; clear hc
    cases h; exact hK
def ref02_SameExtents_S (x0 : List api_Extent) (x1 : List api_Extent) : Option (Bool) :=
  if (x0.length : Int) ≠ (x1.length : Int) then
    some (false)
  else
    loopS (ref02_SameExtents_L1_S x0 x1) 100000 (0)
theorem ref02_SameExtents_sound (x0 : List api_Extent) (x1 : List api_Extent) {Φ : Bool → Prop} {o} (h : ref02_SameExtents_S x0 x1 = some o) (hK : Φ o) : ref02_SameExtents_W x0 x1 Φ := by
  unfold ref02_SameExtents_S at h
  unfold ref02_SameExtents_W
  refine And.intro (fun hc => ?_) (fun hc => ?_)
  · replace h := ofT hc h; clear hc
    cases h; exact hK
  · replace h := ofF hc h; clear hc
    exact LoopW.of_S (fun s q rec hs hq => ref02_SameExtents_L1_sound _ _ s hs hq) _ _ h hK
def ref47_SameExtents_L1_S (x0 : List (List api_Extent)) (x1 : List (List api_Extent)) : (Int) → Option ((Int) ⊕ (Bool))
  | (v6) =>
    if v6 < (x0.length : Int) then
      if inX v6 x0.length then
      if inX v6 x1.length then
      Option.bind (ref02_SameExtents_S (ix x0 v6) (ix x1 v6)) fun v16 =>
      if ¬ (v16 = true) then
        some (.inr false)
      else
        if inI (v6 + 1) then
        some (.inl (v6 + 1))
        else none
      else none
      else none
    else
      some (.inr true)
theorem ref47_SameExtents_L1_sound (x0 : List (List api_Extent)) (x1 : List (List api_Extent)) (s : Int) {Φ : Bool → Prop} {rec1 : (Int) → Prop} {o} (h : ref47_SameExtents_L1_S x0 x1 s = some o) (hK : (orK rec1 Φ) o) : ref47_SameExtents_L1 x0 x1 Φ s rec1 := by
  unfold ref47_SameExtents_L1_S at h
  unfold ref47_SameExtents_L1
  refine And.intro (fun hc => ?_) (fun hc => ?_)
  · replace h := ofT hc h; clear hc
    obtain ⟨hg, h⟩ := ofIf h
    refine And.intro hg ?_; clear hg
    obtain ⟨hg, h⟩ := ofIf h
    refine And.intro hg ?_; clear hg
    obtain ⟨_, hv, h⟩ := ofBind h
    refine ⟨_, ref02_SameExtents_sound _ _ hv rfl, ?_⟩; clear hv
    refine And.intro (fun hc => ?_) (fun hc => ?_)
    · replace h := ofT hc h; clear hc
      cases h; exact hK
    · replace h := ofF hc h; clear hc
      obtain ⟨hg, h⟩ := ofIf h
      refine And.intro hg ?_; clear hg
      cases h; exact hK
  · replace h := ofF hc h; clear hc
    cases h; exact hK
def ref47_SameExtents_S (x0 : List (List api_Extent)) (x1 : List (List api_Extent)) : Option (Bool) :=
  if (x0.length : Int) ≠ (x1.length : Int) then
    some (false)
  else
    loopS (ref47_SameExtents_L1_S x0 x1) 100000 (0)
theorem ref47_SameExtents_sound (x0 : List (List api_Extent)) (x1 : List (List api_Extent)) {Φ : Bool → Prop} {o} (h : ref47_SameExtents_S x0 x1 = some o) (hK : Φ o) : ref47_SameExtents_W x0 x1 Φ := by
  unfold ref47_SameExtents_S at h
  unfold ref47_SameExtents_W
  refine And.intro (fun hc => ?_) (fun hc => ?_)
  · replace h := ofT hc h; clear hc
    cases h; exact hK
  · replace h := ofF hc h; clear hc
    exact LoopW.of_S (fun s q rec hs hq => ref47_SameExtents_L1_sound _ _ s hs hq) _ _ h hK
def law47_awake_S : Option (Bool) :=
  Option.bind (law47_one_S 0 (8#8)) fun v10 =>
  Option.bind (law47_point_S 0 ([([(Sec.mk (1#8) (0#8) (0#8) (0#8) (0#8) (0#8) (0#8) (0#8)), (Sec.mk (2#8) (0#8) (0#8) (0#8) (0#8) (0#8) (0#8) (0#8)), (Sec.mk (3#8) (0#8) (0#8) (0#8) (0#8) (0#8) (0#8) (0#8))] : List Sec)] : List (List Sec)) ([(api_Span.mk 1 1 4)] : List api_Span) ([v10] : List api_Write)) fun v30 =>
  Option.bind (law47_one_S 2 (9#8)) fun v41 =>
  Option.bind (law47_point_S 1 ([([(Sec.mk (1#8) (0#8) (0#8) (0#8) (0#8) (0#8) (0#8) (0#8)), (Sec.mk (2#8) (0#8) (0#8) (0#8) (0#8) (0#8) (0#8) (0#8)), (Sec.mk (3#8) (0#8) (0#8) (0#8) (0#8) (0#8) (0#8) (0#8))] : List Sec)] : List (List Sec)) ([(api_Span.mk 1 1 4), (api_Span.mk 2 5 6)] : List api_Span) ([v41] : List api_Write)) fun v58 =>
  Option.bind (reverse_Undo_S v30 4) fun v70 =>
  Option.bind (reverse_Extents_S v30 v58) fun v79 =>
  Option.bind (reverse_Cycle_S v30 v58 6 7 ([] : List Int)) fun v85 =>
  if (v70.2 ≠ 0) ∨ ((v79.2 ≠ 0) ∨ ((v85.2 ≠ 0) ∨ ((v85.1.Base ≠ 4) ∨ ((v85.1.Writes.length : Int) ≠ 2)))) then
    some (false)
  else
    Option.bind (ref47_SameExtents_S v70.1 ([([(api_Extent.mk 0 1)] : List api_Extent)] : List (List api_Extent))) fun v116 =>
    if v116 = true then
      Option.bind (ref47_SameExtents_S v79.1 ([([(api_Extent.mk 0 1), (api_Extent.mk 2 1)] : List api_Extent)] : List (List api_Extent))) fun v133 =>
      if v133 = true then
        if inX 0 v85.1.Writes.length then
        if inX 0 ((ix v85.1.Writes 0).Data).length then
        if (ix ((ix v85.1.Writes 0).Data) 0) = (Sec.mk (1#8) (0#8) (0#8) (0#8) (0#8) (0#8) (0#8) (0#8)) then
          if inX 1 v85.1.Writes.length then
          if inX 0 ((ix v85.1.Writes 1).Data).length then
          some (decide ((ix ((ix v85.1.Writes 1).Data) 0) = (Sec.mk (9#8) (0#8) (0#8) (0#8) (0#8) (0#8) (0#8) (0#8))))
          else none
          else none
        else
          some (false)
        else none
        else none
      else
        some (false)
    else
      some (false)
theorem law47_awake_sound {Φ : Bool → Prop} {o} (h : law47_awake_S = some o) (hK : Φ o) : law47_awake_W Φ := by
  unfold law47_awake_S at h
  unfold law47_awake_W
  obtain ⟨_, hv, h⟩ := ofBind h
  refine law47_one_sound _ _ hv ?_; clear hv
  obtain ⟨_, hv, h⟩ := ofBind h
  refine law47_point_sound _ _ _ _ hv ?_; clear hv
  obtain ⟨_, hv, h⟩ := ofBind h
  refine law47_one_sound _ _ hv ?_; clear hv
  obtain ⟨_, hv, h⟩ := ofBind h
  refine law47_point_sound _ _ _ _ hv ?_; clear hv
  obtain ⟨_, hv, h⟩ := ofBind h
  refine reverse_Undo_sound _ _ hv ?_; clear hv
  obtain ⟨_, hv, h⟩ := ofBind h
  refine reverse_Extents_sound _ _ hv ?_; clear hv
  obtain ⟨_, hv, h⟩ := ofBind h
  refine reverse_Cycle_sound _ _ _ _ _ hv ?_; clear hv
  refine And.intro (fun hc => ?_) (fun hc => ?_)
  · replace h := ofT hc h; clear hc
    cases h; exact hK
  · replace h := ofF hc h; clear hc
    obtain ⟨_, hv, h⟩ := ofBind h
    refine ref47_SameExtents_sound _ _ hv ?_; clear hv
    refine And.intro (fun hc => ?_) (fun hc => ?_)
    · replace h := ofT hc h; clear hc
      obtain ⟨_, hv, h⟩ := ofBind h
      refine ref47_SameExtents_sound _ _ hv ?_; clear hv
      refine And.intro (fun hc => ?_) (fun hc => ?_)
      · replace h := ofT hc h; clear hc
        obtain ⟨hg, h⟩ := ofIf h
        refine And.intro hg ?_; clear hg
        obtain ⟨hg, h⟩ := ofIf h
        refine And.intro hg ?_; clear hg
        refine And.intro (fun hc => ?_) (fun hc => ?_)
        · replace h := ofT hc h; clear hc
          obtain ⟨hg, h⟩ := ofIf h
          refine And.intro hg ?_; clear hg
          obtain ⟨hg, h⟩ := ofIf h
          refine And.intro hg ?_; clear hg
          cases h; exact hK
        · replace h := ofF hc h; clear hc
          cases h; exact hK
      · replace h := ofF hc h; clear hc
        cases h; exact hK
    · replace h := ofF hc h; clear hc
      cases h; exact hK
end Go.Proofs.YtahlanamngfkcaaDoor

namespace Go.Proofs.YtahlanamngfkcaaDoor
open Go.RowKit
structure FewPt (p : api_Point) : Prop where
  lin : p.Lineage.length ≤ 20
  dirty : p.Dirty.length ≤ 10
  img : p.Image.length ≤ 9
  vol : ∀ k : Nat, k < p.Image.length → (ix p.Image (k : Int)).length ≤ 24
  wd : ∀ k : Nat, k < p.Dirty.length → (ix p.Dirty (k : Int)).Words.length ≤ 8
theorem ref07_Few_ok {im : List (List Sec)} {Φ : Bool → Prop} (hF : Φ false) (hT : im.length ≤ 9 → (∀ k : Nat, k < im.length → (ix im (k : Int)).length ≤ 24) → Φ true) : ref07_Few_W im Φ := by
  refine ⟨fun _ => hF, fun h9 => ?_⟩
  refine LoopW.up im.length (fun k => ∀ j : Nat, j < k → (ix im (j : Int)).length ≤ 24) ?_ (k0 := 0) rfl (Nat.zero_le _) (fun j hj => absurd hj (Nat.not_lt_zero j))
  intro k rec hk hI hrec
  refine ⟨fun hlt => ⟨iX (by omega) hlt, fun _ => hF, fun q => ⟨iI (by omega) (by omega), hrec (by omega) fun j hj => ?_⟩⟩, fun hge => hT (by omega) fun j hj => hI j (by omega)⟩
  rcases Nat.lt_or_ge j k with h | h
  · exact hI j h
  · have : j = k := by omega
    subst this; omega
theorem ref47_Few_ok {p : api_Point} {Φ : Bool → Prop} (hF : Φ false) (hT : FewPt p → Φ true) : ref47_Few_W p Φ := by
  refine LoopW.up (min p.Dirty.length 10) (fun k => ∀ j : Nat, j < k → (ix p.Dirty (j : Int)).Words.length ≤ 8) ?_ (k0 := 0) rfl (Nat.zero_le _) (fun j hj => absurd hj (Nat.not_lt_zero j))
  intro k rec hk hI hrec
  refine ⟨fun hlt => ⟨iX (by omega) hlt.1, fun _ => hF, fun q => ⟨iI (by omega) (by omega), hrec (by omega) fun j hj => ?_⟩⟩, fun hge => ⟨fun h1 => ⟨fun h2 => ref07_Few_ok hF fun h3 h4 => hT ⟨by omega, by omega, h3, h4, fun j hj => hI j (by omega)⟩, fun _ => hF⟩, fun _ => hF⟩⟩
  rcases Nat.lt_or_ge j k with h | h
  · exact hI j h
  · have : j = k := by omega
    subst this; omega
def lastTo (l : List api_Span) : Int := if (l.length : Int) = 0 then 0 else (ix l ((l.length : Int) - 1)).To
theorem reverse_last_ok {l : List api_Span} {Φ : Int → Prop} (hl : l.length ≤ 1000000) (hΦ : Φ (lastTo l)) : reverse_last_W l Φ := by
  unfold lastTo at hΦ
  refine ⟨fun h => by rw [if_pos h] at hΦ; exact hΦ, fun h => ⟨iI (by omega) (by omega), iX (by omega) (by omega), by rw [if_neg h] at hΦ; exact hΦ⟩⟩
def undoR (p : api_Point) (n : Int) : List (List api_Extent) × Int := if ptE p ≠ 0 then ([], ptE p) else if n < 0 ∨ lastTo p.Lineage < n then ([], 2) else (p.Dirty.map exts, 0)
theorem reverse_Undo_ok {p : api_Point} {n : Int} {Φ : List (List api_Extent) × Int → Prop} (hl : p.Lineage.length ≤ 1000000) (hi : p.Image.length ≤ 100000) (hd : p.Dirty.length ≤ 100000) (hΦ : Φ (undoR p n)) : reverse_Undo_W p n Φ := by
  unfold undoR at hΦ
  refine delta_Check_ok hl hi ⟨fun q => by rw [if_pos q] at hΦ; exact hΦ, fun q => ⟨fun q2 => ?_, fun q2 => reverse_last_ok hl ⟨fun q3 => ?_, fun q3 => ?_⟩⟩⟩
  · rw [if_neg q, if_pos (.inl q2)] at hΦ; exact hΦ
  · rw [if_neg q, if_pos (.inr q3)] at hΦ; exact hΦ
  · rw [if_neg q, if_neg (by omega)] at hΦ
    exact LoopW.mapL p.Dirty exts (fun k acc rec hk hal _ hrec => ⟨fun _ => ⟨iX (by omega) (by omega), bitmap_Extents_ok ⟨iL (by simp only [List.length_append, List.length_cons, List.length_nil]; omega) (by omega), iI (by omega) (by omega), hrec⟩⟩, fun q => absurd (by omega) q⟩) fun rec => ⟨fun q => absurd q (by omega), fun _ => hΦ⟩
theorem ref47_Undo_ok {p : api_Point} {n : Int} {Φ : List (List api_Extent) × Int → Prop} (hl : p.Lineage.length ≤ 1000000) (hi : p.Image.length ≤ 100000) (hd : p.Dirty.length ≤ 100000) (hΦ : Φ (undoR p n)) : ref47_Undo_W p n Φ := by
  unfold undoR at hΦ
  have e : (if 0 < (p.Lineage.length : Int) then (ix p.Lineage ((p.Lineage.length : Int) - 1)).To else 0) = lastTo p.Lineage := by
    unfold lastTo
    by_cases h : (p.Lineage.length : Int) = 0
    · rw [if_pos h, if_neg (by omega)]
    · rw [if_neg h, if_pos (by omega)]
  refine ref46_Check_ok hl hi ⟨fun q => by rw [if_pos q] at hΦ; exact hΦ, fun q => ⟨fun q2 => ⟨iI (by omega) (by omega), iX (by omega) (by omega)⟩, fun q2 => ?_, fun q2 => ?_⟩⟩
  · rw [e] at q2; rw [if_neg q, if_pos q2] at hΦ; exact hΦ
  · rw [e] at q2; rw [if_neg q, if_neg q2] at hΦ
    exact LoopW.mapL p.Dirty exts (fun k acc rec hk hal _ hrec => ⟨fun _ => ⟨iX (by omega) (by omega), ref02_Extents_ok ⟨iL (by simp only [List.length_append, List.length_cons, List.length_nil]; omega) (by omega), iI (by omega) (by omega), hrec⟩⟩, fun q => absurd (by omega) q⟩) fun rec => ⟨fun q => absurd q (by omega), fun _ => hΦ⟩
theorem ref47_SameExtents_refl {a : List (List api_Extent)} {Φ : Bool → Prop} (hl : a.length ≤ 1000000) (hl2 : ∀ x ∈ a, x.length ≤ 1000000) (hΦ : Φ true) : ref47_SameExtents_W a a Φ := by
  refine ⟨fun h => absurd rfl h, fun _ => ?_⟩
  refine LoopW.up a.length (fun _ => True) ?_ (k0 := 0) rfl (Nat.zero_le _) trivial
  intro k rec hk _ hrec
  exact ⟨fun hlt => ⟨iX (by omega) hlt, iX (by omega) hlt, true, ref02_SameExtents_ok (hl2 _ (ix_mem (iX (by omega) hlt))) (decide_eq_true rfl), fun q => absurd rfl q, fun _ => ⟨iI (by omega) (by omega), hrec (by omega) trivial⟩⟩, fun _ => hΦ⟩
theorem undoR_len (p : api_Point) (n : Int) : (undoR p n).1.length ≤ p.Dirty.length ∧ ∀ x ∈ (undoR p n).1, x.length ≤ 1000000 := by
  unfold undoR
  split
  · exact ⟨Nat.zero_le _, fun x hx => absurd hx List.not_mem_nil⟩
  split
  · exact ⟨Nat.zero_le _, fun x hx => absurd hx List.not_mem_nil⟩
  · refine ⟨by simp, fun x hx => ?_⟩
    obtain ⟨y, _, rfl⟩ := List.mem_map.1 hx
    exact Nat.le_trans (exts_len y) (by decide)
theorem marks_len (a b : api_Point) : (marks a b).length = a.Dirty.length ∧ ∀ x ∈ marks a b, x.length ≤ 1000000 := by
  refine ⟨by simp [marks], fun x hx => ?_⟩
  obtain ⟨y, _, rfl⟩ := List.mem_map.1 hx
  exact Nat.le_trans (exts_len _) (by decide)
theorem betR_len (a b : api_Point) : (betR a b).1.length ≤ a.Dirty.length ∧ ∀ x ∈ (betR a b).1, x.length ≤ 1000000 := by
  unfold betR
  split
  · exact ⟨Nat.zero_le _, fun x hx => absurd hx List.not_mem_nil⟩
  split
  · exact ⟨Nat.zero_le _, fun x hx => absurd hx List.not_mem_nil⟩
  split
  · exact ⟨Nat.zero_le _, fun x hx => absurd hx List.not_mem_nil⟩
  · exact ⟨Nat.le_of_eq (marks_len a b).1, (marks_len a b).2⟩
theorem law47_awake_ok {Φ : Bool → Prop} (h : Φ true) : law47_awake_W Φ := law47_awake_sound (by kernel_rfl) h
theorem reverseUndoes_law (a b : api_Point) (n : Int) (_ : Rg.rg a) (_ : Rg.rg b) (_ : Rg.rg n) : law47_ReverseUndoes_W a b n fun v => v = true := by
  refine ref47_Few_ok ⟨fun _ => law47_awake_ok rfl, fun q => absurd (by simp) q⟩ fun ha => ⟨fun q => absurd rfl q, fun _ => ref47_Few_ok ⟨fun _ => law47_awake_ok rfl, fun q => absurd (by simp) q⟩ fun hb => ⟨fun q => absurd rfl q, fun _ => ?_⟩⟩
  have h1 := ha.lin
  have h2 := ha.dirty
  have h3 := ha.img
  have h4 := hb.lin
  have h6 := hb.img
  refine reverse_Undo_ok (by omega) (by omega) (by omega) (ref47_Undo_ok (by omega) (by omega) (by omega) (delta_Between_ok (by omega) (by omega) (by omega) (by omega) (ref46_Between_ok (by omega) (by omega) (by omega) (by omega) (law47_awake_ok ⟨fun _ => ?_, fun q => absurd rfl q⟩))))
  obtain ⟨u1, u2⟩ := undoR_len a n
  obtain ⟨b1, b2⟩ := betR_len a b
  exact ref47_SameExtents_refl (Nat.le_trans u1 (by omega)) u2 ⟨fun _ => ⟨fun _ => ref47_SameExtents_refl (Nat.le_trans b1 (by omega)) b2 ⟨fun _ => decide_eq_true rfl, fun q => absurd rfl q⟩, fun q => absurd rfl q⟩, fun q => absurd rfl q⟩
end Go.Proofs.YtahlanamngfkcaaDoor

namespace Go.Proofs.YtahlanamngfkcaaDoor
open Go.RowKit Go.ChangeShapes Go.WideShapes Go.ChangeAt
set_option maxRecDepth 100000 in
theorem reverseUndoes_lifted (os : Os) (started : os.Started) (H : Type) (enc : TypeId × Value → H) :
    ReturnsInHanded {} Tryd.checked os 3 .any (fun w args => (Rows.reverseUndoesSpec.pre enc Tryd.prog Tryd.f3 [] false w args ∧ laidMetH Tryd.prog [("math/bits.deBruijn64tab", Rows.laid_math_bits_deBruijn64tab)] w) ∧ sizedMet enc Tryd.prog Tryd.f3 (OpenSpec.ofChange Rows.reverseUndoesSpec) false w args)
      (Rows.reverseUndoesSpec.post enc Tryd.prog Tryd.f3 false true false false) := by
  refine returnsInHanded_of_change_and (C := Tryd.checked) (X := fun w _ => laidMetH Tryd.prog [("math/bits.deBruijn64tab", Rows.laid_math_bits_deBruijn64tab)] w) (fun _ _ _ hh h => h.of_heap hh) Tryd.own started (by kernel_rfl) Tryd.func3
    (ChangeSpec.witness_shaped (enc := enc) (C := Tryd.checked) (os := os) (X := fun w _ => laidMetH Tryd.prog [("math/bits.deBruijn64tab", Rows.laid_math_bits_deBruijn64tab)] w) false (World.doorLaid Tryd.prog 14 os) #[.agg #[.int .i64 (0), .slice none 0 0, .slice none 0 0, .slice none 0 0], .agg #[.int .i64 (0), .slice none 0 0, .slice none 0 0, .slice none 0 0], .int .i64 0] 8 rfl (World.shaped_of_RefB (by kernel_rfl) (by kernel_rfl)) (by kernel_rfl) (by kernel_rfl) (by kernel_rfl) (Tryd.doorMet os _)) ?_
  intro W base args ds gs before hval0 hW _ _ hL _
  have hval : ∀ (j : Nat) t v, Tryd.f3.params[j]? = some t → args[j]? = some v → Value.okWide Tryd.prog W .any base t v := hval0
  have hW' := hW
  obtain ⟨p, q, hA0, hV, hpq, _, _⟩ := hW
  have hA : DataW.TrodAll enc Tryd.prog W 0 (fun _ => true) true Tryd.f3.params.toList args.toList ds p := hA0
  rw [Tryd.params3] at hA hval
  obtain ⟨v0, v1, v2, d0, d1, d2, p0, p1, p2, rfl, rfl, rfl, h0, h1, h2⟩ := trodAll_three hA
  obtain ⟨rfl, rfl⟩ := trodVars_none hV
  have hT := tabHolds hL
  obtain ⟨_, x0, rfl, hr0, hg0⟩ := open_strD Tryd.underlying27 rd27 (hval 0 27 v0 rfl rfl) h0
  obtain ⟨A2, n2, c2, s2, A3, n3, c3, s3, A4, n4, c4, s4, rfl, hF2, hF3, hF4⟩ := hr0
  obtain ⟨_, x1, rfl, hr1, hg1⟩ := open_strD Tryd.underlying27 rd27 (hval 1 27 v1 rfl rfl) h1
  obtain ⟨A19, n19, c19, s19, A20, n20, c20, s20, A21, n21, c21, s21, rfl, hF19, hF20, hF21⟩ := hr1
  obtain ⟨x2, rfl, hg2⟩ := open_iD Tryd.underlying3 (hval 2 3 v2 rfl rfl) h2
  refine Calls.mono ((RetP.toV (y := true) (F := fun z => .bool z) (law47_ReverseUndoes_lift hT x0 x1 x2 hF2 hF3 hF4 hF19 hF20 hF21 (reverseUndoes_law x0 x1 x2 hg0 hg1 hg2))) W fun b o e => e) ?_
  rintro e W' ⟨v, _, rfl, _, _, _, hb, rfl⟩
  exact ⟨_, rfl, post_law Tryd.laidOut Tryd.underlying4 rfl (by kernel_rfl) hW' rfl rfl hb⟩
theorem reverseUndoes_holds : Rows.ReverseUndoesSaid :=
  OpenClaim.holds_of_wide 3 Tryd.f3 rfl rfl rfl rfl rfl rfl rfl ⟨rfl, rfl, rfl, rfl, rfl⟩ rfl rfl rfl rfl rfl (by kernel_rfl) Tryd.func3 (by kernel_rfl)
    (of_decide_eq_true (by kernel_rfl)) (by unfold Func.isWrapper; first | (rw [if_pos (by decide +kernel)]; kernel_rfl) | (rw [if_neg (by decide +kernel)]; exact ⟨rfl, rfl⟩))
    (fun os started H enc _ => reverseUndoes_lifted os started H enc)
theorem reverseUndoes_card : Rows.ReverseUndoesCardSaid :=
  Claim7.holds_tied_plain_at .later [] [.data] true (true, "0fbea9f7a9363770ef7d7c442e923654834488058ca280ed95a31cbd94370fd7") false
    reverseUndoes_holds (fun _ h => by cases h) (by kernel_rfl) (fun _ h => by cases h) reverseUndoes_row_tie rfl ⟨rfl, rfl⟩ (by kernel_rfl) rfl
    (fun f fn hf hfn => by
      obtain rfl : f = 3 := Option.some.inj ((show Tryd.prog.funcNamed "standby/standbylaw47.ReverseUndoes" = some 3 by kernel_rfl).symm.trans hf) |>.symm
      obtain rfl : fn = Tryd.f3 := (Option.some.inj (Tryd.func3.symm.trans hfn)).symm
      exact ⟨by kernel_rfl, fun j t ht => by
        rw [Tryd.params3] at ht
        have hm : t ∈ [27, 3] := by
          have := Array.mem_of_getElem? ht
          simpa using this
        have hall : ([27, 3].all fun u => !Tryd.prog.wantsStandIn u) = true := by kernel_rfl
        exact (show Tryd.prog.wantsStandIn t = false by simpa using List.all_eq_true.1 hall t hm)⟩)
    (by kernel_rfl)
end Go.Proofs.YtahlanamngfkcaaDoor
