/- Proved: the tied card of the statement ReverseTurns: for every argument that can be read the law returns true and leaves its arguments as they were. Conditions: the row's own alone: the table math/bits.deBruijn64tab reads as listed, which the card ties to the program's text. -/
import Derived.Test.YtahlanamngfkcaaDoorM6
namespace Go.Proofs.YtahlanamngfkcaaDoor
open Go.RowKit
def sameSz (a b : List (List Sec)) : Bool := decide (szs a = szs b)
theorem szs_len (a : List (List Sec)) : (szs a).length = a.length := List.length_map _
theorem ix_szs {a : List (List Sec)} {k : Nat} (h : k < a.length) : ix (szs a) (k : Int) = ((ix a (k : Int)).length : Int) := by
  rw [ix_get (by rw [szs_len]; exact h), ix_get h]
  simp [szs]
theorem sameSz_allN {a b : List (List Sec)} (hl : a.length = b.length) : sameSz a b = allN (fun k => decide (((ix a (k : Int)).length : Int) = ((ix b (k : Int)).length : Int))) a.length := by
  unfold sameSz
  rw [Bool.eq_iff_iff, allN_true, decide_eq_true_iff]
  constructor
  · intro h k hk
    refine decide_eq_true ?_
    rw [← ix_szs hk, ← ix_szs (by omega), h]
  · intro h
    refine ext_ix (by rw [szs_len, szs_len, hl]) fun k hk => ?_
    rw [szs_len] at hk
    rw [ix_szs hk, ix_szs (by omega)]
    exact of_decide_eq_true (h k hk)
def markK (a b : api_Point) (k : Nat) : List api_Extent := exts (orB (ix a.Dirty (k : Int)) (ix b.Dirty (k : Int))).1
def marks (a b : api_Point) : List (List api_Extent) := (List.range a.Dirty.length).map (markK a b)
structure Fit (a b : api_Point) : Prop where
  da : a.Dirty.length = a.Image.length
  db : b.Dirty.length = a.Image.length
  n8 : a.Image.length ≤ 8
  ca : ∀ k : Nat, k < a.Image.length → chkB (ix a.Dirty (k : Int)) = 0 ∧ (ix a.Dirty (k : Int)).Size = ((ix a.Image (k : Int)).length : Int)
  cb : ∀ k : Nat, k < a.Image.length → chkB (ix b.Dirty (k : Int)) = 0 ∧ (ix b.Dirty (k : Int)).Size = ((ix a.Image (k : Int)).length : Int)
theorem ptE_zero {p : api_Point} (h : ptE p = 0) : p.Dirty.length = p.Image.length ∧ p.Image.length ≤ 8 ∧ ∀ k : Nat, k < p.Image.length → chkB (ix p.Dirty (k : Int)) = 0 ∧ (ix p.Dirty (k : Int)).Size = ((ix p.Image (k : Int)).length : Int) := by
  unfold ptE at h
  split at h
  · omega
  split at h
  · omega
  split at h
  · omega
  rename_i hi
  split at h
  · omega
  rename_i hd
  have hz := firstN_zero.1 h
  have h8 : p.Image.length ≤ 8 := by
    unfold imgE sizesE at hi
    rw [szs_len] at hi
    by_cases hq : (p.Image.length : Int) < 1 ∨ 8 < (p.Image.length : Int)
    · rw [if_pos hq] at hi; omega
    · omega
  refine ⟨by omega, h8, fun k hk => ?_⟩
  have := hz k (by omega)
  unfold dirtyE at this
  split at this
  · rename_i hq; exact absurd this hq
  · rename_i hq
    split at this
    · omega
    · rename_i hs; exact ⟨Classical.not_not.1 hq, Classical.not_not.1 hs⟩
theorem fit_of {a b : api_Point} (ha : ptE a = 0) (hb : ptE b = 0) (hs : sameSz a.Image b.Image = true) : Fit a b := by
  obtain ⟨a1, a2, a3⟩ := ptE_zero ha
  obtain ⟨b1, b2, b3⟩ := ptE_zero hb
  have hl : a.Image.length = b.Image.length := by
    have := congrArg List.length (of_decide_eq_true hs)
    rwa [szs_len, szs_len] at this
  rw [sameSz_allN hl, allN_true] at hs
  exact ⟨a1, by omega, a2, a3, fun k hk => by rw [of_decide_eq_true (hs k hk)]; exact b3 k (by omega)⟩
theorem Fit.or {a b : api_Point} (h : Fit a b) {k : Nat} (hk : k < a.Image.length) : (orB (ix a.Dirty (k : Int)) (ix b.Dirty (k : Int))).1 = ⟨(ix a.Dirty (k : Int)).Size, List.zipWith (fun x y => x ||| y) (ix a.Dirty (k : Int)).Words (ix b.Dirty (k : Int)).Words⟩ ∧
    chk (ix a.Dirty (k : Int)).Size (List.zipWith (fun x y => x ||| y) (ix a.Dirty (k : Int)).Words (ix b.Dirty (k : Int)).Words) = 0 := by
  obtain ⟨c1, c2⟩ := h.ca k hk
  obtain ⟨d1, d2⟩ := h.cb k hk
  have hs : (ix b.Dirty (k : Int)).Size = (ix a.Dirty (k : Int)).Size := by omega
  unfold chkB at c1 d1
  refine ⟨?_, ?_⟩
  · unfold orB
    rw [bothR_ok (bothE_4 (by simpa using c1) (by simpa using d1) (by omega))]; rfl
  · rw [hs] at d1
    exact chk_zip (· || ·) rfl (fun _ _ _ _ => BitVec.getLsbD_or) c1 d1
theorem Fit.len {a b : api_Point} (hf : Fit a b) {k : Nat} (hk : k < a.Image.length) : (ix a.Image (k : Int)).length ≤ 4096 := by
  have h := hf.ca k hk
  have := chkB_len (b := ix a.Dirty (k : Int)) (by rw [h.1]; simp)
  omega
def orK {S R : Type} (a : S → Prop) (b : R → Prop) : S ⊕ R → Prop
  | .inl s => a s
  | .inr r => b r
def loopS {S R : Type} (step : S → Option (S ⊕ R)) : Nat → S → Option R
  | 0, _ => none
  | n + 1, s => match step s with
    | none => none
    | some (.inl s') => loopS step n s'
    | some (.inr r) => some r
theorem LoopW.of_S {S R : Type} {step : S → (S → Prop) → Prop} {stepS : S → Option (S ⊕ R)} {K : R → Prop} (hs : ∀ s q rec, stepS s = some q → orK rec K q → step s rec) : ∀ (n : Nat) (s : S) {o : R}, loopS stepS n s = some o → K o → LoopW step s := by
  intro n s o h hK
  refine ⟨n, ?_⟩
  induction n generalizing s with
  | zero => cases h
  | succ n ih =>
    unfold loopS at h
    split at h
    · cases h
    · rename_i s' e
      exact hs s _ _ e (ih s' h)
    · rename_i r e
      cases h
      exact hs s _ _ e hK
theorem ofBind {α β : Type} {x : Option α} {f : α → Option β} {o : β} (h : Option.bind x f = some o) : ∃ v, x = some v ∧ f v = some o := Option.bind_eq_some_iff.1 h
theorem ofIf {α : Type} {p : Prop} [Decidable p] {x : Option α} {o : α} (h : (if p then x else none) = some o) : p ∧ x = some o := by
  by_cases hp : p
  · rw [if_pos hp] at h; exact ⟨hp, h⟩
  · rw [if_neg hp] at h; cases h
theorem ofT {α : Type} {p : Prop} [Decidable p] {x y : Option α} {o : α} (hp : p) (h : (if p then x else y) = some o) : x = some o := by rw [if_pos hp] at h; exact h
theorem ofF {α : Type} {p : Prop} [Decidable p] {x y : Option α} {o : α} (hp : ¬ p) (h : (if p then x else y) = some o) : y = some o := by rw [if_neg hp] at h; exact h
def bothS {α : Type} [DecidableEq α] (b : Bool) (x y : Option α) : Option α := if b = true then (if x = y then x else none) else y
theorem ofBoth {α : Type} [DecidableEq α] {b : Bool} {x y : Option α} {o : α} (h : bothS b x y = some o) : (b = true → x = some o) ∧ y = some o := by
  unfold bothS at h
  by_cases hb : b = true
  · rw [if_pos hb] at h
    by_cases he : x = y
    · rw [if_pos he] at h; exact ⟨fun _ => h, he ▸ h⟩
    · rw [if_neg he] at h; cases h
  · rw [if_neg hb] at h; exact ⟨fun q => absurd q hb, h⟩
theorem lfS {α : Type} {K : α → Prop} {a o : α} (h : some a = some o) (hK : K o) : K a := by
  cases h; exact hK
theorem mgS {α : Type} {x : Option Unit} {f : Unit → Option α} {o : α} {A B : Prop} (h : Option.bind x f = some o) (a : x = some () → True → A) (b : f () = some o → B) : A ∧ B := by
  obtain ⟨_, h1, h2⟩ := ofBind h
  exact ⟨a h1 trivial, b h2⟩
theorem adS {α : Type} {p : Prop} [Decidable p] {x : Option α} {o : α} {B : Prop} (h : (if p then x else none) = some o) (b : x = some o → B) : p ∧ B := ⟨(ofIf h).1, b (ofIf h).2⟩
theorem ifS {α : Type} {p : Prop} [Decidable p] {x y : Option α} {o : α} {A B : Prop} (h : (if p then x else y) = some o) (a : x = some o → A) (b : y = some o → B) : (p → A) ∧ (¬ p → B) := ⟨fun c => a (ofT c h), fun c => b (ofF c h)⟩
theorem imS {α : Type} {p : Prop} [Decidable p] {x y : Option α} {o : α} {A : Prop} (h : (if p then x else y) = some o) (a : x = some o → A) : p → A := fun c => a (ofT c h)
theorem nlS {α β : Type} [DecidableEq α] {l : List β} {x y : Option α} {o : α} {A B : Prop} (h : bothS l.isEmpty x y = some o) (a : x = some o → A) (b : y = some o → B) : (l = [] → A) ∧ B := ⟨fun c => a ((ofBoth h).1 (List.isEmpty_iff.2 c)), b (ofBoth h).2⟩
theorem blS {α β : Type} {x : Option α} {f : α → Option β} {o : β} {G : Prop} (h : Option.bind x f = some o) (k : ∀ v, x = some v → f v = some o → G) : G := by
  obtain ⟨v, h1, h2⟩ := ofBind h
  exact k v h1 h2
instance decI (x : Int) : Decidable (inI x) := inferInstanceAs (Decidable (_ ∧ _))
instance decX (i : Int) (n : Nat) : Decidable (inX i n) := inferInstanceAs (Decidable (_ ∧ _))
instance decS (a b : Int) (n : Nat) : Decidable (inS a b n) := inferInstanceAs (Decidable (_ ∧ _))
instance decL (n b : Nat) : Decidable (lenOk n b) := inferInstanceAs (Decidable (_ ∧ _))
def bitmap_Extents_S (x0 : api_Bitmap) : Option (List api_Extent) := some ((extR x0.Size x0.Words).map fun e => ⟨e.1, e.2⟩)
theorem bitmap_Extents_sound (x0 : api_Bitmap) {Φ : List api_Extent → Prop} {o} (h : bitmap_Extents_S x0 = some o) (hK : Φ o) : bitmap_Extents_W x0 Φ := by
  cases h; exact hK
def law47_one_S (x0 : Int) (x1 : BitVec 8) : Option (api_Write) :=
 some ((api_Write.mk 0 x0 ([(Sec.mk x1 (0#8) (0#8) (0#8) (0#8) (0#8) (0#8) (0#8))] : List Sec)))
theorem law47_one_sound (x0 : Int) (x1 : BitVec 8) {Φ : api_Write → Prop} {o} (h : law47_one_S x0 x1 = some o) (hK : Φ o) : law47_one_W x0 x1 Φ := by
 unfold law47_one_S at h
 unfold law47_one_W
 exact have t := lfS h hK; t
def ref07_SizesOf_L1_S (x0 : List (List Sec)) : (List Int × Int) → Option ((List Int × Int) ⊕ (List Int))
 | (v4, v11) =>
  if v11 < (x0.length : Int) then
   if inX v11 x0.length then
   if lenOk (v4 ++ ([((ix x0 v11).length : Int)] : List Int)).length 8 then
   if inI (v11 + 1) then
   some (.inl ((v4 ++ ([((ix x0 v11).length : Int)] : List Int)), v11 + 1))
   else none
   else none
   else none
  else
   some (.inr v4)
theorem ref07_SizesOf_L1_sound (x0 : List (List Sec)) (s : List Int × Int) {Φ : List Int → Prop} {rec1 : (List Int × Int) → Prop} {o} (h : ref07_SizesOf_L1_S x0 s = some o) (hK : (orK rec1 Φ) o) : ref07_SizesOf_L1 x0 Φ s rec1 := by
 obtain ⟨v4, v11⟩ := s
 unfold ref07_SizesOf_L1_S at h
 unfold ref07_SizesOf_L1
 exact ifS h (fun h => adS h fun h => adS h fun h => adS h fun h => have t := lfS h hK; t) fun h => have t := lfS h hK; t
def ref07_SizesOf_S (x0 : List (List Sec)) : Option (List Int) :=
 loopS (ref07_SizesOf_L1_S x0) 100000 (([] : List Int), 0)
theorem ref07_SizesOf_sound (x0 : List (List Sec)) {Φ : List Int → Prop} {o} (h : ref07_SizesOf_S x0 = some o) (hK : Φ o) : ref07_SizesOf_W x0 Φ := by
 unfold ref07_SizesOf_S at h
 unfold ref07_SizesOf_W
 exact LoopW.of_S (fun s q rec hs hq => ref07_SizesOf_L1_sound _ s hs hq) _ _ h hK
def ref07_Sizes_L1_S (x0 : List Int) : (Int) → Option ((Int) ⊕ (Int))
 | (v6) =>
  if v6 < (x0.length : Int) then
   Option.bind (
    if inX v6 x0.length then some () else none : Option Unit) fun _ =>
   if ((ix x0 v6) < 1) ∨ (4096 < (ix x0 v6)) then
    some (.inr 2)
   else
    if inI (v6 + 1) then
    some (.inl (v6 + 1))
    else none
  else
   some (.inr 0)
theorem ref07_Sizes_L1_sound (x0 : List Int) (s : Int) {Φ : Int → Prop} {rec1 : (Int) → Prop} {o} (h : ref07_Sizes_L1_S x0 s = some o) (hK : (orK rec1 Φ) o) : ref07_Sizes_L1 x0 Φ s rec1 := by
 unfold ref07_Sizes_L1_S at h
 unfold ref07_Sizes_L1
 exact ifS h (fun h => mgS h (fun h hK => (ofIf h).1) fun h => ifS h (fun h => have t := lfS h hK; t) fun h => adS h fun h => have t := lfS h hK; t) fun h => have t := lfS h hK; t
def ref07_Sizes_S (x0 : List Int) : Option (Int) :=
 if ((x0.length : Int) < 1) ∨ (8 < (x0.length : Int)) then
  some (6)
 else
  loopS (ref07_Sizes_L1_S x0) 100000 (0)
theorem ref07_Sizes_sound (x0 : List Int) {Φ : Int → Prop} {o} (h : ref07_Sizes_S x0 = some o) (hK : Φ o) : ref07_Sizes_W x0 Φ := by
 unfold ref07_Sizes_S at h
 unfold ref07_Sizes_W
 exact ifS h (fun h => have t := lfS h hK; t) fun h => LoopW.of_S (fun s q rec hs hq => ref07_Sizes_L1_sound _ s hs hq) _ _ h hK
def ref07_Check_S (x0 : List (List Sec)) : Option (Int) :=
 Option.bind (ref07_SizesOf_S x0) fun v2 =>
 Option.bind (ref07_Sizes_S v2) fun v11 =>
 some (v11)
theorem ref07_Check_sound (x0 : List (List Sec)) {Φ : Int → Prop} {o} (h : ref07_Check_S x0 = some o) (hK : Φ o) : ref07_Check_W x0 Φ := by
 unfold ref07_Check_S at h
 unfold ref07_Check_W
 exact blS h fun _ hv h => ref07_SizesOf_sound _ hv (blS h fun _ hv h => ref07_Sizes_sound _ hv (have t := lfS h hK; t))
def ref07_Copy_L1_S (x0 : List (List Sec)) : (List (List Sec) × Int) → Option ((List (List Sec) × Int) ⊕ (List (List Sec)))
 | (v4, v12) =>
  if v12 < (x0.length : Int) then
   if inX v12 x0.length then
   if lenOk (([] : List Sec) ++ (ix x0 v12)).length 8 then
   if lenOk (v4 ++ [(([] : List Sec) ++ (ix x0 v12))]).length 24 then
   if inI (v12 + 1) then
   some (.inl ((v4 ++ [(([] : List Sec) ++ (ix x0 v12))]), v12 + 1))
   else none
   else none
   else none
   else none
  else
   some (.inr v4)
theorem ref07_Copy_L1_sound (x0 : List (List Sec)) (s : List (List Sec) × Int) {Φ : List (List Sec) → Prop} {rec1 : (List (List Sec) × Int) → Prop} {o} (h : ref07_Copy_L1_S x0 s = some o) (hK : (orK rec1 Φ) o) : ref07_Copy_L1 x0 Φ s rec1 := by
 obtain ⟨v4, v12⟩ := s
 unfold ref07_Copy_L1_S at h
 unfold ref07_Copy_L1
 exact ifS h (fun h => adS h fun h => adS h fun h => adS h fun h => adS h fun h => have t := lfS h hK; t) fun h => have t := lfS h hK; t
def ref07_Copy_S (x0 : List (List Sec)) : Option (List (List Sec)) :=
 loopS (ref07_Copy_L1_S x0) 100000 (([] : List (List Sec)), 0)
theorem ref07_Copy_sound (x0 : List (List Sec)) {Φ : List (List Sec) → Prop} {o} (h : ref07_Copy_S x0 = some o) (hK : Φ o) : ref07_Copy_W x0 Φ := by
 unfold ref07_Copy_S at h
 unfold ref07_Copy_W
 exact LoopW.of_S (fun s q rec hs hq => ref07_Copy_L1_sound _ s hs hq) _ _ h hK
def ref07_FitsSizes_S (x0 : List Int) (x1 : api_Write) : Option (Int) :=
 if (x1.Volume < 0) ∨ ((x0.length : Int) ≤ x1.Volume) then
  some (7)
 else
  if (x1.Data.length : Int) = 0 then
   some (1)
  else
   Option.bind (
    if ¬ (x1.Start < 0) then
     if inX x1.Volume x0.length then
     if ¬ ((ix x0 x1.Volume) ≤ x1.Start) then
      if inI ((ix x0 x1.Volume) - x1.Start) then some () else none
     else some ()
     else none
    else some () : Option Unit) fun _ =>
   if (x1.Start < 0) ∨ (((ix x0 x1.Volume) ≤ x1.Start) ∨ (((ix x0 x1.Volume) - x1.Start) < (x1.Data.length : Int))) then
    some (2)
   else
    some (0)
theorem ref07_FitsSizes_sound (x0 : List Int) (x1 : api_Write) {Φ : Int → Prop} {o} (h : ref07_FitsSizes_S x0 x1 = some o) (hK : Φ o) : ref07_FitsSizes_W x0 x1 Φ := by
 unfold ref07_FitsSizes_S at h
 unfold ref07_FitsSizes_W
 exact ifS h (fun h => have t := lfS h hK; t) fun h => ifS h (fun h => have t := lfS h hK; t) fun h => mgS h (fun h hK => imS h fun h => adS h fun h => imS h fun h => (ofIf h).1) fun h => ifS h (fun h => have t := lfS h hK; t) fun h => have t := lfS h hK; t
def ref07_Fits_S (x0 : List (List Sec)) (x1 : api_Write) : Option (Int) :=
 Option.bind (ref07_Check_S x0) fun v4 =>
 if v4 ≠ 0 then
  some (v4)
 else
  Option.bind (ref07_SizesOf_S x0) fun v8 =>
  Option.bind (ref07_FitsSizes_S v8 x1) fun v14 =>
  some (v14)
theorem ref07_Fits_sound (x0 : List (List Sec)) (x1 : api_Write) {Φ : Int → Prop} {o} (h : ref07_Fits_S x0 x1 = some o) (hK : Φ o) : ref07_Fits_W x0 x1 Φ := by
 unfold ref07_Fits_S at h
 unfold ref07_Fits_W
 exact blS h fun _ hv h => ref07_Check_sound _ hv (ifS h (fun h => have t := lfS h hK; t) fun h => blS h fun v hv h => ⟨v, ref07_SizesOf_sound _ hv rfl, blS h fun v hv h => ⟨v, ref07_FitsSizes_sound _ _ hv rfl, have t := lfS h hK; t⟩⟩)
def ref07_Apply_L2_S (x1 : List api_Write) (v24 : Int) : (List (List Sec) × Int) → Option ((List (List Sec) × Int) ⊕ ((List (List Sec) × Int) ⊕ (List (List Sec) × Int × Int)))
 | (v37, v45) =>
  if v45 < (((ix x1 v24).Data).length : Int) then
   if inX ((ix x1 v24).Volume) v37.length then
   if inI (((ix x1 v24).Start) + v45) then
   if inX v45 ((ix x1 v24).Data).length then
   if inX (((ix x1 v24).Start) + v45) (ix v37 ((ix x1 v24).Volume)).length then
   if inI (v45 + 1) then
   some (.inl ((put v37 ((ix x1 v24).Volume) (put (ix v37 ((ix x1 v24).Volume)) (((ix x1 v24).Start) + v45) (ix ((ix x1 v24).Data) v45))), v45 + 1))
   else none
   else none
   else none
   else none
   else none
  else
   if inI (v24 + 1) then
   some (.inr (.inl (v37, v24 + 1)))
   else none
theorem ref07_Apply_L2_sound (x1 : List api_Write) (v24 : Int) (s : List (List Sec) × Int) {Φ : List (List Sec) × Int × Int → Prop} {rec1 : (List (List Sec) × Int) → Prop} {rec2 : (List (List Sec) × Int) → Prop} {o} (h : ref07_Apply_L2_S x1 v24 s = some o) (hK : (orK rec2 (orK rec1 Φ)) o) : ref07_Apply_L2 x1 v24 rec1 Φ s rec2 := by
 obtain ⟨v37, v45⟩ := s
 unfold ref07_Apply_L2_S at h
 unfold ref07_Apply_L2
 exact ifS h (fun h => adS h fun h => adS h fun h => adS h fun h => adS h fun h => adS h fun h => have t := lfS h hK; t) fun h => adS h fun h => have t := lfS h hK; t
def ref07_Apply_L1_S (x0 : List (List Sec)) (x1 : List api_Write) : (List (List Sec) × Int) → Option ((List (List Sec) × Int) ⊕ (List (List Sec) × Int × Int))
 | (v16, v24) =>
  if v24 < (x1.length : Int) then
   if inX v24 x1.length then
   Option.bind (ref07_Fits_S x0 (ix x1 v24)) fun v31 =>
   if v31 ≠ 0 then
    some (.inr (([] : List (List Sec)), v24, v31))
   else
    loopS (ref07_Apply_L2_S x1 v24) 100000 (v16, 0)
   else none
  else
   some (.inr (v16, 0, 0))
theorem ref07_Apply_L1_sound (x0 : List (List Sec)) (x1 : List api_Write) (s : List (List Sec) × Int) {Φ : List (List Sec) × Int × Int → Prop} {rec1 : (List (List Sec) × Int) → Prop} {o} (h : ref07_Apply_L1_S x0 x1 s = some o) (hK : (orK rec1 Φ) o) : ref07_Apply_L1 x0 x1 Φ s rec1 := by
 obtain ⟨v16, v24⟩ := s
 unfold ref07_Apply_L1_S at h
 unfold ref07_Apply_L1
 exact ifS h (fun h => adS h fun h => blS h fun _ hv h => ref07_Fits_sound _ _ hv (ifS h (fun h => have t := lfS h hK; t) fun h => LoopW.of_S (fun s q rec hs hq => ref07_Apply_L2_sound _ _ s hs hq) _ _ h hK)) fun h => have t := lfS h hK; t
def ref07_Apply_S (x0 : List (List Sec)) (x1 : List api_Write) : Option (List (List Sec) × Int × Int) :=
 Option.bind (ref07_Check_S x0) fun v3 =>
 if v3 ≠ 0 then
  some ((([] : List (List Sec)), 0, v3))
 else
  Option.bind (ref07_Copy_S x0) fun v7 =>
  loopS (ref07_Apply_L1_S x0 x1) 100000 (v7, 0)
theorem ref07_Apply_sound (x0 : List (List Sec)) (x1 : List api_Write) {Φ : List (List Sec) × Int × Int → Prop} {o} (h : ref07_Apply_S x0 x1 = some o) (hK : Φ o) : ref07_Apply_W x0 x1 Φ := by
 unfold ref07_Apply_S at h
 unfold ref07_Apply_W
 exact blS h fun _ hv h => ref07_Check_sound _ hv (ifS h (fun h => have t := lfS h hK; t) fun h => blS h fun _ hv h => ref07_Copy_sound _ hv (LoopW.of_S (fun s q rec hs hq => ref07_Apply_L1_sound _ _ s hs hq) _ _ h hK))
def ref02_New_S (x0 : Int) : Option (api_Bitmap × Int) :=
 if (x0 < 0) ∨ (4096 < x0) then
  some (((api_Bitmap.mk 0 ([] : List (BitVec 64))), 2))
 else
  if inI (x0 + 63) then
  if 0 ≤ (x0 + 63) ∧ inI (x0 + 63) then
  if 0 ≤ ((x0 + 63) / 64) then
  if lenOk ((x0 + 63) / 64).toNat 8 then
  some (((api_Bitmap.mk x0 (List.replicate ((x0 + 63) / 64).toNat (0#64))), 0))
  else none
  else none
  else none
  else none
theorem ref02_New_sound (x0 : Int) {Φ : api_Bitmap × Int → Prop} {o} (h : ref02_New_S x0 = some o) (hK : Φ o) : ref02_New_W x0 Φ := by
 unfold ref02_New_S at h
 unfold ref02_New_W
 exact ifS h (fun h => have t := lfS h hK; t) fun h => adS h fun h => adS h fun h => adS h fun h => adS h fun h => have t := lfS h hK; t
def ref43_Clean_L1_S (x0 : List Int) : (List api_Bitmap × Int) → Option ((List api_Bitmap × Int) ⊕ (List api_Bitmap))
 | (v4, v11) =>
  if v11 < (x0.length : Int) then
   if inX v11 x0.length then
   Option.bind (ref02_New_S (ix x0 v11)) fun v17 =>
   if lenOk (v4 ++ ([v17.1] : List api_Bitmap)).length 32 then
   if inI (v11 + 1) then
   some (.inl ((v4 ++ ([v17.1] : List api_Bitmap)), v11 + 1))
   else none
   else none
   else none
  else
   some (.inr v4)
theorem ref43_Clean_L1_sound (x0 : List Int) (s : List api_Bitmap × Int) {Φ : List api_Bitmap → Prop} {rec1 : (List api_Bitmap × Int) → Prop} {o} (h : ref43_Clean_L1_S x0 s = some o) (hK : (orK rec1 Φ) o) : ref43_Clean_L1 x0 Φ s rec1 := by
 obtain ⟨v4, v11⟩ := s
 unfold ref43_Clean_L1_S at h
 unfold ref43_Clean_L1
 exact ifS h (fun h => adS h fun h => blS h fun _ hv h => ref02_New_sound _ hv (adS h fun h => adS h fun h => have t := lfS h hK; t)) fun h => have t := lfS h hK; t
def ref43_Clean_S (x0 : List Int) : Option (List api_Bitmap) :=
 loopS (ref43_Clean_L1_S x0) 100000 (([] : List api_Bitmap), 0)
theorem ref43_Clean_sound (x0 : List Int) {Φ : List api_Bitmap → Prop} {o} (h : ref43_Clean_S x0 = some o) (hK : Φ o) : ref43_Clean_W x0 Φ := by
 unfold ref43_Clean_S at h
 unfold ref43_Clean_W
 exact LoopW.of_S (fun s q rec hs hq => ref43_Clean_L1_sound _ s hs hq) _ _ h hK
def ref02_Copy_S (x0 : api_Bitmap) : Option (api_Bitmap) :=
 if lenOk (([] : List (BitVec 64)) ++ x0.Words).length 8 then
 some ((api_Bitmap.mk x0.Size (([] : List (BitVec 64)) ++ x0.Words)))
 else none
theorem ref02_Copy_sound (x0 : api_Bitmap) {Φ : api_Bitmap → Prop} {o} (h : ref02_Copy_S x0 = some o) (hK : Φ o) : ref02_Copy_W x0 Φ := by
 unfold ref02_Copy_S at h
 unfold ref02_Copy_W
 exact adS h fun h => have t := lfS h hK; t
def ref02_bit_S (x0 : api_Bitmap) (x1 : Int) : Option (Bool) :=
 if 0 ≤ x1 ∧ inI x1 then
 if inX (x1 / 64) x0.Words.length then
 if 0 ≤ x1 then
 some (decide ((((ix x0.Words (x1 / 64)) >>> ((BitVec.ofInt 64 (x1 % 64)).toNat : Int).toNat) &&& (1#64)) = (1#64)))
 else none
 else none
 else none
theorem ref02_bit_sound (x0 : api_Bitmap) (x1 : Int) {Φ : Bool → Prop} {o} (h : ref02_bit_S x0 x1 = some o) (hK : Φ o) : ref02_bit_W x0 x1 Φ := by
 unfold ref02_bit_S at h
 unfold ref02_bit_W
 exact adS h fun h => adS h fun h => adS h fun h => have t := lfS h hK; t
def ref02_Check_L1_S (x0 : api_Bitmap) : (Int) → Option ((Int) ⊕ (Int))
 | (v10) =>
  if inI (64 * (x0.Words.length : Int)) then
  if v10 < (64 * (x0.Words.length : Int)) then
   Option.bind (ref02_bit_S x0 v10) fun v15 =>
   if v15 = true then
    some (.inr 3)
   else
    if inI (v10 + 1) then
    some (.inl (v10 + 1))
    else none
  else
   some (.inr 0)
  else none
theorem ref02_Check_L1_sound (x0 : api_Bitmap) (s : Int) {Φ : Int → Prop} {rec1 : (Int) → Prop} {o} (h : ref02_Check_L1_S x0 s = some o) (hK : (orK rec1 Φ) o) : ref02_Check_L1 x0 Φ s rec1 := by
 unfold ref02_Check_L1_S at h
 unfold ref02_Check_L1
 exact adS h fun h => ifS h (fun h => blS h fun _ hv h => ref02_bit_sound _ _ hv (ifS h (fun h => have t := lfS h hK; t) fun h => adS h fun h => have t := lfS h hK; t)) fun h => have t := lfS h hK; t
def ref02_Check_S (x0 : api_Bitmap) : Option (Int) :=
 Option.bind (
  if ¬ (x0.Size < 0) then
   if ¬ (4096 < x0.Size) then
    if inI (x0.Size + 63) then
    if 0 ≤ (x0.Size + 63) ∧ inI (x0.Size + 63) then some () else none
    else none
   else some ()
  else some () : Option Unit) fun _ =>
 if (x0.Size < 0) ∨ ((4096 < x0.Size) ∨ ((x0.Words.length : Int) ≠ ((x0.Size + 63) / 64))) then
  some (3)
 else
  loopS (ref02_Check_L1_S x0) 100000 (x0.Size)
theorem ref02_Check_sound (x0 : api_Bitmap) {Φ : Int → Prop} {o} (h : ref02_Check_S x0 = some o) (hK : Φ o) : ref02_Check_W x0 Φ := by
 unfold ref02_Check_S at h
 unfold ref02_Check_W
 exact mgS h (fun h hK => imS h fun h => imS h fun h => adS h fun h => (ofIf h).1) fun h => ifS h (fun h => have t := lfS h hK; t) fun h => LoopW.of_S (fun s q rec hs hq => ref02_Check_L1_sound _ s hs hq) _ _ h hK
def ref02_Fits_S (x0 : api_Extent) (x1 : Int) : Option (Bool) :=
 Option.bind (
  if 0 ≤ x0.Start then
   if 0 ≤ x0.Count then
    if x0.Start ≤ x1 then
     if inI (x1 - x0.Start) then some () else none
    else some ()
   else some ()
  else some () : Option Unit) fun _ =>
 some (decide ((0 ≤ x0.Start) ∧ ((0 ≤ x0.Count) ∧ ((x0.Start ≤ x1) ∧ (x0.Count ≤ (x1 - x0.Start))))))
theorem ref02_Fits_sound (x0 : api_Extent) (x1 : Int) {Φ : Bool → Prop} {o} (h : ref02_Fits_S x0 x1 = some o) (hK : Φ o) : ref02_Fits_W x0 x1 Φ := by
 unfold ref02_Fits_S at h
 unfold ref02_Fits_W
 exact mgS h (fun h hK => imS h fun h => imS h fun h => imS h fun h => (ofIf h).1) fun h => have t := lfS h hK; t
def ref02_change_L1_S (x1 : api_Extent) (x2 : Bool) (v13 : api_Bitmap) : (List (BitVec 64) × Int) → Option ((List (BitVec 64) × Int) ⊕ (api_Bitmap × Int))
 | (v22, v29) =>
  if inI (x1.Start + x1.Count) then
  if v29 < (x1.Start + x1.Count) then
   if x2 = true then
    if 0 ≤ v29 ∧ inI v29 then
    if inX (v29 / 64) v22.length then
    if 0 ≤ v29 then
    if inI (v29 + 1) then
    some (.inl ((put v22 (v29 / 64) ((ix v22 (v29 / 64)) ||| ((1#64) <<< ((BitVec.ofInt 64 (v29 % 64)).toNat : Int).toNat))), v29 + 1))
    else none
    else none
    else none
    else none
   else
    if 0 ≤ v29 ∧ inI v29 then
    if inX (v29 / 64) v22.length then
    if 0 ≤ v29 then
    if inI (v29 + 1) then
    some (.inl ((put v22 (v29 / 64) ((ix v22 (v29 / 64)) &&& ~~~((1#64) <<< ((BitVec.ofInt 64 (v29 % 64)).toNat : Int).toNat))), v29 + 1))
    else none
    else none
    else none
    else none
  else
   some (.inr ((api_Bitmap.mk v13.Size v22), 0))
  else none
theorem ref02_change_L1_sound (x1 : api_Extent) (x2 : Bool) (v13 : api_Bitmap) (s : List (BitVec 64) × Int) {Φ : api_Bitmap × Int → Prop} {rec1 : (List (BitVec 64) × Int) → Prop} {o} (h : ref02_change_L1_S x1 x2 v13 s = some o) (hK : (orK rec1 Φ) o) : ref02_change_L1 x1 x2 v13 Φ s rec1 := by
 obtain ⟨v22, v29⟩ := s
 unfold ref02_change_L1_S at h
 unfold ref02_change_L1
 exact adS h fun h => ifS h (fun h => ifS h (fun h => adS h fun h => adS h fun h => adS h fun h => adS h fun h => have t := lfS h hK; t) fun h => adS h fun h => adS h fun h => adS h fun h => adS h fun h => have t := lfS h hK; t) fun h => have t := lfS h hK; t
def ref02_change_S (x0 : api_Bitmap) (x1 : api_Extent) (x2 : Bool) : Option (api_Bitmap × Int) :=
 Option.bind (ref02_Check_S x0) fun v5 =>
 if v5 ≠ 0 then
  some (((api_Bitmap.mk 0 ([] : List (BitVec 64))), 3))
 else
  Option.bind (ref02_Fits_S x1 x0.Size) fun v9 =>
  if ¬ (v9 = true) then
   some (((api_Bitmap.mk 0 ([] : List (BitVec 64))), 2))
  else
   Option.bind (ref02_Copy_S x0) fun v13 =>
   loopS (ref02_change_L1_S x1 x2 v13) 100000 (v13.Words, x1.Start)
theorem ref02_change_sound (x0 : api_Bitmap) (x1 : api_Extent) (x2 : Bool) {Φ : api_Bitmap × Int → Prop} {o} (h : ref02_change_S x0 x1 x2 = some o) (hK : Φ o) : ref02_change_W x0 x1 x2 Φ := by
 unfold ref02_change_S at h
 unfold ref02_change_W
 exact blS h fun _ hv h => ref02_Check_sound _ hv (ifS h (fun h => have t := lfS h hK; t) fun h => blS h fun _ hv h => ref02_Fits_sound _ _ hv (ifS h (fun h => have t := lfS h hK; t) fun h => blS h fun _ hv h => ref02_Copy_sound _ hv (LoopW.of_S (fun s q rec hs hq => ref02_change_L1_sound _ _ _ s hs hq) _ _ h hK)))
def ref02_Set_S (x0 : api_Bitmap) (x1 : api_Extent) : Option (api_Bitmap × Int) :=
 Option.bind (ref02_change_S x0 x1 true) fun v5 =>
 some ((v5.1, v5.2))
theorem ref02_Set_sound (x0 : api_Bitmap) (x1 : api_Extent) {Φ : api_Bitmap × Int → Prop} {o} (h : ref02_Set_S x0 x1 = some o) (hK : Φ o) : ref02_Set_W x0 x1 Φ := by
 unfold ref02_Set_S at h
 unfold ref02_Set_W
 exact blS h fun _ hv h => ref02_change_sound _ _ _ hv (have t := lfS h hK; t)
def ref43_Mark_L2_S (x1 : List api_Write) : (List api_Bitmap × Int) → Option ((List api_Bitmap × Int) ⊕ ((List api_Bitmap × Int) ⊕ (List api_Bitmap)))
 | (v40, v47) =>
  if v47 < (x1.length : Int) then
   if inX v47 x1.length then
   if inX ((ix x1 v47).Volume) v40.length then
   Option.bind (ref02_Set_S (ix v40 ((ix x1 v47).Volume)) (api_Extent.mk ((ix x1 v47).Start) (((ix x1 v47).Data).length : Int))) fun v77 =>
   if inI (v47 + 1) then
   some (.inl ((put v40 ((ix x1 v47).Volume) v77.1), v47 + 1))
   else none
   else none
   else none
  else
   some (.inr (.inr v40))
theorem ref43_Mark_L2_sound (x1 : List api_Write) (s : List api_Bitmap × Int) {Φ : List api_Bitmap → Prop} {rec1 : (List api_Bitmap × Int) → Prop} {rec2 : (List api_Bitmap × Int) → Prop} {o} (h : ref43_Mark_L2_S x1 s = some o) (hK : (orK rec2 (orK rec1 Φ)) o) : ref43_Mark_L2 x1 Φ s rec2 := by
 obtain ⟨v40, v47⟩ := s
 unfold ref43_Mark_L2_S at h
 unfold ref43_Mark_L2
 exact ifS h (fun h => adS h fun h => adS h fun h => blS h fun v hv h => ⟨v, ref02_Set_sound _ _ hv rfl, adS h fun h => have t := lfS h hK; t⟩) fun h => have t := lfS h hK; t
def ref43_Mark_L1_S (x0 : List api_Bitmap) (x1 : List api_Write) : (List api_Bitmap × Int) → Option ((List api_Bitmap × Int) ⊕ (List api_Bitmap))
 | (v5, v12) =>
  if v12 < (x0.length : Int) then
   if inX v12 x0.length then
   Option.bind (ref02_Copy_S (ix x0 v12)) fun v19 =>
   if lenOk (v5 ++ ([v19] : List api_Bitmap)).length 32 then
   if inI (v12 + 1) then
   some (.inl ((v5 ++ ([v19] : List api_Bitmap)), v12 + 1))
   else none
   else none
   else none
  else
   loopS (ref43_Mark_L2_S x1) 100000 (v5, 0)
theorem ref43_Mark_L1_sound (x0 : List api_Bitmap) (x1 : List api_Write) (s : List api_Bitmap × Int) {Φ : List api_Bitmap → Prop} {rec1 : (List api_Bitmap × Int) → Prop} {o} (h : ref43_Mark_L1_S x0 x1 s = some o) (hK : (orK rec1 Φ) o) : ref43_Mark_L1 x0 x1 Φ s rec1 := by
 obtain ⟨v5, v12⟩ := s
 unfold ref43_Mark_L1_S at h
 unfold ref43_Mark_L1
 exact ifS h (fun h => adS h fun h => blS h fun _ hv h => ref02_Copy_sound _ hv (adS h fun h => adS h fun h => have t := lfS h hK; t)) fun h => LoopW.of_S (fun s q rec hs hq => ref43_Mark_L2_sound _ s hs hq) _ _ h hK
def ref43_Mark_S (x0 : List api_Bitmap) (x1 : List api_Write) : Option (List api_Bitmap) :=
 loopS (ref43_Mark_L1_S x0 x1) 100000 (([] : List api_Bitmap), 0)
theorem ref43_Mark_sound (x0 : List api_Bitmap) (x1 : List api_Write) {Φ : List api_Bitmap → Prop} {o} (h : ref43_Mark_S x0 x1 = some o) (hK : Φ o) : ref43_Mark_W x0 x1 Φ := by
 unfold ref43_Mark_S at h
 unfold ref43_Mark_W
 exact LoopW.of_S (fun s q rec hs hq => ref43_Mark_L1_sound _ _ s hs hq) _ _ h hK
def law47_point_S (x0 : Int) (x1 : List (List Sec)) (x2 : List api_Span) (x3 : List api_Write) : Option (api_Point) :=
 Option.bind (ref07_Apply_S x1 x3) fun v5 =>
 Option.bind (ref07_SizesOf_S x1) fun v12 =>
 Option.bind (ref43_Clean_S v12) fun v21 =>
 Option.bind (ref43_Mark_S v21 x3) fun v30 =>
 some ((api_Point.mk x0 x2 v30 v5.1))
theorem law47_point_sound (x0 : Int) (x1 : List (List Sec)) (x2 : List api_Span) (x3 : List api_Write) {Φ : api_Point → Prop} {o} (h : law47_point_S x0 x1 x2 x3 = some o) (hK : Φ o) : law47_point_W x0 x1 x2 x3 Φ := by
 unfold law47_point_S at h
 unfold law47_point_W
 exact blS h fun _ hv h => ref07_Apply_sound _ _ hv (blS h fun _ hv h => ref07_SizesOf_sound _ hv (blS h fun _ hv h => ref43_Clean_sound _ hv (blS h fun _ hv h => ref43_Mark_sound _ _ hv (have t := lfS h hK; t))))
def delta_in_S (x0 : Int) (x1 : Int) : Option (Bool) :=
 some (decide ((x1 ≤ x0) ∧ (x0 ≤ 1073741824)))
theorem delta_in_sound (x0 : Int) (x1 : Int) {Φ : Bool → Prop} {o} (h : delta_in_S x0 x1 = some o) (hK : Φ o) : delta_in_W x0 x1 Φ := by
 unfold delta_in_S at h
 unfold delta_in_W
 exact have t := lfS h hK; t
def delta_correct_L1_S (x0 : List api_Span) : (Int × Int × Int × Int) → Option ((Int × Int × Int × Int) ⊕ (Bool))
 | (v5, _, v7, v8) =>
  if v8 < (x0.length : Int) then
   if inX v8 x0.length then
   if inI (v7 + 1) then
   if ((ix x0 v8).From) ≠ (v7 + 1) then
    some (.inr false)
   else
    if ((ix x0 v8).To) < ((ix x0 v8).From) then
     some (.inr false)
    else
     if 1073741824 < ((ix x0 v8).To) then
      some (.inr false)
     else
      Option.bind (delta_in_S ((ix x0 v8).Epoch) 1) fun v30 =>
      if ¬ (v30 = true) then
       some (.inr false)
      else
       if ((ix x0 v8).Epoch) ≤ v5 then
        some (.inr false)
       else
        if inI (v8 + 1) then
        some (.inl ((ix x0 v8).Epoch, (ix x0 v8).From, (ix x0 v8).To, v8 + 1))
        else none
   else none
   else none
  else
   some (.inr true)
theorem delta_correct_L1_sound (x0 : List api_Span) (s : Int × Int × Int × Int) {Φ : Bool → Prop} {rec1 : (Int × Int × Int × Int) → Prop} {o} (h : delta_correct_L1_S x0 s = some o) (hK : (orK rec1 Φ) o) : delta_correct_L1 x0 Φ s rec1 := by
 obtain ⟨v5, v6, v7, v8⟩ := s
 unfold delta_correct_L1_S at h
 unfold delta_correct_L1
 exact ifS h (fun h => adS h fun h => adS h fun h => ifS h (fun h => have t := lfS h hK; t) fun h => ifS h (fun h => have t := lfS h hK; t) fun h => ifS h (fun h => have t := lfS h hK; t) fun h => blS h fun _ hv h => delta_in_sound _ _ hv (ifS h (fun h => have t := lfS h hK; t) fun h => ifS h (fun h => have t := lfS h hK; t) fun h => adS h fun h => have t := lfS h hK; t)) fun h => have t := lfS h hK; t
def delta_correct_S (x0 : List api_Span) : Option (Bool) :=
 loopS (delta_correct_L1_S x0) 100000 (0, 0, 0, 0)
theorem delta_correct_sound (x0 : List api_Span) {Φ : Bool → Prop} {o} (h : delta_correct_S x0 = some o) (hK : Φ o) : delta_correct_W x0 Φ := by
 unfold delta_correct_S at h
 unfold delta_correct_W
 exact LoopW.of_S (fun s q rec hs hq => delta_correct_L1_sound _ s hs hq) _ _ h hK
def image_sizes_1_S (x0 : List Sec) : Option (Int) :=
 some ((x0.length : Int))
theorem image_sizes_1_sound (x0 : List Sec) {Φ : Int → Prop} {o} (h : image_sizes_1_S x0 = some o) (hK : Φ o) : image_sizes_1_W x0 Φ := by
 unfold image_sizes_1_S at h
 unfold image_sizes_1_W
 exact have t := lfS h hK; t
def image_mapped_api_Sector_int__image_sizes_1_L1_S (x0 : List (List Sec)) : (List Int × Int) → Option ((List Int × Int) ⊕ (List Int))
 | (v12, v19) =>
  if v19 < (x0.length : Int) then
   if inX v19 x0.length then
   Option.bind (image_sizes_1_S (ix x0 v19)) fun v26 =>
   if lenOk (v12 ++ ([v26] : List Int)).length 8 then
   if inI (v19 + 1) then
   some (.inl ((v12 ++ ([v26] : List Int)), v19 + 1))
   else none
   else none
   else none
  else
   some (.inr v12)
theorem image_mapped_api_Sector_int__image_sizes_1_L1_sound (x0 : List (List Sec)) (s : List Int × Int) {Φ : List Int → Prop} {rec1 : (List Int × Int) → Prop} {o} (h : image_mapped_api_Sector_int__image_sizes_1_L1_S x0 s = some o) (hK : (orK rec1 Φ) o) : image_mapped_api_Sector_int__image_sizes_1_L1 x0 Φ s rec1 := by
 obtain ⟨v12, v19⟩ := s
 unfold image_mapped_api_Sector_int__image_sizes_1_L1_S at h
 unfold image_mapped_api_Sector_int__image_sizes_1_L1
 exact ifS h (fun h => adS h fun h => blS h fun _ hv h => image_sizes_1_sound _ hv (adS h fun h => adS h fun h => have t := lfS h hK; t)) fun h => have t := lfS h hK; t
def image_mapped_api_Sector_int__image_sizes_1_S (x0 : List (List Sec)) : Option (List Int) :=
 if 0 ≤ (x0.length : Int) then
 if lenOk (x0.length : Int).toNat 8 then
 loopS (image_mapped_api_Sector_int__image_sizes_1_L1_S x0) 100000 (([] : List Int), 0)
 else none
 else none
theorem image_mapped_api_Sector_int__image_sizes_1_sound (x0 : List (List Sec)) {Φ : List Int → Prop} {o} (h : image_mapped_api_Sector_int__image_sizes_1_S x0 = some o) (hK : Φ o) : image_mapped_api_Sector_int__image_sizes_1_W x0 Φ := by
 unfold image_mapped_api_Sector_int__image_sizes_1_S at h
 unfold image_mapped_api_Sector_int__image_sizes_1_W
 exact adS h fun h => adS h fun h => LoopW.of_S (fun s q rec hs hq => image_mapped_api_Sector_int__image_sizes_1_L1_sound _ s hs hq) _ _ h hK
def image_sizes_S (x0 : List (List Sec)) : Option (List Int) :=
 Option.bind (image_mapped_api_Sector_int__image_sizes_1_S x0) fun v2 =>
 some (v2)
theorem image_sizes_sound (x0 : List (List Sec)) {Φ : List Int → Prop} {o} (h : image_sizes_S x0 = some o) (hK : Φ o) : image_sizes_W x0 Φ := by
 unfold image_sizes_S at h
 unfold image_sizes_W
 exact blS h fun _ hv h => image_mapped_api_Sector_int__image_sizes_1_sound _ hv (have t := lfS h hK; t)
def image_checkSizes_1_S (x0 : Int) : Option (Bool) :=
 some (decide ((x0 < 1) ∨ (4096 < x0)))
theorem image_checkSizes_1_sound (x0 : Int) {Φ : Bool → Prop} {o} (h : image_checkSizes_1_S x0 = some o) (hK : Φ o) : image_checkSizes_1_W x0 Φ := by
 unfold image_checkSizes_1_S at h
 unfold image_checkSizes_1_W
 exact have t := lfS h hK; t
def slices_IndexFunc_int_int__image_checkSizes_1_L1_S (x0 : List Int) : (Int) → Option ((Int) ⊕ (Int))
 | (v4) =>
  if v4 < (x0.length : Int) then
   if inX v4 x0.length then
   Option.bind (image_checkSizes_1_S (ix x0 v4)) fun v10 =>
   if v10 = true then
    some (.inr v4)
   else
    if inI (v4 + 1) then
    some (.inl (v4 + 1))
    else none
   else none
  else
   some (.inr (-1))
theorem slices_IndexFunc_int_int__image_checkSizes_1_L1_sound (x0 : List Int) (s : Int) {Φ : Int → Prop} {rec1 : (Int) → Prop} {o} (h : slices_IndexFunc_int_int__image_checkSizes_1_L1_S x0 s = some o) (hK : (orK rec1 Φ) o) : slices_IndexFunc_int_int__image_checkSizes_1_L1 x0 Φ s rec1 := by
 unfold slices_IndexFunc_int_int__image_checkSizes_1_L1_S at h
 unfold slices_IndexFunc_int_int__image_checkSizes_1_L1
 exact ifS h (fun h => adS h fun h => blS h fun _ hv h => image_checkSizes_1_sound _ hv (ifS h (fun h => have t := lfS h hK; t) fun h => adS h fun h => have t := lfS h hK; t)) fun h => have t := lfS h hK; t
def slices_IndexFunc_int_int__image_checkSizes_1_S (x0 : List Int) : Option (Int) :=
 loopS (slices_IndexFunc_int_int__image_checkSizes_1_L1_S x0) 100000 (0)
theorem slices_IndexFunc_int_int__image_checkSizes_1_sound (x0 : List Int) {Φ : Int → Prop} {o} (h : slices_IndexFunc_int_int__image_checkSizes_1_S x0 = some o) (hK : Φ o) : slices_IndexFunc_int_int__image_checkSizes_1_W x0 Φ := by
 unfold slices_IndexFunc_int_int__image_checkSizes_1_S at h
 unfold slices_IndexFunc_int_int__image_checkSizes_1_W
 exact LoopW.of_S (fun s q rec hs hq => slices_IndexFunc_int_int__image_checkSizes_1_L1_sound _ s hs hq) _ _ h hK
def slices_ContainsFunc_int_int__image_checkSizes_1_S (x0 : List Int) : Option (Bool) :=
 Option.bind (slices_IndexFunc_int_int__image_checkSizes_1_S x0) fun v2 =>
 some (decide (0 ≤ v2))
theorem slices_ContainsFunc_int_int__image_checkSizes_1_sound (x0 : List Int) {Φ : Bool → Prop} {o} (h : slices_ContainsFunc_int_int__image_checkSizes_1_S x0 = some o) (hK : Φ o) : slices_ContainsFunc_int_int__image_checkSizes_1_W x0 Φ := by
 unfold slices_ContainsFunc_int_int__image_checkSizes_1_S at h
 unfold slices_ContainsFunc_int_int__image_checkSizes_1_W
 exact blS h fun _ hv h => slices_IndexFunc_int_int__image_checkSizes_1_sound _ hv (have t := lfS h hK; t)
def image_checkSizes_S (x0 : List Int) : Option (Int) :=
 if ((x0.length : Int) < 1) ∨ (8 < (x0.length : Int)) then
  some (6)
 else
  Option.bind (slices_ContainsFunc_int_int__image_checkSizes_1_S x0) fun v4 =>
  if v4 = true then
   some (2)
  else
   some (0)
theorem image_checkSizes_sound (x0 : List Int) {Φ : Int → Prop} {o} (h : image_checkSizes_S x0 = some o) (hK : Φ o) : image_checkSizes_W x0 Φ := by
 unfold image_checkSizes_S at h
 unfold image_checkSizes_W
 exact ifS h (fun h => have t := lfS h hK; t) fun h => blS h fun _ hv h => slices_ContainsFunc_int_int__image_checkSizes_1_sound _ hv (ifS h (fun h => have t := lfS h hK; t) fun h => have t := lfS h hK; t)
def image_Check_S (x0 : List (List Sec)) : Option (Int) :=
 Option.bind (image_sizes_S x0) fun v2 =>
 Option.bind (image_checkSizes_S v2) fun v11 =>
 some (v11)
theorem image_Check_sound (x0 : List (List Sec)) {Φ : Int → Prop} {o} (h : image_Check_S x0 = some o) (hK : Φ o) : image_Check_W x0 Φ := by
 unfold image_Check_S at h
 unfold image_Check_W
 exact blS h fun _ hv h => image_sizes_sound _ hv (blS h fun _ hv h => image_checkSizes_sound _ hv (have t := lfS h hK; t))
def bitmap_words_S (x0 : Int) : Option (Int) :=
 if inI (x0 + 64) then
 if inI ((x0 + 64) - 1) then
 if 0 ≤ ((x0 + 64) - 1) ∧ inI ((x0 + 64) - 1) then
 some (((x0 + 64) - 1) / 64)
 else none
 else none
 else none
theorem bitmap_words_sound (x0 : Int) {Φ : Int → Prop} {o} (h : bitmap_words_S x0 = some o) (hK : Φ o) : bitmap_words_W x0 Φ := by
 unfold bitmap_words_S at h
 unfold bitmap_words_W
 exact adS h fun h => adS h fun h => adS h fun h => have t := lfS h hK; t
def bitmap_Check_J1_S (x0 : api_Bitmap) : Option (Int) :=
 if 0 ≤ x0.Size then
 Option.bind (
  if 0 < (x0.Size % 64) then
   if inI ((x0.Words.length : Int) - 1) then
   if inX ((x0.Words.length : Int) - 1) x0.Words.length then
   if 0 ≤ (x0.Size % 64) then some () else none
   else none
   else none
  else some () : Option Unit) fun _ =>
 if (0 < (x0.Size % 64)) ∧ (((ix x0.Words ((x0.Words.length : Int) - 1)) >>> (x0.Size % 64 : Int).toNat) ≠ (0#64)) then
  some (3)
 else
  some (0)
 else none
theorem bitmap_Check_J1_sound (x0 : api_Bitmap) {Φ : Int → Prop} {o} (h : bitmap_Check_J1_S x0 = some o) (hK : Φ o) : bitmap_Check_J1 x0 Φ := by
 unfold bitmap_Check_J1_S at h
 unfold bitmap_Check_J1
 exact adS h fun h => mgS h (fun h hK => imS h fun h => adS h fun h => adS h fun h => (ofIf h).1) fun h => ifS h (fun h => have t := lfS h hK; t) fun h => have t := lfS h hK; t
def bitmap_Check_S (x0 : api_Bitmap) : Option (Int) :=
 if x0.Size < 0 then
  some (3)
 else
  if 4096 < x0.Size then
   some (3)
  else
   Option.bind (bitmap_words_S x0.Size) fun v19 =>
   if (x0.Words.length : Int) ≠ v19 then
    some (3)
   else
    bitmap_Check_J1_S x0
theorem bitmap_Check_sound (x0 : api_Bitmap) {Φ : Int → Prop} {o} (h : bitmap_Check_S x0 = some o) (hK : Φ o) : bitmap_Check_W x0 Φ := by
 unfold bitmap_Check_S at h
 unfold bitmap_Check_W
 exact ifS h (fun h => have t := lfS h hK; t) fun h => ifS h (fun h => have t := lfS h hK; t) fun h => blS h fun v hv h => ⟨v, bitmap_words_sound _ hv rfl, ifS h (fun h => have t := lfS h hK; t) fun h => bitmap_Check_J1_sound _ h hK⟩
def delta_Check_L1_S (x0 : api_Point) : (Int) → Option ((Int) ⊕ (Int))
 | (v20) =>
  if v20 < (x0.Dirty.length : Int) then
   if inX v20 x0.Dirty.length then
   Option.bind (bitmap_Check_S (ix x0.Dirty v20)) fun v28 =>
   if v28 ≠ 0 then
    some (.inr v28)
   else
    if inX v20 x0.Image.length then
    if ((ix x0.Dirty v20).Size) ≠ ((ix x0.Image v20).length : Int) then
     some (.inr 22)
    else
     if inI (v20 + 1) then
     some (.inl (v20 + 1))
     else none
    else none
   else none
  else
   some (.inr 0)
theorem delta_Check_L1_sound (x0 : api_Point) (s : Int) {Φ : Int → Prop} {rec1 : (Int) → Prop} {o} (h : delta_Check_L1_S x0 s = some o) (hK : (orK rec1 Φ) o) : delta_Check_L1 x0 Φ s rec1 := by
 unfold delta_Check_L1_S at h
 unfold delta_Check_L1
 exact ifS h (fun h => adS h fun h => blS h fun _ hv h => bitmap_Check_sound _ hv (ifS h (fun h => have t := lfS h hK; t) fun h => adS h fun h => ifS h (fun h => have t := lfS h hK; t) fun h => adS h fun h => have t := lfS h hK; t)) fun h => have t := lfS h hK; t
def delta_Check_S (x0 : api_Point) : Option (Int) :=
 Option.bind (delta_in_S x0.Site 0) fun v5 =>
 if ¬ (v5 = true) then
  some (2)
 else
  Option.bind (delta_correct_S x0.Lineage) fun v9 =>
  if ¬ (v9 = true) then
   some (3)
  else
   Option.bind (image_Check_S x0.Image) fun v13 =>
   if v13 ≠ 0 then
    some (v13)
   else
    if (x0.Dirty.length : Int) ≠ (x0.Image.length : Int) then
     some (6)
    else
     loopS (delta_Check_L1_S x0) 100000 (0)
theorem delta_Check_sound (x0 : api_Point) {Φ : Int → Prop} {o} (h : delta_Check_S x0 = some o) (hK : Φ o) : delta_Check_W x0 Φ := by
 unfold delta_Check_S at h
 unfold delta_Check_W
 exact blS h fun _ hv h => delta_in_sound _ _ hv (ifS h (fun h => have t := lfS h hK; t) fun h => blS h fun _ hv h => delta_correct_sound _ hv (ifS h (fun h => have t := lfS h hK; t) fun h => blS h fun _ hv h => image_Check_sound _ hv (ifS h (fun h => have t := lfS h hK; t) fun h => ifS h (fun h => have t := lfS h hK; t) fun h => LoopW.of_S (fun s q rec hs hq => delta_Check_L1_sound _ s hs hq) _ _ h hK)))
def reverse_last_S (x0 : List api_Span) : Option (Int) :=
 if (x0.length : Int) = 0 then
  some (0)
 else
  if inI ((x0.length : Int) - 1) then
  if inX ((x0.length : Int) - 1) x0.length then
  some ((ix x0 ((x0.length : Int) - 1)).To)
  else none
  else none
theorem reverse_last_sound (x0 : List api_Span) {Φ : Int → Prop} {o} (h : reverse_last_S x0 = some o) (hK : Φ o) : reverse_last_W x0 Φ := by
 unfold reverse_last_S at h
 unfold reverse_last_W
 exact ifS h (fun h => have t := lfS h hK; t) fun h => adS h fun h => adS h fun h => have t := lfS h hK; t
def reverse_Undo_1_S (_ : Int) (x1 : api_Bitmap) : Option (List api_Extent) :=
 Option.bind (bitmap_Extents_S x1) fun v3 =>
 some (v3)
theorem reverse_Undo_1_sound (x0 : Int) (x1 : api_Bitmap) {Φ : List api_Extent → Prop} {o} (h : reverse_Undo_1_S x0 x1 = some o) (hK : Φ o) : reverse_Undo_1_W x0 x1 Φ := by
 unfold reverse_Undo_1_S at h
 unfold reverse_Undo_1_W
 exact blS h fun _ hv h => bitmap_Extents_sound _ hv (have t := lfS h hK; t)
def reverse_volumes_api_Extent__reverse_Undo_1_L1_S (x0 : List api_Bitmap) : (List (List api_Extent) × Int) → Option ((List (List api_Extent) × Int) ⊕ (List (List api_Extent)))
 | (v4, v11) =>
  if v11 < (x0.length : Int) then
   if inX v11 x0.length then
   Option.bind (reverse_Undo_1_S v11 (ix x0 v11)) fun v19 =>
   if lenOk (v4 ++ ([v19] : List (List api_Extent))).length 24 then
   if inI (v11 + 1) then
   some (.inl ((v4 ++ ([v19] : List (List api_Extent))), v11 + 1))
   else none
   else none
   else none
  else
   some (.inr v4)
theorem reverse_volumes_api_Extent__reverse_Undo_1_L1_sound (x0 : List api_Bitmap) (s : List (List api_Extent) × Int) {Φ : List (List api_Extent) → Prop} {rec1 : (List (List api_Extent) × Int) → Prop} {o} (h : reverse_volumes_api_Extent__reverse_Undo_1_L1_S x0 s = some o) (hK : (orK rec1 Φ) o) : reverse_volumes_api_Extent__reverse_Undo_1_L1 x0 Φ s rec1 := by
 obtain ⟨v4, v11⟩ := s
 unfold reverse_volumes_api_Extent__reverse_Undo_1_L1_S at h
 unfold reverse_volumes_api_Extent__reverse_Undo_1_L1
 exact ifS h (fun h => adS h fun h => blS h fun _ hv h => reverse_Undo_1_sound _ _ hv (adS h fun h => adS h fun h => have t := lfS h hK; t)) fun h => have t := lfS h hK; t
def reverse_volumes_api_Extent__reverse_Undo_1_S (x0 : List api_Bitmap) : Option (List (List api_Extent)) :=
 loopS (reverse_volumes_api_Extent__reverse_Undo_1_L1_S x0) 100000 (([] : List (List api_Extent)), 0)
theorem reverse_volumes_api_Extent__reverse_Undo_1_sound (x0 : List api_Bitmap) {Φ : List (List api_Extent) → Prop} {o} (h : reverse_volumes_api_Extent__reverse_Undo_1_S x0 = some o) (hK : Φ o) : reverse_volumes_api_Extent__reverse_Undo_1_W x0 Φ := by
 unfold reverse_volumes_api_Extent__reverse_Undo_1_S at h
 unfold reverse_volumes_api_Extent__reverse_Undo_1_W
 exact LoopW.of_S (fun s q rec hs hq => reverse_volumes_api_Extent__reverse_Undo_1_L1_sound _ s hs hq) _ _ h hK
def reverse_Undo_S (x0 : api_Point) (x1 : Int) : Option (List (List api_Extent) × Int) :=
 Option.bind (delta_Check_S x0) fun v5 =>
 if v5 ≠ 0 then
  some ((([] : List (List api_Extent)), v5))
 else
  if x1 < 0 then
   some ((([] : List (List api_Extent)), 2))
  else
   Option.bind (reverse_last_S x0.Lineage) fun v28 =>
   if v28 < x1 then
    some ((([] : List (List api_Extent)), 2))
   else
    Option.bind (reverse_volumes_api_Extent__reverse_Undo_1_S x0.Dirty) fun v32 =>
    some ((v32, 0))
theorem reverse_Undo_sound (x0 : api_Point) (x1 : Int) {Φ : List (List api_Extent) × Int → Prop} {o} (h : reverse_Undo_S x0 x1 = some o) (hK : Φ o) : reverse_Undo_W x0 x1 Φ := by
 unfold reverse_Undo_S at h
 unfold reverse_Undo_W
 exact blS h fun _ hv h => delta_Check_sound _ hv (ifS h (fun h => have t := lfS h hK; t) fun h => ifS h (fun h => have t := lfS h hK; t) fun h => blS h fun _ hv h => reverse_last_sound _ hv (ifS h (fun h => have t := lfS h hK; t) fun h => blS h fun _ hv h => reverse_volumes_api_Extent__reverse_Undo_1_sound _ hv (have t := lfS h hK; t)))
def delta_alike_1_S (x0 : List Sec) (x1 : List Sec) : Option (Bool) :=
 some (decide ((x0.length : Int) = (x1.length : Int)))
theorem delta_alike_1_sound (x0 : List Sec) (x1 : List Sec) {Φ : Bool → Prop} {o} (h : delta_alike_1_S x0 x1 = some o) (hK : Φ o) : delta_alike_1_W x0 x1 Φ := by
 unfold delta_alike_1_S at h
 unfold delta_alike_1_W
 exact have t := lfS h hK; t
def slEF_L1_S (x0 : List (List Sec)) (x1 : List (List Sec)) : (Int) → Option ((Int) ⊕ (Bool))
 | (v6) =>
  if v6 < (x0.length : Int) then
   if inX v6 x0.length then
   if inX v6 x1.length then
   Option.bind (delta_alike_1_S (ix x0 v6) (ix x1 v6)) fun v16 =>
   if ¬ (v16 = true) then
    some (.inr false)
   else
    if inI (v6 + 1) then
    some (.inl (v6 + 1))
    else none
   else none
   else none
  else
   some (.inr true)
theorem slEF_L1_sound (x0 : List (List Sec)) (x1 : List (List Sec)) (s : Int) {Φ : Bool → Prop} {rec1 : (Int) → Prop} {o} (h : slEF_L1_S x0 x1 s = some o) (hK : (orK rec1 Φ) o) : slEF_L1 x0 x1 Φ s rec1 := by
 unfold slEF_L1_S at h
 unfold slEF_L1
 exact ifS h (fun h => adS h fun h => adS h fun h => blS h fun _ hv h => delta_alike_1_sound _ _ hv (ifS h (fun h => have t := lfS h hK; t) fun h => adS h fun h => have t := lfS h hK; t)) fun h => have t := lfS h hK; t
def slEF_S (x0 : List (List Sec)) (x1 : List (List Sec)) : Option (Bool) :=
 if (x0.length : Int) ≠ (x1.length : Int) then
  some (false)
 else
  loopS (slEF_L1_S x0 x1) 100000 (0)
theorem slEF_sound (x0 : List (List Sec)) (x1 : List (List Sec)) {Φ : Bool → Prop} {o} (h : slEF_S x0 x1 = some o) (hK : Φ o) : slEF_W x0 x1 Φ := by
 unfold slEF_S at h
 unfold slEF_W
 exact ifS h (fun h => have t := lfS h hK; t) fun h => LoopW.of_S (fun s q rec hs hq => slEF_L1_sound _ _ s hs hq) _ _ h hK
def delta_alike_S (x0 : List (List Sec)) (x1 : List (List Sec)) : Option (Bool) :=
 Option.bind (slEF_S x0 x1) fun v3 =>
 some (v3)
theorem delta_alike_sound (x0 : List (List Sec)) (x1 : List (List Sec)) {Φ : Bool → Prop} {o} (h : delta_alike_S x0 x1 = some o) (hK : Φ o) : delta_alike_W x0 x1 Φ := by
 unfold delta_alike_S at h
 unfold delta_alike_W
 exact blS h fun _ hv h => slEF_sound _ _ hv (have t := lfS h hK; t)
def bitmap_Or_1_S (x0 : BitVec 64) (x1 : BitVec 64) : Option (BitVec 64) :=
 some (x0 ||| x1)
theorem bitmap_Or_1_sound (x0 : BitVec 64) (x1 : BitVec 64) {Φ : BitVec 64 → Prop} {o} (h : bitmap_Or_1_S x0 x1 = some o) (hK : Φ o) : bitmap_Or_1_W x0 x1 Φ := by
 unfold bitmap_Or_1_S at h
 unfold bitmap_Or_1_W
 exact have t := lfS h hK; t
def bitmap_both__bitmap_Or_1_L1_S (x0 : api_Bitmap) (x1 : api_Bitmap) : (List (BitVec 64) × Int) → Option ((List (BitVec 64) × Int) ⊕ (api_Bitmap × Int))
 | (v25, v32) =>
  if v32 < ((List.replicate (x0.Words.length : Int).toNat (0#64)).length : Int) then
   if inX v32 x0.Words.length then
   if inX v32 x1.Words.length then
   Option.bind (bitmap_Or_1_S (ix x0.Words v32) (ix x1.Words v32)) fun v40 =>
   if inX v32 v25.length then
   if inI (v32 + 1) then
   some (.inl ((put v25 v32 v40), v32 + 1))
   else none
   else none
   else none
   else none
  else
   some (.inr ((api_Bitmap.mk x0.Size v25), 0))
theorem bitmap_both__bitmap_Or_1_L1_sound (x0 : api_Bitmap) (x1 : api_Bitmap) (s : List (BitVec 64) × Int) {Φ : api_Bitmap × Int → Prop} {rec1 : (List (BitVec 64) × Int) → Prop} {o} (h : bitmap_both__bitmap_Or_1_L1_S x0 x1 s = some o) (hK : (orK rec1 Φ) o) : bitmap_both__bitmap_Or_1_L1 x0 x1 Φ s rec1 := by
 obtain ⟨v25, v32⟩ := s
 unfold bitmap_both__bitmap_Or_1_L1_S at h
 unfold bitmap_both__bitmap_Or_1_L1
 exact ifS h (fun h => adS h fun h => adS h fun h => blS h fun v hv h => ⟨v, bitmap_Or_1_sound _ _ hv rfl, adS h fun h => adS h fun h => have t := lfS h hK; t⟩) fun h => have t := lfS h hK; t
def bitmap_both__bitmap_Or_1_S (x0 : api_Bitmap) (x1 : api_Bitmap) : Option (api_Bitmap × Int) :=
 Option.bind (bitmap_Check_S x0) fun v6 =>
 if v6 ≠ 0 then
  some (((api_Bitmap.mk 0 ([] : List (BitVec 64))), v6))
 else
  Option.bind (bitmap_Check_S x1) fun v10 =>
  if v10 ≠ 0 then
   some (((api_Bitmap.mk 0 ([] : List (BitVec 64))), v10))
  else
   if x0.Size ≠ x1.Size then
    some (((api_Bitmap.mk 0 ([] : List (BitVec 64))), 22))
   else
    if 0 ≤ (x0.Words.length : Int) then
    if lenOk (x0.Words.length : Int).toNat 8 then
    loopS (bitmap_both__bitmap_Or_1_L1_S x0 x1) 100000 ((List.replicate (x0.Words.length : Int).toNat (0#64)), 0)
    else none
    else none
theorem bitmap_both__bitmap_Or_1_sound (x0 : api_Bitmap) (x1 : api_Bitmap) {Φ : api_Bitmap × Int → Prop} {o} (h : bitmap_both__bitmap_Or_1_S x0 x1 = some o) (hK : Φ o) : bitmap_both__bitmap_Or_1_W x0 x1 Φ := by
 unfold bitmap_both__bitmap_Or_1_S at h
 unfold bitmap_both__bitmap_Or_1_W
 exact blS h fun _ hv h => bitmap_Check_sound _ hv (ifS h (fun h => have t := lfS h hK; t) fun h => blS h fun _ hv h => bitmap_Check_sound _ hv (ifS h (fun h => have t := lfS h hK; t) fun h => ifS h (fun h => have t := lfS h hK; t) fun h => adS h fun h => adS h fun h => LoopW.of_S (fun s q rec hs hq => bitmap_both__bitmap_Or_1_L1_sound _ _ s hs hq) _ _ h hK))
def bitmap_Or_S (x0 : api_Bitmap) (x1 : api_Bitmap) : Option (api_Bitmap × Int) :=
 Option.bind (bitmap_both__bitmap_Or_1_S x0 x1) fun v6 =>
 some ((v6.1, v6.2))
theorem bitmap_Or_sound (x0 : api_Bitmap) (x1 : api_Bitmap) {Φ : api_Bitmap × Int → Prop} {o} (h : bitmap_Or_S x0 x1 = some o) (hK : Φ o) : bitmap_Or_W x0 x1 Φ := by
 unfold bitmap_Or_S at h
 unfold bitmap_Or_W
 exact blS h fun _ hv h => bitmap_both__bitmap_Or_1_sound _ _ hv (have t := lfS h hK; t)
def delta_marked_L1_S (x0 : api_Point) (x1 : api_Point) : (List (List api_Extent) × Int) → Option ((List (List api_Extent) × Int) ⊕ (List (List api_Extent)))
 | (v19, v26) =>
  if v26 < ((List.replicate (x0.Dirty.length : Int).toNat ([] : List api_Extent)).length : Int) then
   if inX v26 x0.Dirty.length then
   if inX v26 x1.Dirty.length then
   Option.bind (bitmap_Or_S (ix x0.Dirty v26) (ix x1.Dirty v26)) fun v36 =>
   Option.bind (bitmap_Extents_S v36.1) fun v100 =>
   if inX v26 v19.length then
   if inI (v26 + 1) then
   some (.inl ((put v19 v26 v100), v26 + 1))
   else none
   else none
   else none
   else none
  else
   some (.inr v19)
theorem delta_marked_L1_sound (x0 : api_Point) (x1 : api_Point) (s : List (List api_Extent) × Int) {Φ : List (List api_Extent) → Prop} {rec1 : (List (List api_Extent) × Int) → Prop} {o} (h : delta_marked_L1_S x0 x1 s = some o) (hK : (orK rec1 Φ) o) : delta_marked_L1 x0 x1 Φ s rec1 := by
 obtain ⟨v19, v26⟩ := s
 unfold delta_marked_L1_S at h
 unfold delta_marked_L1
 exact ifS h (fun h => adS h fun h => adS h fun h => blS h fun v hv h => ⟨v, bitmap_Or_sound _ _ hv rfl, blS h fun _ hv h => bitmap_Extents_sound _ hv (adS h fun h => adS h fun h => have t := lfS h hK; t)⟩) fun h => have t := lfS h hK; t
def delta_marked_S (x0 : api_Point) (x1 : api_Point) : Option (List (List api_Extent)) :=
 if 0 ≤ (x0.Dirty.length : Int) then
 if lenOk (x0.Dirty.length : Int).toNat 24 then
 loopS (delta_marked_L1_S x0 x1) 100000 ((List.replicate (x0.Dirty.length : Int).toNat ([] : List api_Extent)), 0)
 else none
 else none
theorem delta_marked_sound (x0 : api_Point) (x1 : api_Point) {Φ : List (List api_Extent) → Prop} {o} (h : delta_marked_S x0 x1 = some o) (hK : Φ o) : delta_marked_W x0 x1 Φ := by
 unfold delta_marked_S at h
 unfold delta_marked_W
 exact adS h fun h => adS h fun h => LoopW.of_S (fun s q rec hs hq => delta_marked_L1_sound _ _ s hs hq) _ _ h hK
def delta_Between_L1_S (x0 : api_Point) (x1 : api_Point) : (Int) → Option ((Int) ⊕ (List (List api_Extent) × Int))
 | (v13) =>
  if v13 < (([x0, x1] : List api_Point).length : Int) then
   if inX v13 ([x0, x1] : List api_Point).length then
   Option.bind (delta_Check_S (ix ([x0, x1] : List api_Point) v13)) fun v23 =>
   if v23 ≠ 0 then
    some (.inr (([] : List (List api_Extent)), v23))
   else
    if inI (v13 + 1) then
    some (.inl (v13 + 1))
    else none
   else none
  else
   Option.bind (delta_alike_S x0.Image x1.Image) fun v28 =>
   if ¬ (v28 = true) then
    some (.inr (([] : List (List api_Extent)), 22))
   else
    Option.bind (delta_marked_S x0 x1) fun v32 =>
    some (.inr (v32, 0))
theorem delta_Between_L1_sound (x0 : api_Point) (x1 : api_Point) (s : Int) {Φ : List (List api_Extent) × Int → Prop} {rec1 : (Int) → Prop} {o} (h : delta_Between_L1_S x0 x1 s = some o) (hK : (orK rec1 Φ) o) : delta_Between_L1 x0 x1 Φ s rec1 := by
 unfold delta_Between_L1_S at h
 unfold delta_Between_L1
 exact ifS h (fun h => adS h fun h => blS h fun _ hv h => delta_Check_sound _ hv (ifS h (fun h => have t := lfS h hK; t) fun h => adS h fun h => have t := lfS h hK; t)) fun h => blS h fun _ hv h => delta_alike_sound _ _ hv (ifS h (fun h => have t := lfS h hK; t) fun h => blS h fun _ hv h => delta_marked_sound _ _ hv (have t := lfS h hK; t))
def delta_Between_S (x0 : api_Point) (x1 : api_Point) : Option (List (List api_Extent) × Int) :=
 loopS (delta_Between_L1_S x0 x1) 100000 (0)
theorem delta_Between_sound (x0 : api_Point) (x1 : api_Point) {Φ : List (List api_Extent) × Int → Prop} {o} (h : delta_Between_S x0 x1 = some o) (hK : Φ o) : delta_Between_W x0 x1 Φ := by
 unfold delta_Between_S at h
 unfold delta_Between_W
 exact LoopW.of_S (fun s q rec hs hq => delta_Between_L1_sound _ _ s hs hq) _ _ h hK
def reverse_Extents_S (x0 : api_Point) (x1 : api_Point) : Option (List (List api_Extent) × Int) :=
 Option.bind (delta_Between_S x0 x1) fun v9 =>
 some ((v9.1, v9.2))
theorem reverse_Extents_sound (x0 : api_Point) (x1 : api_Point) {Φ : List (List api_Extent) × Int → Prop} {o} (h : reverse_Extents_S x0 x1 = some o) (hK : Φ o) : reverse_Extents_W x0 x1 Φ := by
 unfold reverse_Extents_S at h
 unfold reverse_Extents_W
 exact blS h fun _ hv h => delta_Between_sound _ _ hv (have t := lfS h hK; t)
def delta_Ancestor_L3_S (x0 : List api_Span) (x1 : List api_Span) : (Int × Int × Int) → Option ((Int × Int × Int) ⊕ (Int × Int))
 | (v11, v12, v13) =>
  Option.bind (
   if v13 < (if (x1.length : Int) < (x0.length : Int) then (x1.length : Int) else (x0.length : Int)) then
    if inX v13 x0.length then
    if inX v13 x1.length then some () else none
    else none
   else some () : Option Unit) fun _ =>
  if (v13 < (if (x1.length : Int) < (x0.length : Int) then (x1.length : Int) else (x0.length : Int))) ∧ (((ix x0 v13).Epoch) = ((ix x1 v13).Epoch)) then
   if inX v13 x0.length then
   if inX v13 x1.length then
   if ((ix x0 v13).To) ≠ ((ix x1 v13).To) then
    some (.inr (if ((ix x1 v13).To) < ((ix x0 v13).To) then ((ix x1 v13).To) else ((ix x0 v13).To), (ix x0 v13).Epoch))
   else
    if inI (v13 + 1) then
    some (.inl (if ((ix x1 v13).To) < ((ix x0 v13).To) then ((ix x1 v13).To) else ((ix x0 v13).To), (ix x0 v13).Epoch, v13 + 1))
    else none
   else none
   else none
  else
   some (.inr (v11, v12))
theorem delta_Ancestor_L3_sound (x0 : List api_Span) (x1 : List api_Span) (s : Int × Int × Int) {Φ : Int × Int → Prop} {rec3 : (Int × Int × Int) → Prop} {o} (h : delta_Ancestor_L3_S x0 x1 s = some o) (hK : (orK rec3 Φ) o) : delta_Ancestor_L3 x0 x1 Φ s rec3 := by
 obtain ⟨v11, v12, v13⟩ := s
 unfold delta_Ancestor_L3_S at h
 unfold delta_Ancestor_L3
 exact mgS h (fun h hK => imS h fun h => adS h fun h => (ofIf h).1) fun h => ifS h (fun h => adS h fun h => adS h fun h => ifS h (fun h => have t := lfS h hK; t) fun h => adS h fun h => have t := lfS h hK; t) fun h => have t := lfS h hK; t
def delta_Ancestor_J1_S (x0 : List api_Span) (x1 : List api_Span) : Option (Int × Int) :=
 loopS (delta_Ancestor_L3_S x0 x1) 100000 (0, 0, 0)
theorem delta_Ancestor_J1_sound (x0 : List api_Span) (x1 : List api_Span) {Φ : Int × Int → Prop} {o} (h : delta_Ancestor_J1_S x0 x1 = some o) (hK : Φ o) : delta_Ancestor_J1 x0 x1 Φ := by
 unfold delta_Ancestor_J1_S at h
 unfold delta_Ancestor_J1
 exact LoopW.of_S (fun s q rec hs hq => delta_Ancestor_L3_sound _ _ s hs hq) _ _ h hK
def delta_Ancestor_S (x0 : List api_Span) (x1 : List api_Span) : Option (Int × Int) :=
 Option.bind (delta_correct_S x0) fun v72 =>
 if ¬ (v72 = true) then
  some ((0, 0))
 else
  Option.bind (delta_correct_S x1) fun v76 =>
  if ¬ (v76 = true) then
   some ((0, 0))
  else
   delta_Ancestor_J1_S x0 x1
theorem delta_Ancestor_sound (x0 : List api_Span) (x1 : List api_Span) {Φ : Int × Int → Prop} {o} (h : delta_Ancestor_S x0 x1 = some o) (hK : Φ o) : delta_Ancestor_W x0 x1 Φ := by
 unfold delta_Ancestor_S at h
 unfold delta_Ancestor_W
 exact blS h fun _ hv h => delta_correct_sound _ hv (ifS h (fun h => have t := lfS h hK; t) fun h => blS h fun _ hv h => delta_correct_sound _ hv (ifS h (fun h => have t := lfS h hK; t) fun h => delta_Ancestor_J1_sound _ _ h hK))
def slices_Clone_int_int_S (x0 : List Int) : Option (List Int) :=
 bothS (x0).isEmpty (
  some (([] : List Int))) (
  if lenOk (([] : List Int) ++ x0).length 8 then
  some ((([] : List Int) ++ x0))
  else none)
theorem slices_Clone_int_int_sound (x0 : List Int) {Φ : List Int → Prop} {o} (h : slices_Clone_int_int_S x0 = some o) (hK : Φ o) : slices_Clone_int_int_W x0 Φ := by
 unfold slices_Clone_int_int_S at h
 unfold slices_Clone_int_int_W
 exact nlS h (fun h => have t := lfS h hK; t) fun h => adS h fun h => have t := lfS h hK; t
def slices_Clone_api_Sector_api_Sector_S (x0 : List Sec) : Option (List Sec) :=
 bothS (x0).isEmpty (
  some (([] : List Sec))) (
  if lenOk (([] : List Sec) ++ x0).length 8 then
  some ((([] : List Sec) ++ x0))
  else none)
theorem slices_Clone_api_Sector_api_Sector_sound (x0 : List Sec) {Φ : List Sec → Prop} {o} (h : slices_Clone_api_Sector_api_Sector_S x0 = some o) (hK : Φ o) : slices_Clone_api_Sector_api_Sector_W x0 Φ := by
 unfold slices_Clone_api_Sector_api_Sector_S at h
 unfold slices_Clone_api_Sector_api_Sector_W
 exact nlS h (fun h => have t := lfS h hK; t) fun h => adS h fun h => have t := lfS h hK; t
def image_New_1_S (x0 : Int) : Option (List Sec) :=
 if 0 ≤ x0 then
 if lenOk x0.toNat 8 then
 some ((List.replicate x0.toNat sec0))
 else none
 else none
theorem image_New_1_sound (x0 : Int) {Φ : List Sec → Prop} {o} (h : image_New_1_S x0 = some o) (hK : Φ o) : image_New_1_W x0 Φ := by
 unfold image_New_1_S at h
 unfold image_New_1_W
 exact adS h fun h => adS h fun h => have t := lfS h hK; t
def image_mapped_int_api_Sector__image_New_1_L1_S (x0 : List Int) : (List (List Sec) × Int) → Option ((List (List Sec) × Int) ⊕ (List (List Sec)))
 | (v12, v20) =>
  if v20 < (x0.length : Int) then
   if inX v20 x0.length then
   Option.bind (image_New_1_S (ix x0 v20)) fun v26 =>
   if lenOk (v12 ++ [v26]).length 24 then
   if inI (v20 + 1) then
   some (.inl ((v12 ++ [v26]), v20 + 1))
   else none
   else none
   else none
  else
   some (.inr v12)
theorem image_mapped_int_api_Sector__image_New_1_L1_sound (x0 : List Int) (s : List (List Sec) × Int) {Φ : List (List Sec) → Prop} {rec1 : (List (List Sec) × Int) → Prop} {o} (h : image_mapped_int_api_Sector__image_New_1_L1_S x0 s = some o) (hK : (orK rec1 Φ) o) : image_mapped_int_api_Sector__image_New_1_L1 x0 Φ s rec1 := by
 obtain ⟨v12, v20⟩ := s
 unfold image_mapped_int_api_Sector__image_New_1_L1_S at h
 unfold image_mapped_int_api_Sector__image_New_1_L1
 exact ifS h (fun h => adS h fun h => blS h fun _ hv h => image_New_1_sound _ hv (adS h fun h => adS h fun h => have t := lfS h hK; t)) fun h => have t := lfS h hK; t
def image_mapped_int_api_Sector__image_New_1_S (x0 : List Int) : Option (List (List Sec)) :=
 if 0 ≤ (x0.length : Int) then
 if lenOk (x0.length : Int).toNat 24 then
 loopS (image_mapped_int_api_Sector__image_New_1_L1_S x0) 100000 (([] : List (List Sec)), 0)
 else none
 else none
theorem image_mapped_int_api_Sector__image_New_1_sound (x0 : List Int) {Φ : List (List Sec) → Prop} {o} (h : image_mapped_int_api_Sector__image_New_1_S x0 = some o) (hK : Φ o) : image_mapped_int_api_Sector__image_New_1_W x0 Φ := by
 unfold image_mapped_int_api_Sector__image_New_1_S at h
 unfold image_mapped_int_api_Sector__image_New_1_W
 exact adS h fun h => adS h fun h => LoopW.of_S (fun s q rec hs hq => image_mapped_int_api_Sector__image_New_1_L1_sound _ s hs hq) _ _ h hK
def image_New_S (x0 : List Int) : Option (List (List Sec) × Int) :=
 Option.bind (image_checkSizes_S x0) fun v2 =>
 if v2 ≠ 0 then
  some ((([] : List (List Sec)), v2))
 else
  Option.bind (image_mapped_int_api_Sector__image_New_1_S x0) fun v6 =>
  some ((v6, 0))
theorem image_New_sound (x0 : List Int) {Φ : List (List Sec) × Int → Prop} {o} (h : image_New_S x0 = some o) (hK : Φ o) : image_New_W x0 Φ := by
 unfold image_New_S at h
 unfold image_New_W
 exact blS h fun _ hv h => image_checkSizes_sound _ hv (ifS h (fun h => have t := lfS h hK; t) fun h => blS h fun _ hv h => image_mapped_int_api_Sector__image_New_1_sound _ hv (have t := lfS h hK; t))
def cycle_in_S (x0 : Int) (x1 : Int) (x2 : Int) : Option (Bool) :=
 some (decide ((x1 ≤ x0) ∧ (x0 ≤ x2)))
theorem cycle_in_sound (x0 : Int) (x1 : Int) (x2 : Int) {Φ : Bool → Prop} {o} (h : cycle_in_S x0 x1 x2 = some o) (hK : Φ o) : cycle_in_W x0 x1 x2 Φ := by
 unfold cycle_in_S at h
 unfold cycle_in_W
 exact have t := lfS h hK; t
def cycle_positions_1_S (x0 : Int) : Option (Bool) :=
 Option.bind (cycle_in_S x0 0 1073741824) fun v1 =>
 some (decide (¬ (v1 = true)))
theorem cycle_positions_1_sound (x0 : Int) {Φ : Bool → Prop} {o} (h : cycle_positions_1_S x0 = some o) (hK : Φ o) : cycle_positions_1_W x0 Φ := by
 unfold cycle_positions_1_S at h
 unfold cycle_positions_1_W
 exact blS h fun _ hv h => cycle_in_sound _ _ _ hv (have t := lfS h hK; t)
def slices_IndexFunc_int_int__cycle_positions_1_L1_S (x0 : List Int) : (Int) → Option ((Int) ⊕ (Int))
 | (v4) =>
  if v4 < (x0.length : Int) then
   if inX v4 x0.length then
   Option.bind (cycle_positions_1_S (ix x0 v4)) fun v10 =>
   if v10 = true then
    some (.inr v4)
   else
    if inI (v4 + 1) then
    some (.inl (v4 + 1))
    else none
   else none
  else
   some (.inr (-1))
theorem slices_IndexFunc_int_int__cycle_positions_1_L1_sound (x0 : List Int) (s : Int) {Φ : Int → Prop} {rec1 : (Int) → Prop} {o} (h : slices_IndexFunc_int_int__cycle_positions_1_L1_S x0 s = some o) (hK : (orK rec1 Φ) o) : slices_IndexFunc_int_int__cycle_positions_1_L1 x0 Φ s rec1 := by
 unfold slices_IndexFunc_int_int__cycle_positions_1_L1_S at h
 unfold slices_IndexFunc_int_int__cycle_positions_1_L1
 exact ifS h (fun h => adS h fun h => blS h fun _ hv h => cycle_positions_1_sound _ hv (ifS h (fun h => have t := lfS h hK; t) fun h => adS h fun h => have t := lfS h hK; t)) fun h => have t := lfS h hK; t
def slices_IndexFunc_int_int__cycle_positions_1_S (x0 : List Int) : Option (Int) :=
 loopS (slices_IndexFunc_int_int__cycle_positions_1_L1_S x0) 100000 (0)
theorem slices_IndexFunc_int_int__cycle_positions_1_sound (x0 : List Int) {Φ : Int → Prop} {o} (h : slices_IndexFunc_int_int__cycle_positions_1_S x0 = some o) (hK : Φ o) : slices_IndexFunc_int_int__cycle_positions_1_W x0 Φ := by
 unfold slices_IndexFunc_int_int__cycle_positions_1_S at h
 unfold slices_IndexFunc_int_int__cycle_positions_1_W
 exact LoopW.of_S (fun s q rec hs hq => slices_IndexFunc_int_int__cycle_positions_1_L1_sound _ s hs hq) _ _ h hK
def slices_ContainsFunc_int_int__cycle_positions_1_S (x0 : List Int) : Option (Bool) :=
 Option.bind (slices_IndexFunc_int_int__cycle_positions_1_S x0) fun v2 =>
 some (decide (0 ≤ v2))
theorem slices_ContainsFunc_int_int__cycle_positions_1_sound (x0 : List Int) {Φ : Bool → Prop} {o} (h : slices_ContainsFunc_int_int__cycle_positions_1_S x0 = some o) (hK : Φ o) : slices_ContainsFunc_int_int__cycle_positions_1_W x0 Φ := by
 unfold slices_ContainsFunc_int_int__cycle_positions_1_S at h
 unfold slices_ContainsFunc_int_int__cycle_positions_1_W
 exact blS h fun _ hv h => slices_IndexFunc_int_int__cycle_positions_1_sound _ hv (have t := lfS h hK; t)
def cycle_positions_S (x0 : List Int) (x1 : Int) : Option (Int) :=
 Option.bind (cycle_in_S (x0.length : Int) x1 8) fun v2 =>
 if ¬ (v2 = true) then
  some (6)
 else
  Option.bind (slices_ContainsFunc_int_int__cycle_positions_1_S x0) fun v6 =>
  if v6 = true then
   some (2)
  else
   some (0)
theorem cycle_positions_sound (x0 : List Int) (x1 : Int) {Φ : Int → Prop} {o} (h : cycle_positions_S x0 x1 = some o) (hK : Φ o) : cycle_positions_W x0 x1 Φ := by
 unfold cycle_positions_S at h
 unfold cycle_positions_W
 exact blS h fun _ hv h => cycle_in_sound _ _ _ hv (ifS h (fun h => have t := lfS h hK; t) fun h => blS h fun _ hv h => slices_ContainsFunc_int_int__cycle_positions_1_sound _ hv (ifS h (fun h => have t := lfS h hK; t) fun h => have t := lfS h hK; t))
def image_fits_S (x0 : List (List Sec)) (x1 : api_Write) : Option (Int) :=
 if (x1.Volume < 0) ∨ ((x0.length : Int) ≤ x1.Volume) then
  some (7)
 else
  if (x1.Data.length : Int) = 0 then
   some (1)
  else
   Option.bind (
    if ¬ (x1.Start < 0) then
     if inX x1.Volume x0.length then
     if inI (((ix x0 x1.Volume).length : Int) - (x1.Data.length : Int)) then some () else none
     else none
    else some () : Option Unit) fun _ =>
   if (x1.Start < 0) ∨ ((((ix x0 x1.Volume).length : Int) - (x1.Data.length : Int)) < x1.Start) then
    some (2)
   else
    some (0)
theorem image_fits_sound (x0 : List (List Sec)) (x1 : api_Write) {Φ : Int → Prop} {o} (h : image_fits_S x0 x1 = some o) (hK : Φ o) : image_fits_W x0 x1 Φ := by
 unfold image_fits_S at h
 unfold image_fits_W
 exact ifS h (fun h => have t := lfS h hK; t) fun h => ifS h (fun h => have t := lfS h hK; t) fun h => mgS h (fun h hK => imS h fun h => adS h fun h => (ofIf h).1) fun h => ifS h (fun h => have t := lfS h hK; t) fun h => have t := lfS h hK; t
def image_Fits_S (x0 : List (List Sec)) (x1 : api_Write) : Option (Int) :=
 Option.bind (image_Check_S x0) fun v4 =>
 if v4 ≠ 0 then
  some (v4)
 else
  Option.bind (image_fits_S x0 x1) fun v8 =>
  some (v8)
theorem image_Fits_sound (x0 : List (List Sec)) (x1 : api_Write) {Φ : Int → Prop} {o} (h : image_Fits_S x0 x1 = some o) (hK : Φ o) : image_Fits_W x0 x1 Φ := by
 unfold image_Fits_S at h
 unfold image_Fits_W
 exact blS h fun _ hv h => image_Check_sound _ hv (ifS h (fun h => have t := lfS h hK; t) fun h => blS h fun _ hv h => image_fits_sound _ _ hv (have t := lfS h hK; t))
def coalesce_Check_1_S (x0 : api_Write) (y800 : List (List Sec)) : Option (Int) :=
 Option.bind (image_Fits_S y800 x0) fun v4 =>
 some (v4)
theorem coalesce_Check_1_sound (x0 : api_Write) (y800 : List (List Sec)) {Φ : Int → Prop} {o} (h : coalesce_Check_1_S x0 y800 = some o) (hK : Φ o) : coalesce_Check_1_W x0 y800 Φ := by
 unfold coalesce_Check_1_S at h
 unfold coalesce_Check_1_W
 exact blS h fun _ hv h => image_Fits_sound _ _ hv (have t := lfS h hK; t)
def coalesce_check__coalesce_Check_1_L1_S (x0 : List api_Write) (y910 : List (List Sec)) : (Int) → Option ((Int) ⊕ (Int))
 | (v5) =>
  if v5 < (x0.length : Int) then
   if inX v5 x0.length then
   Option.bind (coalesce_Check_1_S (ix x0 v5) y910) fun v16 =>
   if v16 ≠ 0 then
    some (.inr v16)
   else
    if v5 = 0 then
     if inI (v5 + 1) then
     some (.inl (v5 + 1))
     else none
    else
     if inI (v5 - 1) then
     if inX (v5 - 1) x0.length then
     Option.bind (
      if ¬ (((ix x0 v5).Volume) < ((ix x0 (v5 - 1)).Volume)) then
       if ((ix x0 v5).Volume) = ((ix x0 (v5 - 1)).Volume) then
        if inI (((ix x0 (v5 - 1)).Start) + (((ix x0 (v5 - 1)).Data).length : Int)) then some () else none
       else some ()
      else some () : Option Unit) fun _ =>
     if (((ix x0 v5).Volume) < ((ix x0 (v5 - 1)).Volume)) ∨ ((((ix x0 v5).Volume) = ((ix x0 (v5 - 1)).Volume)) ∧ (((ix x0 v5).Start) ≤ (((ix x0 (v5 - 1)).Start) + (((ix x0 (v5 - 1)).Data).length : Int)))) then
      some (.inr 3)
     else
      if inI (v5 + 1) then
      some (.inl (v5 + 1))
      else none
     else none
     else none
   else none
  else
   some (.inr 0)
theorem coalesce_check__coalesce_Check_1_L1_sound (x0 : List api_Write) (y910 : List (List Sec)) (s : Int) {Φ : Int → Prop} {rec1 : (Int) → Prop} {o} (h : coalesce_check__coalesce_Check_1_L1_S x0 y910 s = some o) (hK : (orK rec1 Φ) o) : coalesce_check__coalesce_Check_1_L1 x0 y910 Φ s rec1 := by
 unfold coalesce_check__coalesce_Check_1_L1_S at h
 unfold coalesce_check__coalesce_Check_1_L1
 exact ifS h (fun h => adS h fun h => blS h fun _ hv h => coalesce_Check_1_sound _ _ hv (ifS h (fun h => have t := lfS h hK; t) fun h => ifS h (fun h => adS h fun h => have t := lfS h hK; t) fun h => adS h fun h => adS h fun h => mgS h (fun h hK => imS h fun h => imS h fun h => (ofIf h).1) fun h => ifS h (fun h => have t := lfS h hK; t) fun h => adS h fun h => have t := lfS h hK; t)) fun h => have t := lfS h hK; t
def coalesce_check__coalesce_Check_1_S (x0 : List api_Write) (y910 : List (List Sec)) : Option (Int) :=
 loopS (coalesce_check__coalesce_Check_1_L1_S x0 y910) 100000 (0)
theorem coalesce_check__coalesce_Check_1_sound (x0 : List api_Write) (y910 : List (List Sec)) {Φ : Int → Prop} {o} (h : coalesce_check__coalesce_Check_1_S x0 y910 = some o) (hK : Φ o) : coalesce_check__coalesce_Check_1_W x0 y910 Φ := by
 unfold coalesce_check__coalesce_Check_1_S at h
 unfold coalesce_check__coalesce_Check_1_W
 exact LoopW.of_S (fun s q rec hs hq => coalesce_check__coalesce_Check_1_L1_sound _ _ s hs hq) _ _ h hK
def coalesce_Check_S (x0 : List api_Write) (x1 : List Int) : Option (Int) :=
 Option.bind (image_New_S x1) fun v3 =>
 if v3.2 ≠ 0 then
  some (v3.2)
 else
  Option.bind (coalesce_check__coalesce_Check_1_S x0 v3.1) fun v12 =>
  some (v12)
theorem coalesce_Check_sound (x0 : List api_Write) (x1 : List Int) {Φ : Int → Prop} {o} (h : coalesce_Check_S x0 x1 = some o) (hK : Φ o) : coalesce_Check_W x0 x1 Φ := by
 unfold coalesce_Check_S at h
 unfold coalesce_Check_W
 exact blS h fun _ hv h => image_New_sound _ hv (ifS h (fun h => have t := lfS h hK; t) fun h => blS h fun _ hv h => coalesce_check__coalesce_Check_1_sound _ _ hv (have t := lfS h hK; t))
def cycle_Check_S (x0 : api_Cycle) (x1 : List Int) : Option (Int) :=
 Option.bind (image_New_S x1) fun v5 =>
 if v5.2 ≠ 0 then
  some (v5.2)
 else
  if (x0.Base < 0) ∨ ((x0.Number ≤ x0.Base) ∨ (1073741824 < x0.Number)) then
   some (2)
  else
   Option.bind (cycle_in_S x0.Time 0 1073741824) fun v13 =>
   if ¬ (v13 = true) then
    some (24)
   else
    Option.bind (cycle_positions_S x0.Positions 0) fun v17 =>
    if v17 ≠ 0 then
     some (v17)
    else
     Option.bind (coalesce_Check_S x0.Writes x1) fun v21 =>
     some (v21)
theorem cycle_Check_sound (x0 : api_Cycle) (x1 : List Int) {Φ : Int → Prop} {o} (h : cycle_Check_S x0 x1 = some o) (hK : Φ o) : cycle_Check_W x0 x1 Φ := by
 unfold cycle_Check_S at h
 unfold cycle_Check_W
 exact blS h fun _ hv h => image_New_sound _ hv (ifS h (fun h => have t := lfS h hK; t) fun h => ifS h (fun h => have t := lfS h hK; t) fun h => blS h fun _ hv h => cycle_in_sound _ _ _ hv (ifS h (fun h => have t := lfS h hK; t) fun h => blS h fun _ hv h => cycle_positions_sound _ _ hv (ifS h (fun h => have t := lfS h hK; t) fun h => blS h fun _ hv h => coalesce_Check_sound _ _ hv (have t := lfS h hK; t))))
def reverse_Cycle_L3_S (x1 : api_Point) (v11 : List (List api_Extent) × Int) (v39 : List Int) (v46 : Int) : (List api_Write × Int) → Option ((List api_Write × Int) ⊕ ((List api_Write × List Int × Int) ⊕ (api_Cycle × Int)))
 | (v67, v74) =>
  if v74 < ((ix v11.1 v46).length : Int) then
   if inX v74 (ix v11.1 v46).length then
   if inI (((ix (ix v11.1 v46) v74).Start) + ((ix (ix v11.1 v46) v74).Count)) then
   if inS ((ix (ix v11.1 v46) v74).Start) (((ix (ix v11.1 v46) v74).Start) + ((ix (ix v11.1 v46) v74).Count)) (ix x1.Image v46).length then
   Option.bind (slices_Clone_api_Sector_api_Sector_S (sub (ix x1.Image v46) ((ix (ix v11.1 v46) v74).Start) (((ix (ix v11.1 v46) v74).Start) + ((ix (ix v11.1 v46) v74).Count)))) fun v102 =>
   if lenOk (v67 ++ ([(api_Write.mk v46 ((ix (ix v11.1 v46) v74).Start) v102)] : List api_Write)).length 40 then
   if inI (v74 + 1) then
   some (.inl ((v67 ++ ([(api_Write.mk v46 ((ix (ix v11.1 v46) v74).Start) v102)] : List api_Write)), v74 + 1))
   else none
   else none
   else none
   else none
   else none
  else
   if inI (v46 + 1) then
   some (.inr (.inl (v67, (v39 ++ ([((ix x1.Image v46).length : Int)] : List Int)), v46 + 1)))
   else none
theorem reverse_Cycle_L3_sound (x1 : api_Point) (v11 : List (List api_Extent) × Int) (v39 : List Int) (v46 : Int) (s : List api_Write × Int) {Φ : api_Cycle × Int → Prop} {rec2 : (List api_Write × List Int × Int) → Prop} {rec3 : (List api_Write × Int) → Prop} {o} (h : reverse_Cycle_L3_S x1 v11 v39 v46 s = some o) (hK : (orK rec3 (orK rec2 Φ)) o) : reverse_Cycle_L3 x1 v11 v39 v46 rec2 Φ s rec3 := by
 obtain ⟨v67, v74⟩ := s
 unfold reverse_Cycle_L3_S at h
 unfold reverse_Cycle_L3
 exact ifS h (fun h => adS h fun h => adS h fun h => adS h fun h => blS h fun v hv h => ⟨v, slices_Clone_api_Sector_api_Sector_sound _ hv rfl, adS h fun h => adS h fun h => have t := lfS h hK; t⟩) fun h => adS h fun h => have t := lfS h hK; t
def reverse_Cycle_L2_S (x1 : api_Point) (x2 : Int) (x3 : Int) (v11 : List (List api_Extent) × Int) (v18 : Int × Int) (v23 : List Int) : (List api_Write × List Int × Int) → Option ((List api_Write × List Int × Int) ⊕ (api_Cycle × Int))
 | (v32, v39, v46) =>
  if v46 < (x1.Image.length : Int) then
   if inX v46 x1.Image.length then
   if lenOk (v39 ++ ([((ix x1.Image v46).length : Int)] : List Int)).length 8 then
   if inX v46 v11.1.length then
   loopS (reverse_Cycle_L3_S x1 v11 v39 v46) 100000 (v32, 0)
   else none
   else none
   else none
  else
   Option.bind (cycle_Check_S (api_Cycle.mk v18.1 x2 x3 v23 v32) v39) fun v176 =>
   if v176 ≠ 0 then
    some (.inr ((api_Cycle.mk 0 0 0 ([] : List Int) ([] : List api_Write)), v176))
   else
    some (.inr ((api_Cycle.mk v18.1 x2 x3 v23 v32), 0))
theorem reverse_Cycle_L2_sound (x1 : api_Point) (x2 : Int) (x3 : Int) (v11 : List (List api_Extent) × Int) (v18 : Int × Int) (v23 : List Int) (s : List api_Write × List Int × Int) {Φ : api_Cycle × Int → Prop} {rec2 : (List api_Write × List Int × Int) → Prop} {o} (h : reverse_Cycle_L2_S x1 x2 x3 v11 v18 v23 s = some o) (hK : (orK rec2 Φ) o) : reverse_Cycle_L2 x1 x2 x3 v11 v18 v23 Φ s rec2 := by
 obtain ⟨v32, v39, v46⟩ := s
 unfold reverse_Cycle_L2_S at h
 unfold reverse_Cycle_L2
 exact ifS h (fun h => adS h fun h => adS h fun h => adS h fun h => LoopW.of_S (fun s q rec hs hq => reverse_Cycle_L3_sound _ _ _ _ s hs hq) _ _ h hK) fun h => blS h fun _ hv h => cycle_Check_sound _ _ hv (ifS h (fun h => have t := lfS h hK; t) fun h => have t := lfS h hK; t)
def reverse_Cycle_J1_S (x1 : api_Point) (x2 : Int) (x3 : Int) (x4 : List Int) (v11 : List (List api_Extent) × Int) (v18 : Int × Int) : Option (api_Cycle × Int) :=
 Option.bind (slices_Clone_int_int_S x4) fun v23 =>
 loopS (reverse_Cycle_L2_S x1 x2 x3 v11 v18 v23) 100000 (([] : List api_Write), ([] : List Int), 0)
theorem reverse_Cycle_J1_sound (x1 : api_Point) (x2 : Int) (x3 : Int) (x4 : List Int) (v11 : List (List api_Extent) × Int) (v18 : Int × Int) {Φ : api_Cycle × Int → Prop} {o} (h : reverse_Cycle_J1_S x1 x2 x3 x4 v11 v18 = some o) (hK : Φ o) : reverse_Cycle_J1 x1 x2 x3 x4 v11 v18 Φ := by
 unfold reverse_Cycle_J1_S at h
 unfold reverse_Cycle_J1
 exact blS h fun _ hv h => slices_Clone_int_int_sound _ hv (LoopW.of_S (fun s q rec hs hq => reverse_Cycle_L2_sound _ _ _ _ _ _ s hs hq) _ _ h hK)
def reverse_Cycle_S (x0 : api_Point) (x1 : api_Point) (x2 : Int) (x3 : Int) (x4 : List Int) : Option (api_Cycle × Int) :=
 Option.bind (delta_Between_S x0 x1) fun v11 =>
 if v11.2 ≠ 0 then
  some (((api_Cycle.mk 0 0 0 ([] : List Int) ([] : List api_Write)), v11.2))
 else
  Option.bind (delta_Ancestor_S x0.Lineage x1.Lineage) fun v18 =>
  if x2 ≤ v18.1 then
   some (((api_Cycle.mk 0 0 0 ([] : List Int) ([] : List api_Write)), 2))
  else
   Option.bind (reverse_last_S x1.Lineage) fun v186 =>
   if x2 < v186 then
    some (((api_Cycle.mk 0 0 0 ([] : List Int) ([] : List api_Write)), 2))
   else
    reverse_Cycle_J1_S x1 x2 x3 x4 v11 v18
theorem reverse_Cycle_sound (x0 : api_Point) (x1 : api_Point) (x2 : Int) (x3 : Int) (x4 : List Int) {Φ : api_Cycle × Int → Prop} {o} (h : reverse_Cycle_S x0 x1 x2 x3 x4 = some o) (hK : Φ o) : reverse_Cycle_W x0 x1 x2 x3 x4 Φ := by
 unfold reverse_Cycle_S at h
 unfold reverse_Cycle_W
 exact blS h fun _ hv h => delta_Between_sound _ _ hv (ifS h (fun h => have t := lfS h hK; t) fun h => blS h fun _ hv h => delta_Ancestor_sound _ _ hv (ifS h (fun h => have t := lfS h hK; t) fun h => blS h fun _ hv h => reverse_last_sound _ hv (ifS h (fun h => have t := lfS h hK; t) fun h => reverse_Cycle_J1_sound _ _ _ _ _ _ h hK)))
def ref02_SameExtents_L1_S (x0 : List api_Extent) (x1 : List api_Extent) : (Int) → Option ((Int) ⊕ (Bool))
 | (v6) =>
  if v6 < (x0.length : Int) then
   if inX v6 x0.length then
   if inX v6 x1.length then
   if (ix x0 v6) ≠ (ix x1 v6) then
    some (.inr false)
   else
    if inI (v6 + 1) then
    some (.inl (v6 + 1))
    else none
   else none
   else none
  else
   some (.inr true)
theorem ref02_SameExtents_L1_sound (x0 : List api_Extent) (x1 : List api_Extent) (s : Int) {Φ : Bool → Prop} {rec1 : (Int) → Prop} {o} (h : ref02_SameExtents_L1_S x0 x1 s = some o) (hK : (orK rec1 Φ) o) : ref02_SameExtents_L1 x0 x1 Φ s rec1 := by
 unfold ref02_SameExtents_L1_S at h
 unfold ref02_SameExtents_L1
 exact ifS h (fun h => adS h fun h => adS h fun h => ifS h (fun h => have t := lfS h hK; t) fun h => adS h fun h => have t := lfS h hK; t) fun h => have t := lfS h hK; t
def ref02_SameExtents_S (x0 : List api_Extent) (x1 : List api_Extent) : Option (Bool) :=
 if (x0.length : Int) ≠ (x1.length : Int) then
  some (false)
 else
  loopS (ref02_SameExtents_L1_S x0 x1) 100000 (0)
theorem ref02_SameExtents_sound (x0 : List api_Extent) (x1 : List api_Extent) {Φ : Bool → Prop} {o} (h : ref02_SameExtents_S x0 x1 = some o) (hK : Φ o) : ref02_SameExtents_W x0 x1 Φ := by
 unfold ref02_SameExtents_S at h
 unfold ref02_SameExtents_W
 exact ifS h (fun h => have t := lfS h hK; t) fun h => LoopW.of_S (fun s q rec hs hq => ref02_SameExtents_L1_sound _ _ s hs hq) _ _ h hK
def ref47_SameExtents_L1_S (x0 : List (List api_Extent)) (x1 : List (List api_Extent)) : (Int) → Option ((Int) ⊕ (Bool))
 | (v6) =>
  if v6 < (x0.length : Int) then
   if inX v6 x0.length then
   if inX v6 x1.length then
   Option.bind (ref02_SameExtents_S (ix x0 v6) (ix x1 v6)) fun v16 =>
   if ¬ (v16 = true) then
    some (.inr false)
   else
    if inI (v6 + 1) then
    some (.inl (v6 + 1))
    else none
   else none
   else none
  else
   some (.inr true)
theorem ref47_SameExtents_L1_sound (x0 : List (List api_Extent)) (x1 : List (List api_Extent)) (s : Int) {Φ : Bool → Prop} {rec1 : (Int) → Prop} {o} (h : ref47_SameExtents_L1_S x0 x1 s = some o) (hK : (orK rec1 Φ) o) : ref47_SameExtents_L1 x0 x1 Φ s rec1 := by
 unfold ref47_SameExtents_L1_S at h
 unfold ref47_SameExtents_L1
 exact ifS h (fun h => adS h fun h => adS h fun h => blS h fun v hv h => ⟨v, ref02_SameExtents_sound _ _ hv rfl, ifS h (fun h => have t := lfS h hK; t) fun h => adS h fun h => have t := lfS h hK; t⟩) fun h => have t := lfS h hK; t
def ref47_SameExtents_S (x0 : List (List api_Extent)) (x1 : List (List api_Extent)) : Option (Bool) :=
 if (x0.length : Int) ≠ (x1.length : Int) then
  some (false)
 else
  loopS (ref47_SameExtents_L1_S x0 x1) 100000 (0)
theorem ref47_SameExtents_sound (x0 : List (List api_Extent)) (x1 : List (List api_Extent)) {Φ : Bool → Prop} {o} (h : ref47_SameExtents_S x0 x1 = some o) (hK : Φ o) : ref47_SameExtents_W x0 x1 Φ := by
 unfold ref47_SameExtents_S at h
 unfold ref47_SameExtents_W
 exact ifS h (fun h => have t := lfS h hK; t) fun h => LoopW.of_S (fun s q rec hs hq => ref47_SameExtents_L1_sound _ _ s hs hq) _ _ h hK
def law47_awake_S : Option (Bool) :=
 Option.bind (law47_one_S 0 (8#8)) fun v10 =>
 Option.bind (law47_point_S 0 ([([(Sec.mk (1#8) (0#8) (0#8) (0#8) (0#8) (0#8) (0#8) (0#8)), (Sec.mk (2#8) (0#8) (0#8) (0#8) (0#8) (0#8) (0#8) (0#8)), (Sec.mk (3#8) (0#8) (0#8) (0#8) (0#8) (0#8) (0#8) (0#8))] : List Sec)] : List (List Sec)) ([(api_Span.mk 1 1 4)] : List api_Span) ([v10] : List api_Write)) fun v30 =>
 Option.bind (law47_one_S 2 (9#8)) fun v41 =>
 Option.bind (law47_point_S 1 ([([(Sec.mk (1#8) (0#8) (0#8) (0#8) (0#8) (0#8) (0#8) (0#8)), (Sec.mk (2#8) (0#8) (0#8) (0#8) (0#8) (0#8) (0#8) (0#8)), (Sec.mk (3#8) (0#8) (0#8) (0#8) (0#8) (0#8) (0#8) (0#8))] : List Sec)] : List (List Sec)) ([(api_Span.mk 1 1 4), (api_Span.mk 2 5 6)] : List api_Span) ([v41] : List api_Write)) fun v58 =>
 Option.bind (reverse_Undo_S v30 4) fun v70 =>
 Option.bind (reverse_Extents_S v30 v58) fun v79 =>
 Option.bind (reverse_Cycle_S v30 v58 6 7 ([] : List Int)) fun v85 =>
 if (v70.2 ≠ 0) ∨ ((v79.2 ≠ 0) ∨ ((v85.2 ≠ 0) ∨ ((v85.1.Base ≠ 4) ∨ ((v85.1.Writes.length : Int) ≠ 2)))) then
  some (false)
 else
  Option.bind (ref47_SameExtents_S v70.1 ([([(api_Extent.mk 0 1)] : List api_Extent)] : List (List api_Extent))) fun v116 =>
  if v116 = true then
   Option.bind (ref47_SameExtents_S v79.1 ([([(api_Extent.mk 0 1), (api_Extent.mk 2 1)] : List api_Extent)] : List (List api_Extent))) fun v133 =>
   if v133 = true then
    if inX 0 v85.1.Writes.length then
    if inX 0 ((ix v85.1.Writes 0).Data).length then
    if (ix ((ix v85.1.Writes 0).Data) 0) = (Sec.mk (1#8) (0#8) (0#8) (0#8) (0#8) (0#8) (0#8) (0#8)) then
     if inX 1 v85.1.Writes.length then
     if inX 0 ((ix v85.1.Writes 1).Data).length then
     some (decide ((ix ((ix v85.1.Writes 1).Data) 0) = (Sec.mk (9#8) (0#8) (0#8) (0#8) (0#8) (0#8) (0#8) (0#8))))
     else none
     else none
    else
     some (false)
    else none
    else none
   else
    some (false)
  else
   some (false)
theorem law47_awake_sound {Φ : Bool → Prop} {o} (h : law47_awake_S = some o) (hK : Φ o) : law47_awake_W Φ := by
 unfold law47_awake_S at h
 unfold law47_awake_W
 exact blS h fun _ hv h => law47_one_sound _ _ hv (blS h fun _ hv h => law47_point_sound _ _ _ _ hv (blS h fun _ hv h => law47_one_sound _ _ hv (blS h fun _ hv h => law47_point_sound _ _ _ _ hv (blS h fun _ hv h => reverse_Undo_sound _ _ hv (blS h fun _ hv h => reverse_Extents_sound _ _ hv (blS h fun _ hv h => reverse_Cycle_sound _ _ _ _ _ hv (ifS h (fun h => have t := lfS h hK; t) fun h => blS h fun _ hv h => ref47_SameExtents_sound _ _ hv (ifS h (fun h => blS h fun _ hv h => ref47_SameExtents_sound _ _ hv (ifS h (fun h => adS h fun h => adS h fun h => ifS h (fun h => adS h fun h => adS h fun h => have t := lfS h hK; t) fun h => have t := lfS h hK; t) fun h => have t := lfS h hK; t)) fun h => have t := lfS h hK; t))))))))
theorem marks_len (a b : api_Point) : (marks a b).length = a.Dirty.length ∧ ∀ x ∈ marks a b, x.length ≤ 1000000 := by
  refine ⟨by simp [marks], fun x hx => ?_⟩
  obtain ⟨y, _, rfl⟩ := List.mem_map.1 hx
  exact Nat.le_trans (exts_len _) (by decide)
theorem law47_awake_ok {Φ : Bool → Prop} (h : Φ true) : law47_awake_W Φ := law47_awake_sound (by kernel_rfl) h
theorem cloneI_ok {l : List Int} {Φ : List Int → Prop} (hl : l.length ≤ 1000000) (hΦ : Φ l) : slices_Clone_int_int_W l Φ :=
  ⟨fun h => by rw [h] at hΦ; exact hΦ, iL (by rw [List.nil_append]; exact hl) (by omega), hΦ⟩
def wrK (im : List (List Sec)) (l : List (List api_Extent)) (v i : Nat) : api_Write := ⟨(v : Int), (ix (ix l (v : Int)) (i : Int)).Start, sub (ix im (v : Int)) (ix (ix l (v : Int)) (i : Int)).Start ((ix (ix l (v : Int)) (i : Int)).Start + (ix (ix l (v : Int)) (i : Int)).Count)⟩
def contV (im : List (List Sec)) (l : List (List api_Extent)) (v m : Nat) : List api_Write := (List.range m).map (wrK im l v)
def cont (im : List (List Sec)) (l : List (List api_Extent)) (n : Nat) : List api_Write := (List.range n).flatMap fun v => contV im l v (ix l (v : Int)).length
def fitE (sizes : List Int) (w : api_Write) : Int := if w.Volume < 0 ∨ (sizes.length : Int) ≤ w.Volume then 7 else if (w.Data.length : Int) = 0 then 1 else if w.Start < 0 ∨ ix sizes w.Volume - w.Start < (w.Data.length : Int) then 2 else 0
theorem sizes_ok {l : List Int} (h : ¬ sizesE l ≠ 0) : l.length ≤ 8 ∧ 1 ≤ l.length ∧ ∀ k : Nat, k < l.length → 1 ≤ ix l (k : Int) ∧ ix l (k : Int) ≤ 4096 := by
  have h0 := Classical.not_not.1 h
  unfold sizesE at h0
  split at h0
  · omega
  · refine ⟨by omega, by omega, fun k hk => ?_⟩
    have := firstN_zero.1 h0 k hk
    split at this <;> omega
theorem fitE_zero {sizes : List Int} {w : api_Write} (hs : ¬ sizesE sizes ≠ 0) (h : fitE sizes w = 0) : 0 ≤ w.Volume ∧ w.Volume < (sizes.length : Int) ∧ 1 ≤ w.Data.length ∧ 0 ≤ w.Start ∧ w.Start + (w.Data.length : Int) ≤ ix sizes w.Volume ∧ ix sizes w.Volume ≤ 4096 := by
  unfold fitE at h
  split at h
  · omega
  split at h
  · omega
  split at h
  · omega
  obtain ⟨v, hv⟩ := Int.eq_ofNat_of_zero_le (show 0 ≤ w.Volume by omega)
  have hz := (sizes_ok hs).2.2 v (by omega)
  rw [← hv] at hz
  omega
def zeroIm (sizes : List Int) : List (List Sec) := sizes.map fun n => List.replicate n.toNat sec0
theorem image_New_ok {sizes : List Int} {Φ : List (List Sec) × Int → Prop} (h1 : sizesE sizes ≠ 0 → Φ ([], sizesE sizes)) (h2 : ¬ sizesE sizes ≠ 0 → Φ (zeroIm sizes, 0)) : image_New_W sizes Φ := by
  refine image_checkSizes_ok ⟨fun q => h1 q, fun q => ?_⟩
  have hs := sizes_ok q
  refine ⟨by omega, iL (by omega) (by omega), ?_⟩
  refine LoopW.mapL sizes (fun n => List.replicate n.toNat sec0) (fun k acc rec hk hal _ hrec => ⟨fun _ => ⟨iX (by omega) (by omega), ?_⟩, fun q => absurd (by omega) q⟩) fun rec => ⟨fun q => absurd q (by omega), fun _ => h2 q⟩
  have := hs.2.2 k hk
  exact ⟨by omega, iL (by omega) (by omega), iL (by simp only [List.length_append, List.length_cons, List.length_nil]; omega) (by omega), iI (by omega) (by omega), hrec⟩
theorem ref23_SameInts_refl {l : List Int} {Φ : Bool → Prop} (hl : l.length ≤ 1000000) (hΦ : Φ true) : ref23_SameInts_W l l Φ := by
  refine ⟨fun h => absurd rfl h, fun _ => LoopW.up l.length (fun _ => True) ?_ (k0 := 0) rfl (Nat.zero_le _) trivial⟩
  intro k rec hk _ hrec
  exact ⟨fun hlt => ⟨iX (by omega) hlt, iX (by omega) hlt, fun q => absurd rfl q, fun _ => ⟨iI (by omega) (by omega), hrec (by omega) trivial⟩⟩, fun _ => hΦ⟩
theorem ix_put {α : Type} [Dt α] (xs : List α) {i j : Nat} (x : α) (hi : i < xs.length) : ix (put xs (i : Int) x) (j : Int) = if j = i then x else ix xs (j : Int) := by
  show (xs.set i x).getD j default = if j = i then x else xs.getD j default
  rw [List.getD_eq_getElem?_getD, List.getD_eq_getElem?_getD]
  by_cases h : j = i
  · subst h; rw [List.getElem?_set_self hi, if_pos rfl]; rfl
  · rw [List.getElem?_set_ne (by omega), if_neg h]
theorem paste_len' {α : Type} {xs ys : List α} {s : Nat} (h : s ≤ xs.length) : (paste xs (s : Int) ys).length = xs.length := paste_len ⟨by omega, by omega, by omega⟩
def apply1 (im : List (List Sec)) (w : api_Write) : List (List Sec) := put im w.Volume (paste (ix im w.Volume) w.Start w.Data)
def appL (im : List (List Sec)) (l : List api_Write) : List (List Sec) := l.foldl apply1 im
structure FitW (sizes : List Int) (w : api_Write) (v s : Nat) : Prop where
  vol : w.Volume = (v : Int)
  start : w.Start = (s : Int)
  hv : v < sizes.length
  len : 1 ≤ w.Data.length
  le : ((s + w.Data.length : Nat) : Int) ≤ ix sizes (v : Int)
  top : ix sizes (v : Int) ≤ 4096
theorem fitW_of {sizes : List Int} {w : api_Write} (hs : ¬ sizesE sizes ≠ 0) (h : fitE sizes w = 0) : ∃ v s : Nat, FitW sizes w v s := by
  have := fitE_zero hs h
  obtain ⟨v, hv⟩ := Int.eq_ofNat_of_zero_le this.1
  obtain ⟨s, hst⟩ := Int.eq_ofNat_of_zero_le this.2.2.2.1
  rw [hv, hst] at this
  exact ⟨v, s, hv, hst, by omega, by omega, by omega, by omega⟩
theorem szs_apply1 {im : List (List Sec)} {w : api_Write} {v s : Nat} (h : FitW (szs im) w v s) : szs (apply1 im w) = szs im := by
  have hv := h.hv
  rw [szs_len] at hv
  have hle := h.le
  rw [ix_szs hv] at hle
  unfold apply1
  rw [h.vol, h.start]
  refine ext_ix (by rw [szs_len, szs_len, put_len]) fun k hk => ?_
  rw [szs_len, put_len] at hk
  rw [ix_szs (by rw [put_len]; exact hk), ix_szs hk, ix_put _ _ hv]
  by_cases hkv : k = v
  · rw [if_pos hkv, paste_len' (by omega), hkv]
  · rw [if_neg hkv]
theorem szs_appL {im : List (List Sec)} (hs : ¬ sizesE (szs im) ≠ 0) : ∀ {l : List api_Write}, (∀ w ∈ l, fitE (szs im) w = 0) → szs (appL im l) = szs im := by
  intro l
  induction l generalizing im with
  | nil => intro _; rfl
  | cons w l ih =>
    intro h
    obtain ⟨v, s, hw⟩ := fitW_of hs (h w (List.mem_cons_self ..))
    have e := szs_apply1 hw
    show szs (appL (apply1 im w) l) = _
    rw [ih (by rw [e]; exact hs) fun x hx => by rw [e]; exact h x (List.mem_cons_of_mem _ hx), e]
def sec (im : List (List Sec)) (v i : Nat) : Sec := ix (ix im (v : Int)) (i : Int)
def covW (w : api_Write) (v i : Nat) : Prop := w.Volume = (v : Int) ∧ w.Start ≤ (i : Int) ∧ (i : Int) < w.Start + (w.Data.length : Int)
instance (w : api_Write) (v i : Nat) : Decidable (covW w v i) := by unfold covW; infer_instance
theorem ref02_Fits_ok {e : api_Extent} {n : Int} {Φ : Bool → Prop} (h0 : 0 ≤ n) (h1 : n ≤ 4096) (hΦ : Φ (fitsB e.Start e.Count n)) : ref02_Fits_W e n Φ := by
  refine ⟨fun q1 q2 q3 => iI (by omega) (by omega), ?_⟩
  have e1 : decide ((0 ≤ e.Start) ∧ ((0 ≤ e.Count) ∧ ((e.Start ≤ n) ∧ (e.Count ≤ (n - e.Start))))) = fitsB e.Start e.Count n := by
    rw [Bool.eq_iff_iff, decide_eq_true_iff]; exact fitsB_iff.symm
  rw [e1]; exact hΦ
theorem ref02_Copy_ok {b : api_Bitmap} {Φ : api_Bitmap → Prop} (hl : b.Words.length ≤ 1000000) (hΦ : Φ b) : ref02_Copy_W b Φ := ⟨iL (by rw [List.nil_append]; exact hl) (by omega), hΦ⟩
def setB (b : api_Bitmap) (e : api_Extent) : api_Bitmap × Int := bmOf (chR true b.Size b.Words e.Start e.Count)
theorem ref02_Set_ok {b : api_Bitmap} {e : api_Extent} {Φ : api_Bitmap × Int → Prop} (hΦ : Φ (setB b e)) : ref02_Set_W b e Φ := by
  unfold setB at hΦ
  unfold ref02_Set_W ref02_change_W
  refine ref02_Check_ok ⟨fun q => by rw [chR_form q] at hΦ; exact hΦ, fun q => ?_⟩
  have hw := chkB_len q
  refine ref02_Fits_ok hw.1 hw.2.1 ⟨fun q2 => by rw [chR_range q q2] at hΦ; exact hΦ, fun q2 => ?_⟩
  have q3 := Classical.not_not.1 q2
  rw [chR_ok q q3] at hΦ
  have hf := fitsB_iff.1 q3
  refine ref02_Copy_ok (by omega) ?_
  obtain ⟨s, hs⟩ := Int.eq_ofNat_of_zero_le hf.1
  refine LoopW.up2 (e.Start + e.Count).toNat (fun k acc => s ≤ k ∧ acc = chW true b.Words e.Start (k : Int)) ?_ (k0 := s) hs (by omega) ⟨Nat.le_refl _, by rw [chW_none true b.Words (by omega)]⟩
  rintro k _ rec hk ⟨hsk, rfl⟩ hrec
  have hl := chW_length true b.Words e.Start (k : Int)
  refine ⟨iI (by omega) (by omega), fun hlt => ⟨fun _ => ⟨⟨by omega, iI (by omega) (by omega)⟩, iX (by omega) (by omega), by omega, iI (by omega) (by omega), hrec _ (by omega) ⟨by omega, ?_⟩⟩, fun z => absurd rfl z⟩, fun hge => ?_⟩
  · refine chW_step2 true b.Words e.Start (by omega) (by omega) (by omega) ?_
    rw [opW_true, ofInt_mod, show ((k : Int) % 64).toNat = k % 64 by omega]; rfl
  · rw [show e.Start + e.Count = (k : Int) by omega] at hΦ; exact hΦ
def bitB (b : api_Bitmap) (i : Nat) : Bool := bitN b.Words i
theorem setB_ok {b : api_Bitmap} {e : api_Extent} (h : chkB b = 0) (hf : fitsB e.Start e.Count b.Size = true) : (setB b e).2 = 0 ∧ chkB (setB b e).1 = 0 ∧ (setB b e).1.Size = b.Size ∧ ∀ i : Nat, (i : Int) < b.Size → (bitB (setB b e).1 i = true ↔ bitB b i = true ∨ (e.Start ≤ (i : Int) ∧ (i : Int) < e.Start + e.Count)) := by
  have hw := chkB_len (b := b) (by simpa using h)
  have e1 : setB b e = (⟨b.Size, chW true b.Words e.Start (e.Start + e.Count)⟩, 0) := by
    unfold setB; rw [chR_ok (by simpa [chkB] using h) hf]; rfl
  rw [e1]
  refine ⟨rfl, chk_set1 h hf, rfl, fun i hi => ?_⟩
  unfold bitB
  rw [chW_bit _ _ _ _ _ (by omega)]
  by_cases hc : e.Start ≤ (i : Int) ∧ (i : Int) < e.Start + e.Count
  · rw [if_pos hc]; exact ⟨fun _ => .inr hc, fun _ => rfl⟩
  · rw [if_neg hc]; exact ⟨fun z => .inl z, fun z => z.resolve_right hc⟩
def newB (n : Int) : api_Bitmap := ⟨n, List.replicate ((n + 63) / 64).toNat 0#64⟩
theorem ref02_New_ok {n : Int} {Φ : api_Bitmap × Int → Prop} (h0 : 0 ≤ n) (h1 : n ≤ 4096) (hΦ : Φ (newB n, 0)) : ref02_New_W n Φ :=
  ⟨fun q => absurd q (by omega), fun _ => ⟨iI (by omega) (by omega), ⟨by omega, iI (by omega) (by omega)⟩, by omega, iL (by omega) (by omega), hΦ⟩⟩
theorem newB_ok {n : Int} (h0 : 0 ≤ n) (h1 : n ≤ 4096) : chkB (newB n) = 0 ∧ ∀ i, bitB (newB n) i = false := ⟨chk_new h0 h1, fun _ => bit_new⟩
def mark1 (d : List api_Bitmap) (w : api_Write) : List api_Bitmap := put d w.Volume (setB (ix d w.Volume) ⟨w.Start, (w.Data.length : Int)⟩).1
def markL (d : List api_Bitmap) (l : List api_Write) : List api_Bitmap := l.foldl mark1 d
structure Marked (sizes : List Int) (d : List api_Bitmap) (P : Nat → Nat → Prop) : Prop where
  len : d.length = sizes.length
  chk : ∀ v : Nat, v < sizes.length → chkB (ix d (v : Int)) = 0 ∧ (ix d (v : Int)).Size = ix sizes (v : Int)
  bit : ∀ v i : Nat, v < sizes.length → (i : Int) < ix sizes (v : Int) → (bitB (ix d (v : Int)) i = true ↔ P v i)
theorem marked_clean {sizes : List Int} (hs : ¬ sizesE sizes ≠ 0) : Marked sizes (sizes.map newB) (fun _ _ => False) := by
  have h := sizes_ok hs
  have e : ∀ v : Nat, v < sizes.length → ix (sizes.map newB) (v : Int) = newB (ix sizes (v : Int)) := fun v hv => by
    rw [ix_get (by rw [List.length_map]; exact hv), List.getElem_map, ix_get hv]
  refine ⟨List.length_map _, fun v hv => ?_, fun v i hv _ => ?_⟩
  · have := h.2.2 v hv
    rw [e v hv]; exact ⟨(newB_ok (by omega) (by omega)).1, rfl⟩
  · have := h.2.2 v hv
    rw [e v hv, (newB_ok (by omega) (by omega)).2 i]; simp
theorem marked_step {sizes : List Int} {d : List api_Bitmap} {P : Nat → Nat → Prop} (h : Marked sizes d P) {w : api_Write} {v0 s0 : Nat} (hw : FitW sizes w v0 s0) : Marked sizes (mark1 d w) (fun v i => P v i ∨ covW w v i) := by
  have hv := hw.hv
  have hl := h.len
  obtain ⟨c1, c2⟩ := h.chk v0 hv
  have hle := hw.le
  have hf : fitsB w.Start (w.Data.length : Int) (ix d (v0 : Int)).Size = true := by
    rw [c2, hw.start]; exact fitsB_iff.2 ⟨by omega, by omega, by omega, by omega⟩
  obtain ⟨_, s2, s3, s4⟩ := setB_ok (e := ⟨w.Start, (w.Data.length : Int)⟩) c1 hf
  have e : ∀ v : Nat, ix (mark1 d w) (v : Int) = if v = v0 then (setB (ix d (v0 : Int)) ⟨w.Start, (w.Data.length : Int)⟩).1 else ix d (v : Int) := fun v => by
    unfold mark1; rw [hw.vol, ix_put _ _ (by omega)]
  refine ⟨(put_len _ _ _).trans hl, fun v hv' => ?_, fun v i hv' hi => ?_⟩
  · rw [e v]
    by_cases hc : v = v0
    · subst hc; rw [if_pos rfl]; exact ⟨s2, s3.trans c2⟩
    · rw [if_neg hc]; exact h.chk v hv'
  · rw [e v]
    by_cases hc : v = v0
    · subst hc
      rw [if_pos rfl, s4 i (by rw [c2]; exact hi), h.bit v i hv' hi]
      exact or_congr Iff.rfl ⟨fun q => ⟨hw.vol, q.1, q.2⟩, fun q => ⟨q.2.1, q.2.2⟩⟩
    · rw [if_neg hc, h.bit v i hv' hi]
      exact ⟨fun q => .inl q, fun q => q.resolve_right fun z => hc (by have := z.1; have := hw.vol; omega)⟩
theorem marked_list {sizes : List Int} (hs : ¬ sizesE sizes ≠ 0) : ∀ {l : List api_Write} {d : List api_Bitmap} {P : Nat → Nat → Prop}, Marked sizes d P → (∀ w ∈ l, fitE sizes w = 0) → Marked sizes (markL d l) (fun v i => P v i ∨ ∃ w ∈ l, covW w v i) := by
  intro l
  induction l with
  | nil => intro d P h _; exact ⟨h.len, h.chk, fun v i hv hi => (h.bit v i hv hi).trans ⟨.inl, fun q => q.resolve_right fun ⟨w, hw, _⟩ => absurd hw List.not_mem_nil⟩⟩
  | cons w l ih =>
    intro d P h hf
    obtain ⟨v0, s0, hw⟩ := fitW_of hs (hf w (List.mem_cons_self ..))
    have := ih (marked_step h hw) fun x hx => hf x (List.mem_cons_of_mem _ hx)
    refine ⟨this.len, this.chk, fun v i hv hi => (this.bit v i hv hi).trans ?_⟩
    constructor
    · rintro ((q | q) | ⟨x, hx, q⟩)
      · exact .inl q
      · exact .inr ⟨w, List.mem_cons_self .., q⟩
      · exact .inr ⟨x, List.mem_cons_of_mem _ hx, q⟩
    · rintro (q | ⟨x, hx, q⟩)
      · exact .inl (.inl q)
      · rcases List.mem_cons.1 hx with rfl | hx
        · exact .inl (.inr q)
        · exact .inr ⟨x, hx, q⟩
section
structure Sides (im : List (List Sec)) (A B : List api_Write) (a b : api_Point) : Prop where
  hs : ¬ sizesE (szs im) ≠ 0
  fa : ∀ w ∈ A, fitE (szs im) w = 0
  fb : ∀ w ∈ B, fitE (szs im) w = 0
  ia : a.Image = appL im A
  ib : b.Image = appL im B
  da : a.Dirty = markL ((szs im).map newB) A
  db : b.Dirty = markL ((szs im).map newB) B
  sa : 0 ≤ a.Site ∧ a.Site ≤ 1073741824
  sb : 0 ≤ b.Site ∧ b.Site ≤ 1073741824
  la : linB a.Lineage = true
  lb : linB b.Lineage = true
theorem pt_zero {im : List (List Sec)} {A : List api_Write} {p : api_Point} (hs : ¬ sizesE (szs im) ≠ 0) (fa : ∀ w ∈ A, fitE (szs im) w = 0) (ia : p.Image = appL im A) (da : p.Dirty = markL ((szs im).map newB) A) (sa : 0 ≤ p.Site ∧ p.Site ≤ 1073741824) (la : linB p.Lineage = true) :
    ptE p = 0 ∧ szs p.Image = szs im ∧ Marked (szs im) p.Dirty (fun v i => ∃ w ∈ A, covW w v i) := by
  have hz : szs p.Image = szs im := by rw [ia]; exact szs_appL hs fa
  have hm0 := marked_list hs (marked_clean hs) fa
  rw [← da] at hm0
  have hm : Marked (szs im) p.Dirty (fun v i => ∃ w ∈ A, covW w v i) := ⟨hm0.len, hm0.chk, fun v i hv hi => (hm0.bit v i hv hi).trans ⟨fun q => q.resolve_left fun z => z, .inr⟩⟩
  refine ⟨?_, hz, hm⟩
  have hl : p.Image.length = im.length := by rw [← szs_len, hz, szs_len]
  have hdl := hm.len
  rw [szs_len] at hdl
  unfold ptE
  rw [if_neg (by omega), if_neg (by rw [la]; simp), if_neg (by unfold imgE; rw [hz]; exact hs), if_neg (by omega)]
  refine firstN_zero.2 fun k hk => ?_
  have hc := hm.chk k (by rw [szs_len]; omega)
  unfold dirtyE
  rw [if_neg (by rw [hc.1]; simp), if_neg]
  rw [hc.2, ← hz, ix_szs (by omega)]; simp
section
variable {im : List (List Sec)} {A B : List api_Write} {a b : api_Point}
theorem Sides.pa (h : Sides im A B a b) : ptE a = 0 ∧ szs a.Image = szs im ∧ Marked (szs im) a.Dirty (fun v i => ∃ w ∈ A, covW w v i) := pt_zero h.hs h.fa h.ia h.da h.sa h.la
theorem Sides.pb (h : Sides im A B a b) : ptE b = 0 ∧ szs b.Image = szs im ∧ Marked (szs im) b.Dirty (fun v i => ∃ w ∈ B, covW w v i) := pt_zero h.hs h.fb h.ib h.db h.sb h.lb
theorem Sides.fit (h : Sides im A B a b) : Fit a b := fit_of h.pa.1 h.pb.1 (decide_eq_true (by rw [h.pa.2.1, h.pb.2.1]))
theorem Sides.len (h : Sides im A B a b) : a.Image.length = im.length ∧ b.Image.length = im.length := by
  rw [← szs_len a.Image, ← szs_len b.Image, h.pa.2.1, h.pb.2.1, szs_len]; exact ⟨rfl, rfl⟩
def orW (a b : api_Point) (v : Nat) : List (BitVec 64) := List.zipWith (fun x y => x ||| y) (ix a.Dirty (v : Int)).Words (ix b.Dirty (v : Int)).Words
def esV (a b : api_Point) (v : Nat) : List (Int × Int) := extsK (orW a b v) (ix a.Image (v : Int)).length
theorem Sides.marksV (h : Sides im A B a b) {v : Nat} (hv : v < im.length) : ix (marks a b) (v : Int) = (esV a b v).map toX := by
  have hl := h.len
  have hf := h.fit
  have hda := hf.da
  rw [ix_get (by rw [(marks_len a b).1]; omega)]
  unfold marks
  rw [List.getElem_map, List.getElem_range]
  unfold markK exts
  obtain ⟨h1, h2⟩ := hf.or (show v < a.Image.length by omega)
  rw [h1, extR_ok (k := (ix a.Image (v : Int)).length) (by simpa using h2) (by have := (hf.ca v (by omega)).2; simp only; omega)]; rfl
theorem Sides.bits (h : Sides im A B a b) {v i : Nat} (hv : v < im.length) (hi : i < (ix im (v : Int)).length) : bitN (orW a b v) i = true ↔ (∃ w ∈ A, covW w v i) ∨ ∃ w ∈ B, covW w v i := by
  have ha := h.pa.2.2
  have hb := h.pb.2.2
  have hv' : v < (szs im).length := by rw [szs_len]; exact hv
  have hi' : (i : Int) < ix (szs im) (v : Int) := by rw [ix_szs hv]; omega
  have ca := chkB_len (b := ix a.Dirty (v : Int)) (by rw [(ha.chk v hv').1]; simp)
  have cb := chkB_len (b := ix b.Dirty (v : Int)) (by rw [(hb.chk v hv').1]; simp)
  have za := (ha.chk v hv').2
  have zb := (hb.chk v hv').2
  unfold orW
  rw [bit_or (by omega) (by omega), Bool.or_eq_true]
  exact or_congr (ha.bit v i hv' hi') (hb.bit v i hv' hi')
theorem Sides.size (h : Sides im A B a b) {v : Nat} (hv : v < im.length) : (ix a.Image (v : Int)).length = (ix im (v : Int)).length ∧ (ix b.Image (v : Int)).length = (ix im (v : Int)).length := by
  have hl := h.len
  have e1 := ix_szs (a := a.Image) (k := v) (by omega)
  have e2 := ix_szs (a := b.Image) (k := v) (by omega)
  have e3 := ix_szs (a := im) hv
  rw [h.pa.2.1] at e1
  rw [h.pb.2.1] at e2
  omega
theorem Sides.mem (h : Sides im A B a b) {w : api_Write} : w ∈ cont b.Image (marks a b) b.Image.length ↔ ∃ v, v < im.length ∧ ∃ e ∈ esV a b v, w = ⟨(v : Int), e.1, sub (ix b.Image (v : Int)) e.1 (e.1 + e.2)⟩ := by
  have hl := h.len
  unfold cont contV
  rw [List.mem_flatMap]
  constructor
  · rintro ⟨v, hv, hw⟩
    have hv' : v < im.length := by have := List.mem_range.1 hv; omega
    obtain ⟨i, hi, rfl⟩ := List.mem_map.1 hw
    have hi' := List.mem_range.1 hi
    rw [h.marksV hv', List.length_map] at hi'
    refine ⟨v, hv', (esV a b v)[i], List.getElem_mem hi', ?_⟩
    unfold wrK
    rw [h.marksV hv', ix_toX, List.getD_eq_getElem?_getD, List.getElem?_eq_getElem hi']
    rfl
  · rintro ⟨v, hv, e, he, rfl⟩
    obtain ⟨i, hi, rfl⟩ := List.getElem_of_mem he
    refine ⟨v, List.mem_range.2 (by omega), List.mem_map.2 ⟨i, List.mem_range.2 (by rw [h.marksV hv, List.length_map]; exact hi), ?_⟩⟩
    unfold wrK
    rw [h.marksV hv, ix_toX, List.getD_eq_getElem?_getD, List.getElem?_eq_getElem hi]
    rfl
theorem Sides.ex (h : Sides im A B a b) {v : Nat} (hv : v < im.length) : ExOk (esV a b v) ((ix im (v : Int)).length : Int) ∧ ∀ j : Nat, cov (esV a b v) (j : Int) ↔ j < (ix im (v : Int)).length ∧ bitN (orW a b v) j = true := by
  have := extsK_ok (orW a b v) (ix a.Image (v : Int)).length
  rw [(h.size hv).1] at this
  unfold esV
  rw [(h.size hv).1]
  exact this
theorem Sides.dlen (h : Sides im A B a b) {v : Nat} (hv : v < im.length) {e : Int × Int} (he : e ∈ esV a b v) : ((sub (ix b.Image (v : Int)) e.1 (e.1 + e.2)).length : Int) = e.2 ∧ 0 ≤ e.1 ∧ 1 ≤ e.2 ∧ e.1 + e.2 ≤ ((ix im (v : Int)).length : Int) := by
  have := (h.ex hv).1.each e he
  have hz := (h.size hv).2
  rw [sub_len (iS (by omega) (by omega) (by omega))]
  omega
theorem ix_sub {α : Type} [Dt α] {xs : List α} {lo hi i : Nat} (h1 : lo ≤ i) (h2 : i < hi) : ix (sub xs (lo : Int) (hi : Int)) ((i : Int) - (lo : Int)) = ix xs (i : Int) := by
  show (sub xs (lo : Int) (hi : Int)).getD ((i : Int) - (lo : Int)).toNat default = xs.getD i default
  unfold sub
  rw [List.getD_eq_getElem?_getD, List.getD_eq_getElem?_getD, List.getElem?_take_of_lt (by omega), List.getElem?_drop]
  congr 2
  omega
theorem Sides.agree (h : Sides im A B a b) {v i : Nat} (hv : v < im.length) : ∀ w ∈ cont b.Image (marks a b) b.Image.length, covW w v i → ix w.Data ((i : Int) - w.Start) = sec b.Image v i := by
  intro w hw hc
  obtain ⟨v', hv', e, he, rfl⟩ := h.mem.1 hw
  have e1 : v' = v := by have := hc.1; simp only at this; omega
  subst e1
  obtain ⟨d1, d2, d3, d4⟩ := h.dlen hv he
  have hz := (h.size hv).2
  have c1 := hc.2.1
  have c2 := hc.2.2
  simp only at c1 c2 ⊢
  obtain ⟨s, hs⟩ := Int.eq_ofNat_of_zero_le d2
  obtain ⟨t, ht⟩ := Int.eq_ofNat_of_zero_le (show 0 ≤ e.1 + e.2 by omega)
  rw [ht, hs]
  exact ix_sub (by omega) (by omega)
end
end
section
theorem ref02_FromExtents_ok {n : Int} {ps : List (Int × Int)} {Φ : api_Bitmap × Int → Prop} (h0 : 0 ≤ n) (h1 : n ≤ 4096) (hl : ps.length ≤ 1000000) (hΦ : Φ (bmOf (fromR (newR n) ps))) : ref02_FromExtents_W n (ps.map toX) Φ := by
  have hml : (ps.map toX).length = ps.length := List.length_map _
  rw [newR_ok h0 h1] at hΦ
  refine ref02_New_ok h0 h1 (LoopW.upS ps.length (fun s : Int × List (BitVec 64) × Int × Int => s.2.2.2) (fun k s => Φ (bmOf (fromR ⟨s.1, s.2.1, s.2.2.1⟩ (ps.drop k)))) ?_ 0 rfl (Nat.zero_le _) hΦ)
  rintro k ⟨sz, ws, er, i⟩ rec hk hi hI hrec
  simp only at hi hI
  subst hi
  refine ⟨fun h => ?_, fun h => ?_⟩
  · have hlt : k < ps.length := by omega
    refine ⟨iX (by omega) (by omega), _, ref02_Set_ok rfl, iI (by omega) (by omega), hrec _ hlt rfl ?_⟩
    rw [fromR_drop h.2 hlt] at hI
    rw [ix_toX]
    exact hI
  · by_cases he : er = 0
    · rw [fromR_end (show ps.length ≤ k by omega)] at hI; exact hI
    · rw [fromR_err (r := ⟨sz, ws, er⟩) he] at hI; exact hI
section
variable {im : List (List Sec)} {A B : List api_Write} {a b : api_Point}
def Near (im : List (List Sec)) (A B : List api_Write) (x : List (List Sec)) : Prop :=
  szs x = szs im ∧ ∀ v i : Nat, v < im.length → i < (ix im (v : Int)).length → ¬ ((∃ w ∈ A, covW w v i) ∨ ∃ w ∈ B, covW w v i) → sec x v i = sec im v i
theorem Near.len {x : List (List Sec)} (h : Near im A B x) : x.length = im.length ∧ ∀ v : Nat, v < im.length → (ix x (v : Int)).length = (ix im (v : Int)).length := by
  have hl : x.length = im.length := by rw [← szs_len, h.1, szs_len]
  refine ⟨hl, fun v hv => ?_⟩
  have e1 := ix_szs (a := x) (k := v) (by omega)
  have e2 := ix_szs (a := im) hv
  rw [h.1] at e1
  omega
theorem Near.put {x : List (List Sec)} (h : Near im A B x) {v i : Nat} (hv : v < im.length) (hi : i < (ix im (v : Int)).length) (hm : (∃ w ∈ A, covW w v i) ∨ ∃ w ∈ B, covW w v i) (s : Sec) : Near im A B (put x (v : Int) (put (ix x (v : Int)) (i : Int) s)) := by
  obtain ⟨hl, hr⟩ := h.len
  refine ⟨?_, fun u j hu hj hn => ?_⟩
  · rw [← h.1]
    refine ext_ix (by rw [szs_len, szs_len, put_len]) fun k hk => ?_
    rw [szs_len, put_len] at hk
    rw [ix_szs (by rw [put_len]; exact hk), ix_szs hk, ix_put _ _ (by omega)]
    by_cases hkv : k = v
    · rw [if_pos hkv, put_len, hkv]
    · rw [if_neg hkv]
  · rw [← h.2 u j hu hj hn]
    unfold sec
    rw [ix_put _ _ (by omega)]
    by_cases huv : u = v
    · subst huv
      rw [if_pos rfl, ix_put _ _ (by rw [hr u hu]; exact hi), if_neg]
      rintro rfl; exact hn hm
    · rw [if_neg huv]
end
end
def bmsE (d : List api_Bitmap) (sizes : List Int) (k : Nat) : Int := if chkB (ix d (k : Int)) ≠ 0 then chkB (ix d (k : Int)) else if (ix d (k : Int)).Size ≠ ix sizes (k : Int) then 22 else 0
def bmsC (d : List api_Bitmap) (sizes : List Int) : Int := if (d.length : Int) ≠ (sizes.length : Int) then 6 else firstN (bmsE d sizes) d.length
def peerE (t : api_Tracker) (k : Nat) : Int :=
  if (ix t.Peers (k : Int)).Site < 0 ∨ 4 ≤ (ix t.Peers (k : Int)).Site then 2 else if 0 < (k : Int) ∧ (ix t.Peers (k : Int)).Site ≤ (ix t.Peers ((k : Int) - 1)).Site then 8 else if (ix t.Peers (k : Int)).Common < 0 ∨ 1073741824 < (ix t.Peers (k : Int)).Common then 2 else bmsC (ix t.Peers (k : Int)).Dirty t.Sizes
def trkE (t : api_Tracker) : Int := if sizesE t.Sizes ≠ 0 then sizesE t.Sizes else if 4 < (t.Peers.length : Int) then 6 else firstN (peerE t) t.Peers.length
theorem ref43_CheckBitmaps_ok {d : List api_Bitmap} {sizes : List Int} {Φ : Int → Prop} (hl : d.length ≤ 1000000) (hΦ : Φ (bmsC d sizes)) : ref43_CheckBitmaps_W d sizes Φ := by
  unfold bmsC at hΦ
  refine ⟨fun q => by rw [if_pos q] at hΦ; exact hΦ, fun q => ?_⟩
  rw [if_neg q] at hΦ
  refine LoopW.firstL _ _ hΦ (fun k rec hk _ h1 h2 => ⟨fun _ => ⟨iX (by omega) (by omega), ref02_Check_ok ⟨fun q => ?_, fun q => ⟨iX (by omega) (by omega), fun q2 => ?_, fun q2 => ⟨iI (by omega) (by omega), h2 ?_⟩⟩⟩⟩, fun q => absurd (by omega) q⟩) fun rec h1 _ => ⟨fun q => absurd q (by omega), fun _ => h1⟩
  · have e : bmsE d sizes k = chkB (ix d (k : Int)) := if_pos q
    rw [e] at h1; exact h1 q
  · have e : bmsE d sizes k = 22 := by unfold bmsE; rw [if_neg q, if_pos q2]
    rw [e] at h1; exact h1 (by omega)
  · unfold bmsE; rw [if_neg q, if_neg q2]
theorem tracker_checkBitmaps_ok {d : List api_Bitmap} {sizes : List Int} {Φ : Int → Prop} (hl : d.length ≤ 100000) (hΦ : Φ (bmsC d sizes)) : tracker_checkBitmaps_W d sizes Φ := by
  unfold bmsC at hΦ
  refine ⟨fun q => by rw [if_pos q] at hΦ; exact hΦ, fun q => ?_⟩
  rw [if_neg q] at hΦ
  refine LoopW.up2 d.length (fun k acc => (∀ j, j < k → bmsE d sizes j = 0) ∧ acc.length = k) ?_ rfl (Nat.zero_le _) ⟨fun j hj => absurd hj (Nat.not_lt_zero j), rfl⟩
  rintro k acc rec hk ⟨hz, hal⟩ hrec
  have next : k < d.length → bmsE d sizes k = 0 → ∀ j, j < k + 1 → bmsE d sizes j = 0 := fun _ h0 j hj => by
    rcases Nat.lt_or_ge j k with h | h
    · exact hz j h
    · have : j = k := by omega
      subst this; exact h0
  refine ⟨fun hlt => ⟨iX (by omega) hlt, iX (by omega) (by omega), ?_⟩, fun hge => ?_⟩
  · by_cases h1 : chkB (ix d (k : Int)) ≠ 0
    · refine ⟨(false, chkB (ix d (k : Int))), bitmap_Check_ok ⟨fun _ => rfl, fun q => absurd h1 q⟩, fun _ => ?_, fun q => absurd h1 q⟩
      have e : bmsE d sizes k = chkB (ix d (k : Int)) := if_pos h1
      rw [firstN_hit (show k < d.length by omega) hz (by rw [e]; exact h1), e] at hΦ; exact hΦ
    · by_cases h2 : (ix d (k : Int)).Size ≠ ix sizes (k : Int)
      · refine ⟨(false, 22), bitmap_Check_ok ⟨fun q => absurd q h1, fun _ => ⟨fun _ => rfl, fun q => absurd h2 q⟩⟩, fun _ => ?_, fun q => absurd (by simp) q⟩
        have e : bmsE d sizes k = 22 := by unfold bmsE; rw [if_neg h1, if_pos h2]
        rw [firstN_hit (show k < d.length by omega) hz (by rw [e]; omega), e] at hΦ; exact hΦ
      · refine ⟨(true, 0), bitmap_Check_ok ⟨fun q => absurd q h1, fun _ => ⟨fun q => absurd q h2, fun _ => rfl⟩⟩, fun q => absurd rfl q, fun _ => ⟨iL (by simp only [List.length_append, List.length_cons, List.length_nil]; omega) (by omega), iI (by omega) (by omega), hrec _ (by omega) ⟨next (by omega) (by unfold bmsE; rw [if_neg h1, if_neg h2]), by simp only [List.length_append, List.length_cons, List.length_nil]; omega⟩⟩⟩
  · rw [firstN_zero.2 fun j hj => hz j (by omega)] at hΦ; exact hΦ
theorem ref43_Check_ok {t : api_Tracker} {Φ : Int → Prop} (hd : ∀ p ∈ t.Peers, p.Dirty.length ≤ 100000) (hΦ : Φ (trkE t)) : ref43_Check_W t Φ := by
  unfold trkE at hΦ
  refine ref07_Sizes_ok ⟨fun q => by rw [if_pos q] at hΦ; exact hΦ, fun q => ⟨fun q2 => by rw [if_neg q, if_pos q2] at hΦ; exact hΦ, fun q2 => ?_⟩⟩
  rw [if_neg q, if_neg q2] at hΦ
  refine LoopW.firstL _ _ hΦ (fun k rec hk _ h1 h2 => ⟨fun hlt => ⟨iX (by omega) hlt, fun q => ?_, fun q => ⟨fun _ => ⟨iI (by omega) (by omega), iX (by omega) (by omega)⟩, fun q2 => ?_, fun q2 => ⟨fun q3 => ?_, fun q3 => ?_⟩⟩⟩, fun q => absurd (by omega) q⟩) fun rec h1 _ => ⟨fun q => absurd q (by omega), fun _ => h1⟩
  · have e : peerE t k = 2 := if_pos q
    rw [e] at h1; exact h1 (by omega)
  · have e : peerE t k = 8 := by unfold peerE; rw [if_neg q, if_pos q2]
    rw [e] at h1; exact h1 (by omega)
  · have e : peerE t k = 2 := by unfold peerE; rw [if_neg q, if_neg q2, if_pos q3]
    rw [e] at h1; exact h1 (by omega)
  · have e : peerE t k = bmsC (ix t.Peers (k : Int)).Dirty t.Sizes := by unfold peerE; rw [if_neg q, if_neg q2, if_neg q3]
    rw [e] at h1 h2
    have := hd _ (ix_mem (iX (show (0 : Int) ≤ (k : Int) by omega) hlt))
    exact ref43_CheckBitmaps_ok (by omega) ⟨fun q4 => h1 q4, fun q4 => ⟨iI (by omega) (by omega), h2 (Classical.not_not.1 q4)⟩⟩
theorem tracker_Check_ok {t : api_Tracker} {Φ : Int → Prop} (hd : ∀ p ∈ t.Peers, p.Dirty.length ≤ 100000) (hΦ : Φ (trkE t)) : tracker_Check_W t Φ := by
  unfold trkE at hΦ
  refine image_New_ok (fun q => ⟨fun _ => by rw [if_pos q] at hΦ; exact hΦ, fun q2 => absurd q q2⟩) fun q => ⟨fun q2 => absurd rfl q2, fun _ => ⟨fun q2 => by rw [if_neg q, if_pos q2] at hΦ; exact hΦ, fun q2 => ?_⟩⟩
  rw [if_neg q, if_neg q2] at hΦ
  refine LoopW.up2 t.Peers.length (fun k last => (∀ j, j < k → peerE t j = 0) ∧ last = (if k = 0 then -1 else (ix t.Peers ((k : Int) - 1)).Site)) ?_ rfl (Nat.zero_le _) ⟨fun j hj => absurd hj (Nat.not_lt_zero j), rfl⟩
  rintro k last rec hk ⟨hz, hlast⟩ hrec
  have stop : ∀ e : Int, k < t.Peers.length → peerE t k = e → e ≠ 0 → Φ e := fun e hlt h1 h2 => by
    rw [firstN_hit hlt hz (by rw [h1]; exact h2), h1] at hΦ; exact hΦ
  refine ⟨fun hlt => ⟨iX (by omega) hlt, fun q3 => ?_, fun q3 => ⟨fun q4 => ?_, fun q4 => ⟨fun q5 => ?_, fun q5 => ?_⟩⟩⟩, fun hge => by rw [firstN_zero.2 fun j hj => hz j (by omega)] at hΦ; exact hΦ⟩
  · rw [decide_eq_true_iff] at q3
    exact stop 2 (by omega) (by unfold peerE; rw [if_pos (by omega)]) (by omega)
  all_goals rw [decide_eq_true_iff] at q3
  · refine stop 8 (by omega) ?_ (by omega)
    unfold peerE
    by_cases h0 : k = 0
    · rw [if_pos h0] at hlast; omega
    · rw [if_neg h0] at hlast
      rw [if_neg (by omega), if_pos ⟨by omega, by rw [← hlast]; exact q4⟩]
  all_goals
    have n2 : ¬ (0 < (k : Int) ∧ (ix t.Peers (k : Int)).Site ≤ (ix t.Peers ((k : Int) - 1)).Site) := by
      intro h
      rw [if_neg (by omega)] at hlast
      rw [hlast] at q4; exact q4 h.2
    rw [decide_eq_true_iff] at q5
  · exact stop 2 (by omega) (by unfold peerE; rw [if_neg (by omega), if_neg n2, if_pos (by omega)]) (by omega)
  · have e : peerE t k = bmsC (ix t.Peers (k : Int)).Dirty t.Sizes := by unfold peerE; rw [if_neg (by omega), if_neg n2, if_neg (by omega)]
    refine tracker_checkBitmaps_ok (hd _ (ix_mem (iX (by omega) hlt))) ⟨fun q6 => stop _ (by omega) e q6, fun q6 => ⟨iI (by omega) (by omega), hrec _ (by omega) ⟨fun j hj => ?_, ?_⟩⟩⟩
    · rcases Nat.lt_or_ge j k with h | h
      · exact hz j h
      · have : j = k := by omega
        subst this; rw [e]; exact Classical.not_not.1 q6
    · rw [if_neg (Nat.succ_ne_zero k), show ((k + 1 : Nat) : Int) - 1 = (k : Int) by omega]
structure TrkOk (t : api_Tracker) : Prop where
  hs : ¬ sizesE t.Sizes ≠ 0
  n4 : t.Peers.length ≤ 4
  len : ∀ k : Nat, k < t.Peers.length → (ix t.Peers (k : Int)).Dirty.length = t.Sizes.length
  bms : ∀ k : Nat, k < t.Peers.length → ∀ v : Nat, v < t.Sizes.length → chkB (ix (ix t.Peers (k : Int)).Dirty (v : Int)) = 0 ∧ (ix (ix t.Peers (k : Int)).Dirty (v : Int)).Size = ix t.Sizes (v : Int)
  asc : ∀ i j : Nat, i < j → j < t.Peers.length → (ix t.Peers (i : Int)).Site < (ix t.Peers (j : Int)).Site
theorem bmsC_zero {d : List api_Bitmap} {sizes : List Int} (h : bmsC d sizes = 0) : d.length = sizes.length ∧ ∀ v : Nat, v < sizes.length → chkB (ix d (v : Int)) = 0 ∧ (ix d (v : Int)).Size = ix sizes (v : Int) := by
  unfold bmsC at h
  split at h
  · omega
  · rename_i hl
    refine ⟨by omega, fun v hv => ?_⟩
    have := firstN_zero.1 h v (by omega)
    unfold bmsE at this
    split at this
    · rename_i q; exact absurd this q
    · rename_i q
      split at this
      · omega
      · rename_i q2; exact ⟨Classical.not_not.1 q, Classical.not_not.1 q2⟩
theorem trk_ok {t : api_Tracker} (h : trkE t = 0) : TrkOk t := by
  unfold trkE at h
  split at h
  · rename_i q; exact absurd h q
  rename_i q
  split at h
  · omega
  have hz := firstN_zero.1 h
  have pk : ∀ k : Nat, k < t.Peers.length → ¬ (0 < (k : Int) ∧ (ix t.Peers (k : Int)).Site ≤ (ix t.Peers ((k : Int) - 1)).Site) ∧ bmsC (ix t.Peers (k : Int)).Dirty t.Sizes = 0 := fun k hk => by
    have := hz k hk
    unfold peerE at this
    split at this
    · omega
    split at this
    · omega
    rename_i n2
    split at this
    · omega
    · exact ⟨n2, this⟩
  refine ⟨q, by omega, fun k hk => (bmsC_zero (pk k hk).2).1, fun k hk => (bmsC_zero (pk k hk).2).2, fun i j hij hj => ?_⟩
  induction j with
  | zero => omega
  | succ j ih =>
    have h1 := (pk (j + 1) hj).1
    rw [show ((j + 1 : Nat) : Int) - 1 = (j : Int) by omega] at h1
    rcases Nat.lt_or_ge i j with h2 | h2
    · have := ih h2 (by omega); omega
    · have : i = j := by omega
      subst this; omega
def toP (e : api_Extent) : Int × Int := (e.Start, e.Count)
theorem toX_toP (es : List api_Extent) : (es.map toP).map toX = es := by
  rw [List.map_map]
  exact (List.map_congr_left fun e _ => rfl).trans (List.map_id es)
def fromE (n : Int) (es : List api_Extent) : api_Bitmap × Int := bmOf (fromR (newR n) (es.map toP))
theorem ref02_FromExtents_ok' {n : Int} {es : List api_Extent} {Φ : api_Bitmap × Int → Prop} (h0 : 0 ≤ n) (h1 : n ≤ 4096) (hl : es.length ≤ 1000000) (hΦ : Φ (fromE n es)) : ref02_FromExtents_W n es Φ := by
  have := ref02_FromExtents_ok (ps := es.map toP) (Φ := Φ) h0 h1 (by rw [List.length_map]; exact hl) hΦ
  rwa [toX_toP] at this
theorem bitmap_FromExtents_ok {n : Int} {es : List api_Extent} {Φ : api_Bitmap × Int → Prop} (hΦ : Φ (fromE n es)) : bitmap_FromExtents_W n es Φ := hΦ
theorem fromE_ok {n : Int} {es : List api_Extent} (h0 : 0 ≤ n) (h1 : n ≤ 4096) (he : (fromE n es).2 = 0) : (fromE n es).1.Size = n ∧ chkB (fromE n es).1 = 0 := by
  unfold fromE bmOf at he ⊢
  rw [fromR_new h0 h1] at he ⊢
  split at he
  · rename_i hall
    rw [if_pos hall]
    exact ⟨rfl, chk_setAll _ _ (chk_new h0 h1) hall⟩
  · exact absurd he (by simp)
theorem orB_ok {a b : api_Bitmap} (ha : chkB a = 0) (hb : chkB b = 0) (hs : a.Size = b.Size) : (orB a b).2 = 0 ∧ chkB (orB a b).1 = 0 ∧ (orB a b).1.Size = a.Size := by
  unfold chkB at ha hb
  unfold orB
  rw [bothR_ok (bothE_4 (by simpa using ha) (by simpa using hb) (by omega))]
  rw [← hs] at hb
  exact ⟨rfl, chk_zip (· || ·) rfl (fun _ _ _ _ => BitVec.getLsbD_or) ha hb, rfl⟩
theorem chkB_small {b : api_Bitmap} (h : chkB b = 0) : b.Words.length ≤ 1000 := by
  have := chkB_len (b := b) (by rw [h]; simp)
  omega
theorem ref02_Or_ok {a b : api_Bitmap} {Φ : api_Bitmap × Int → Prop} (ha : chkB a = 0) (hb : chkB b = 0) (hs : a.Size = b.Size) (hΦ : Φ (orB a b)) : ref02_Or_W a b Φ := by
  have hwa := chkB_len (b := a) (by rw [ha]; simp)
  have hwb := chkB_len (b := b) (by rw [hb]; simp)
  have hl : a.Words.length = b.Words.length := by omega
  unfold orB at hΦ
  rw [bothR_ok (bothE_4 (by simpa [chkB] using ha) (by simpa [chkB] using hb) (by omega))] at hΦ
  show ref02_both_W a b _
  refine ref02_Check_ok ⟨fun q => absurd ha q, fun _ => ref02_Check_ok ⟨fun q => absurd hb q, fun _ => ⟨fun q => absurd hs q, fun _ => ⟨fun q => absurd rfl q, fun _ => ref02_Copy_ok (by omega) ?_⟩⟩⟩⟩
  refine LoopW.up2 a.Words.length (fun k acc => acc = mixK (List.zipWith (fun x y => x ||| y) a.Words b.Words) a.Words k) ?_ rfl (Nat.zero_le _) (mixK_zero _ _).symm
  rintro k _ rec hk rfl hrec
  have hz : (List.zipWith (fun x y => x ||| y) a.Words b.Words).length = a.Words.length := by rw [List.length_zipWith]; omega
  have hml := mixK_length hz k
  refine ⟨fun hlt => ⟨iX (by omega) (by omega), iX (by omega) (by omega), iX (by omega) (by omega), iI (by omega) (by omega), hrec _ (by omega) (mixK_step hz (zip_get (by omega) (by omega)))⟩, fun hge => ?_⟩
  rw [mixK_full hz (by omega)]; exact hΦ
def atP (t : api_Tracker) (site : Int) : Int := idxN (fun k => decide ((ix t.Peers (k : Int)).Site = site)) t.Peers.length
theorem reverse_Turn_idx_ok {t : api_Tracker} {site : Int} {Φ : Int → Prop} (hl : t.Peers.length ≤ 1000000) (hΦ : Φ (atP t site)) : slices_IndexFunc_api_Peer_api_Peer__reverse_Turn_1_W t.Peers site Φ :=
  LoopW.idxL _ _ hΦ (fun k rec hk h1 h2 => ⟨fun _ => ⟨iX (by omega) (by omega), h1, fun q => ⟨iI (by omega) (by omega), h2 (by simpa using q)⟩⟩, fun q => absurd (by omega) q⟩) fun rec h1 => ⟨fun q => absurd q (by omega), fun _ => h1⟩
def markE (t : api_Tracker) (extra : List (List api_Extent)) (v : Nat) : Int := (fromE (ix t.Sizes (v : Int)) (ix extra (v : Int))).2
def markB (t : api_Tracker) (extra : List (List api_Extent)) (at_ : Nat) (v : Nat) : api_Bitmap := (orB (fromE (ix t.Sizes (v : Int)) (ix extra (v : Int))).1 (ix (ix t.Peers (at_ : Int)).Dirty (v : Int))).1
def noTrk : api_Tracker := ⟨[], []⟩
def turnR (t : api_Tracker) (site common : Int) (extra : List (List api_Extent)) : api_Tracker × Int :=
  if trkE t ≠ 0 then (noTrk, trkE t) else if atP t site < 0 then (noTrk, 7) else if common < 0 ∨ 1073741824 < common then (noTrk, 2) else if (extra.length : Int) ≠ (t.Sizes.length : Int) then (noTrk, 6)
  else if firstN (markE t extra) t.Sizes.length ≠ 0 then (noTrk, firstN (markE t extra) t.Sizes.length)
  else (⟨t.Sizes, put t.Peers (atP t site) ⟨site, common, (List.range t.Sizes.length).map (markB t extra (atP t site).toNat)⟩⟩, 0)
theorem atP_lt {t : api_Tracker} {site : Int} (h : ¬ atP t site < 0) : ∃ k : Nat, atP t site = (k : Int) ∧ k < t.Peers.length ∧ (ix t.Peers (k : Int)).Site = site := by
  unfold atP idxN at h ⊢
  cases hf : (List.range t.Peers.length).find? (fun k : Nat => decide ((ix t.Peers (k : Int)).Site = site)) with
  | none => rw [hf] at h; exact absurd (by decide) h
  | some k => exact ⟨k, rfl, List.mem_range.1 (List.mem_of_find?_eq_some hf), of_decide_eq_true (List.find?_some (p := fun k : Nat => decide ((ix t.Peers (k : Int)).Site = site)) hf)⟩
theorem atP_neg {t : api_Tracker} {site : Int} (h : atP t site < 0) : atP t site = -1 := by
  unfold atP idxN at h ⊢
  cases hf : (List.range t.Peers.length).find? (fun k : Nat => decide ((ix t.Peers (k : Int)).Site = site)) with
  | none => rfl
  | some k => rw [hf] at h; simp only at h; omega
theorem mark_round {t : api_Tracker} {extra : List (List api_Extent)} {a v : Nat} (h : TrkOk t) (ha : a < t.Peers.length) (hv : v < t.Sizes.length) (he : markE t extra v = 0) :
    chkB (fromE (ix t.Sizes (v : Int)) (ix extra (v : Int))).1 = 0 ∧ (fromE (ix t.Sizes (v : Int)) (ix extra (v : Int))).1.Size = (ix (ix t.Peers (a : Int)).Dirty (v : Int)).Size ∧ chkB (ix (ix t.Peers (a : Int)).Dirty (v : Int)) = 0 ∧ (orB (fromE (ix t.Sizes (v : Int)) (ix extra (v : Int))).1 (ix (ix t.Peers (a : Int)).Dirty (v : Int))).2 = 0 ∧ chkB (markB t extra a v) = 0 := by
  have hz := (sizes_ok h.hs).2.2 v hv
  obtain ⟨f1, f2⟩ := fromE_ok (by omega) (by omega) he
  obtain ⟨b1, b2⟩ := h.bms a ha v hv
  obtain ⟨o1, o2, _⟩ := orB_ok f2 b1 (f1.trans b2.symm)
  exact ⟨f2, f1.trans b2.symm, b1, o1, o2⟩
theorem ref47_Turn_ok {t : api_Tracker} {site common : Int} {extra : List (List api_Extent)} {Φ : api_Tracker × Int → Prop} (hd : ∀ p ∈ t.Peers, p.Dirty.length ≤ 100000) (hx2 : ∀ es ∈ extra, es.length ≤ 1000000) (hΦ : Φ (turnR t site common extra)) : ref47_Turn_W t site common extra Φ := by
  unfold turnR at hΦ
  refine ref43_Check_ok hd ⟨fun q => by rw [if_pos q] at hΦ; exact hΦ, fun q => ?_⟩
  rw [if_neg q] at hΦ
  have h := trk_ok (Classical.not_not.1 q)
  have hn4 := h.n4
  have hs8 := (sizes_ok h.hs).1
  refine LoopW.up2 t.Peers.length (fun k a => a = if atP t site < (k : Int) then atP t site else -1) ?_ rfl (Nat.zero_le _) ?_
  · rintro k _ rec hk rfl hrec
    refine ⟨fun hlt => ⟨iX (by omega) hlt, iI (by omega) (by omega), hrec _ (by omega) ?_⟩, fun hge => ?_⟩
    · by_cases hp : (ix t.Peers (k : Int)).Site = site
      · rw [if_pos hp]
        have hat : atP t site = (k : Int) := by
          refine idxN_hit (by omega) (fun j hj => decide_eq_false fun e => ?_) (decide_eq_true hp)
          have := h.asc j k hj (by omega)
          omega
        rw [if_pos (by omega)]; exact hat.symm
      · rw [if_neg hp]
        by_cases hb : atP t site < (k : Int)
        · rw [if_pos hb, if_pos (by omega)]
        · rw [if_neg hb, if_neg]
          intro hc
          obtain ⟨j, h1, _, h3⟩ := atP_lt (t := t) (site := site) (by omega)
          have : j = k := by omega
          subst this; exact hp h3
    · have hka : (if atP t site < (k : Int) then atP t site else -1) = atP t site := by
        by_cases hb : atP t site < 0
        · rw [atP_neg hb]; split <;> rfl
        · obtain ⟨j, h1, h2, _⟩ := atP_lt hb
          rw [if_pos (by omega)]
      rw [hka]
      refine ⟨fun q2 => by rw [if_pos q2] at hΦ; exact hΦ, fun q2 => ⟨fun q3 => by rw [if_neg q2, if_pos q3] at hΦ; exact hΦ, fun q3 => ⟨fun q4 => by rw [if_neg q2, if_neg q3, if_pos q4] at hΦ; exact hΦ, fun q4 => ?_⟩⟩⟩
      rw [if_neg q2, if_neg q3, if_neg q4] at hΦ
      obtain ⟨a, ha, hal, _⟩ := atP_lt q2
      rw [ha] at hΦ ⊢
      rw [Int.toNat_natCast] at hΦ
      refine LoopW.up2 t.Sizes.length (fun v acc => (∀ j, j < v → markE t extra j = 0) ∧ acc = (List.range v).map (markB t extra a)) ?_ rfl (Nat.zero_le _) ⟨fun j hj => absurd hj (Nat.not_lt_zero j), rfl⟩
      rintro v _ rec2 hv ⟨hz, rfl⟩ hrec2
      have hll : ((List.range v).map (markB t extra a)).length = v := by simp
      refine ⟨fun hvlt => ?_, fun hvge => ?_⟩
      · have hvs : v < t.Sizes.length := by omega
        have hzs := (sizes_ok h.hs).2.2 v hvs
        refine ⟨iX (by omega) (by omega), iX (by omega) hvlt, fromE (ix t.Sizes (v : Int)) (ix extra (v : Int)), ref02_FromExtents_ok' (by omega) (by omega) (hx2 _ (ix_mem (iX (by omega) hvlt))) rfl, fun q5 => ?_, fun q5 => ?_⟩
        · have e1 : firstN (markE t extra) t.Sizes.length = markE t extra v := firstN_hit hvs hz q5
          have q7 : markE t extra v ≠ 0 := q5
          rw [e1, if_pos q7] at hΦ; exact hΦ
        · have q6 : markE t extra v = 0 := Classical.not_not.1 q5
          obtain ⟨m1, m2, m3, m4, m5⟩ := mark_round h hal hvs q6
          refine ⟨iX (by omega) (by omega), iX (by omega) (by rw [h.len a hal]; omega), _, ref02_Or_ok m1 m3 m2 rfl, iL (by simp only [List.length_append, List.length_cons, List.length_nil]; omega) (by omega), iI (by omega) (by omega), hrec2 _ hvs ⟨fun j hj => ?_, ?_⟩⟩
          · rcases Nat.lt_or_ge j v with h1 | h1
            · exact hz j h1
            · have : j = v := by omega
              subst this; exact q6
          · rw [List.range_succ, List.map_append]; rfl
      · have hve : v = t.Sizes.length := by omega
        subst hve
        rw [if_neg (by rw [firstN_zero.2 hz]; simp)] at hΦ
        exact ⟨iL (by rw [List.nil_append]; omega) (by omega), iL (by rw [List.nil_append]; omega) (by omega), iX (by omega) (by rw [List.nil_append]; omega), hΦ⟩
  · by_cases hb : atP t site < ((0 : Nat) : Int)
    · rw [if_pos hb]; exact (atP_neg (by omega)).symm
    · rw [if_neg hb]
theorem cloneU_ok {l : List (BitVec 64)} {Φ : List (BitVec 64) → Prop} (hl : l.length ≤ 1000000) (hΦ : Φ l) : slices_Clone_uint64_uint64_W l Φ :=
  ⟨fun h => by rw [h] at hΦ; exact hΦ, iL (by rw [List.nil_append]; exact hl) (by omega), hΦ⟩
theorem reverse_volumes_ok {d : List api_Bitmap} {Φ : List api_Bitmap → Prop} (hl : d.length ≤ 100000) (hw : ∀ b ∈ d, b.Words.length ≤ 1000000) (hΦ : Φ d) : reverse_volumes_api_Bitmap__reverse_Turn_2_W d Φ :=
  LoopW.mapL d (fun b => b) (fun k acc rec hk hal _ hrec => ⟨fun hlt => ⟨iX (by omega) hlt, _, cloneU_ok (hw _ (ix_mem (iX (by omega) hlt))) rfl, iL (by simp only [List.length_append, List.length_cons, List.length_nil]; omega) (by omega), iI (by omega) (by omega), hrec⟩, fun q => absurd (by omega) q⟩) fun rec => ⟨fun q => absurd q (by omega), fun _ => by rw [List.map_id']; exact hΦ⟩
theorem trk_words {t : api_Tracker} (h : TrkOk t) {k : Nat} (hk : k < t.Peers.length) : ∀ b ∈ (ix t.Peers (k : Int)).Dirty, b.Words.length ≤ 1000000 := by
  intro b hb
  obtain ⟨v, hv, rfl⟩ := List.getElem_of_mem hb
  have := (h.bms k hk v (by rw [← h.len k hk]; exact hv)).1
  rw [ix_get hv] at this
  have := chkB_small this
  omega
theorem reverse_Turn_ok {t : api_Tracker} {site common : Int} {extra : List (List api_Extent)} {Φ : api_Tracker × Int → Prop} (hd : ∀ p ∈ t.Peers, p.Dirty.length ≤ 100000) (hp : t.Peers.length ≤ 1000000) (hsz : t.Sizes.length ≤ 1000000) (hΦ : Φ (turnR t site common extra)) : reverse_Turn_W t site common extra Φ := by
  unfold turnR at hΦ
  refine tracker_Check_ok hd (reverse_Turn_idx_ok hp (cloneI_ok hsz ⟨fun q => by rw [if_pos q] at hΦ; exact hΦ, fun q => ⟨fun q2 => by rw [if_neg q, if_pos q2] at hΦ; exact hΦ, fun q2 => ⟨fun q3 => by rw [if_neg q, if_neg q2, if_pos q3] at hΦ; exact hΦ, fun q3 => ⟨fun q4 => by rw [if_neg q, if_neg q2, if_neg q3, if_pos q4] at hΦ; exact hΦ, fun q4 => ?_⟩⟩⟩⟩))
  rw [if_neg q, if_neg q2, if_neg q3, if_neg q4] at hΦ
  have h := trk_ok (Classical.not_not.1 q)
  have hn4 := h.n4
  have hs8 := (sizes_ok h.hs).1
  obtain ⟨a, ha, hal, _⟩ := atP_lt q2
  rw [ha] at hΦ ⊢
  rw [Int.toNat_natCast] at hΦ
  refine LoopW.up2 t.Sizes.length (fun v acc => (∀ j, j < v → markE t extra j = 0) ∧ acc = (List.range v).map (markB t extra a)) ?_ rfl (Nat.zero_le _) ⟨fun j hj => absurd hj (Nat.not_lt_zero j), rfl⟩
  rintro v _ rec2 hv ⟨hz, rfl⟩ hrec2
  have hll : ((List.range v).map (markB t extra a)).length = v := by simp
  refine ⟨fun hvlt => ⟨iX (by omega) hvlt, iX (by omega) (by omega), bitmap_FromExtents_ok ⟨fun q5 => ?_, fun q5 => ⟨fun _ => ?_, fun q6 => absurd q5 (fun z => q6 z)⟩⟩⟩, fun hvge => ?_⟩
  · have hvs : v < t.Sizes.length := by omega
    obtain ⟨m1, m2, m3, m4, m5⟩ := mark_round h hal hvs q5
    refine ⟨iX (by omega) (by omega), iX (by omega) (by rw [h.len a hal]; omega), _, bitmap_Or_ok rfl, fun q7 => absurd m4 q7, fun _ => ⟨iL (by simp only [List.length_append, List.length_cons, List.length_nil]; omega) (by omega), iI (by omega) (by omega), hrec2 _ hvs ⟨fun j hj => ?_, ?_⟩⟩⟩
    · rcases Nat.lt_or_ge j v with h1 | h1
      · exact hz j h1
      · have : j = v := by omega
        subst this; exact q5
    · rw [List.range_succ, List.map_append]; rfl
  · have e1 : firstN (markE t extra) t.Sizes.length = markE t extra v := firstN_hit (by omega) hz q5
    have q5' : markE t extra v ≠ 0 := q5
    rw [e1, if_pos q5'] at hΦ; exact hΦ
  · have hve : v = t.Sizes.length := by omega
    subst hve
    rw [if_neg (by rw [firstN_zero.2 hz]; simp)] at hΦ
    refine LoopW.upS t.Peers.length (fun s : List api_Bitmap × List api_Peer × Int => s.2.2) (fun k s => s.1 = (List.range t.Sizes.length).map (markB t extra a) ∧ s.2.1 = (put t.Peers (a : Int) ⟨site, common, (List.range t.Sizes.length).map (markB t extra a)⟩).take k) ?_ 0 rfl (Nat.zero_le _) ⟨rfl, rfl⟩
    rintro k ⟨dd, ps, i⟩ rec hk hi ⟨hdd, hps⟩ hrec
    simp only at hi hdd hps
    subst hi
    subst hdd
    have hpl := put_len t.Peers (a : Int) (⟨site, common, (List.range t.Sizes.length).map (markB t extra a)⟩ : api_Peer)
    have hal' : ps.length = k := by rw [hps, List.length_take]; omega
    refine ⟨fun hlt => ⟨iX (by omega) hlt, fun e => ⟨iL (by simp only [List.length_append, List.length_cons, List.length_nil]; omega) (by omega), iI (by omega) (by omega), hrec _ (by omega) rfl ⟨rfl, ?_⟩⟩, fun e => reverse_volumes_ok (by rw [h.len k (by omega)]; omega) (trk_words h (by omega)) ⟨iL (by simp only [List.length_append, List.length_cons, List.length_nil]; omega) (by omega), iI (by omega) (by omega), hrec _ (by omega) rfl ⟨rfl, ?_⟩⟩⟩, fun hge => ?_⟩
    · have hka : k = a := by omega
      simp only
      rw [hps, take_ix (show k < _ by omega), ix_put _ _ hal, if_pos hka]
    · have hka : ¬ k = a := by omega
      simp only
      rw [hps, take_ix (show k < _ by omega), ix_put _ _ hal, if_neg hka]
    · rw [hps, List.take_of_length_le (by omega)]; exact hΦ
theorem ref02_SameAll_refl {d : List api_Bitmap} {Φ : Bool → Prop} (hl : d.length ≤ 1000000) (hw : ∀ b ∈ d, b.Words.length ≤ 1000000) (hΦ : Φ true) : ref02_SameAll_W d d Φ := by
  refine ⟨fun q => absurd rfl q, fun _ => LoopW.up d.length (fun _ => True) ?_ (k0 := 0) rfl (Nat.zero_le _) trivial⟩
  intro k rec hk _ hrec
  refine ⟨fun hlt => ⟨iX (by omega) hlt, iX (by omega) hlt, true, ⟨fun q => (q.elim (fun z => absurd rfl z) fun z => absurd rfl z), fun _ => LoopW.up (ix d (k : Int)).Words.length (fun _ => True) ?_ (k0 := 0) rfl (Nat.zero_le _) trivial⟩, fun q => absurd rfl q, fun _ => ⟨iI (by omega) (by omega), hrec (by omega) trivial⟩⟩, fun _ => hΦ⟩
  have hb := hw _ (ix_mem (iX (show (0 : Int) ≤ (k : Int) by omega) hlt))
  intro m rec2 hm _ hrec2
  exact ⟨fun hmlt => ⟨iX (by omega) hmlt, iX (by omega) hmlt, fun q => absurd rfl q, fun _ => ⟨iI (by omega) (by omega), hrec2 (by omega) trivial⟩⟩, fun _ => rfl⟩
theorem ref43_Same_refl {t : api_Tracker} {Φ : Bool → Prop} (hs : t.Sizes.length ≤ 1000000) (hp : t.Peers.length ≤ 1000000) (hd : ∀ p ∈ t.Peers, p.Dirty.length ≤ 1000000 ∧ ∀ b ∈ p.Dirty, b.Words.length ≤ 1000000) (hΦ : Φ true) : ref43_Same_W t t Φ := by
  refine ref23_SameInts_refl hs ⟨fun q => absurd rfl q, fun _ => ⟨fun q => absurd rfl q, fun _ => LoopW.up t.Peers.length (fun _ => True) ?_ (k0 := 0) rfl (Nat.zero_le _) trivial⟩⟩
  intro k rec hk _ hrec
  refine ⟨fun hlt => ⟨iX (by omega) hlt, iX (by omega) hlt, fun q => absurd rfl q, fun _ => ⟨fun q => absurd rfl q, fun _ => ?_⟩⟩, fun _ => hΦ⟩
  have hb := hd _ (ix_mem (iX (show (0 : Int) ≤ (k : Int) by omega) hlt))
  exact ref02_SameAll_refl hb.1 hb.2 ⟨fun q => absurd rfl q, fun _ => ⟨iI (by omega) (by omega), hrec (by omega) trivial⟩⟩
theorem turnR_small {t : api_Tracker} {site common : Int} {extra : List (List api_Extent)} : (turnR t site common extra).1.Sizes.length ≤ 1000000 ∧ (turnR t site common extra).1.Peers.length ≤ 1000000 ∧ ∀ p ∈ (turnR t site common extra).1.Peers, p.Dirty.length ≤ 1000000 ∧ ∀ b ∈ p.Dirty, b.Words.length ≤ 1000000 := by
  have z : noTrk.Sizes.length ≤ 1000000 ∧ noTrk.Peers.length ≤ 1000000 ∧ ∀ p ∈ noTrk.Peers, p.Dirty.length ≤ 1000000 ∧ ∀ b ∈ p.Dirty, b.Words.length ≤ 1000000 := ⟨by decide, by decide, fun p hp => absurd hp List.not_mem_nil⟩
  unfold turnR
  split
  · exact z
  rename_i q
  split
  · exact z
  rename_i q2
  split
  · exact z
  split
  · exact z
  split
  · exact z
  rename_i q5
  have h := trk_ok (Classical.not_not.1 q)
  have hn4 := h.n4
  have hs8 := (sizes_ok h.hs).1
  have hz := firstN_zero.1 (Classical.not_not.1 q5)
  obtain ⟨a, ha, hal, _⟩ := atP_lt q2
  refine ⟨by show t.Sizes.length ≤ _; omega, by show (put t.Peers _ _).length ≤ _; rw [put_len]; omega, fun p hp => ?_⟩
  rw [ha, Int.toNat_natCast] at hp
  rcases List.mem_or_eq_of_mem_set hp with hp | rfl
  · obtain ⟨k, hk, rfl⟩ := List.getElem_of_mem hp
    have h1 := h.len k hk
    have h2 := trk_words h hk
    rw [ix_get hk] at h1 h2
    exact ⟨by omega, h2⟩
  · refine ⟨by simp only [List.length_map, List.length_range]; omega, fun b hb => ?_⟩
    obtain ⟨v, hv, rfl⟩ := List.mem_map.1 hb
    have hv' := List.mem_range.1 hv
    have := chkB_small (mark_round h hal hv' (hz v hv')).2.2.2.2
    omega
theorem ref43_FewBitmaps_ok {d : List api_Bitmap} {Φ : Bool → Prop} (hF : Φ false) (hT : d.length ≤ 20 → Φ true) : ref43_FewBitmaps_W d Φ := by
  refine LoopW.up (min d.length 20) (fun _ => True) ?_ (k0 := 0) rfl (Nat.zero_le _) trivial
  intro k rec hk _ hrec
  refine ⟨fun hlt => ⟨iX (by omega) hlt.1, fun _ => hF, fun _ => ⟨iI (by omega) (by omega), hrec (by omega) trivial⟩⟩, fun hge => ?_⟩
  by_cases h : (d.length : Int) ≤ 20
  · rw [decide_eq_true h]; exact hT (by omega)
  · rw [decide_eq_false h]; exact hF
theorem ref43_Few_ok {t : api_Tracker} {Φ : Bool → Prop} (hF : Φ false) (hT : t.Peers.length ≤ 20 → t.Sizes.length ≤ 20 → (∀ p ∈ t.Peers, p.Dirty.length ≤ 20) → Φ true) : ref43_Few_W t Φ := by
  refine LoopW.up (min t.Peers.length 20) (fun k => ∀ j : Nat, j < k → (ix t.Peers (j : Int)).Dirty.length ≤ 20) ?_ (k0 := 0) rfl (Nat.zero_le _) (fun j hj => absurd hj (Nat.not_lt_zero j))
  intro k rec hk hI hrec
  refine ⟨fun hlt => ⟨iX (by omega) hlt.1, ref43_FewBitmaps_ok ⟨fun _ => hF, fun q => absurd (by simp) q⟩ fun h20 => ⟨fun q => absurd rfl q, fun _ => ⟨iI (by omega) (by omega), hrec (by omega) fun j hj => ?_⟩⟩⟩, fun hge => ?_⟩
  · rcases Nat.lt_or_ge j k with h | h
    · exact hI j h
    · have : j = k := by omega
      subst this; exact h20
  · refine LoopW.up (min t.Sizes.length 20) (fun _ => True) ?_ (k0 := 0) rfl (Nat.zero_le _) trivial
    intro m rec2 hm _ hrec2
    refine ⟨fun hlt => ⟨iX (by omega) hlt.1, fun _ => hF, fun _ => ⟨iI (by omega) (by omega), hrec2 (by omega) trivial⟩⟩, fun _ => ?_⟩
    by_cases h : ((t.Peers.length : Int) ≤ 20) ∧ ((t.Sizes.length : Int) ≤ 20)
    · rw [decide_eq_true h]
      refine hT (by omega) (by omega) fun p hp => ?_
      obtain ⟨i, hi, rfl⟩ := List.getElem_of_mem hp
      have := hI i (by omega)
      rwa [ix_get hi] at this
    · rw [decide_eq_false h]; exact hF
theorem reverseTurns_law (t : api_Tracker) (p : standbylaw47_Peer) (x : List (List api_Extent)) (_ : Rg.rg t) (_ : Rg.rg p) (_ : Rg.rg x) : law47_ReverseTurns_W t p x fun v => v = true := by
  refine ref43_Few_ok ⟨fun _ => law47_awake_ok rfl, fun q => absurd (by simp) q⟩ fun h1 h2 h3 => ⟨fun q => absurd rfl q, fun _ => ⟨fun _ => law47_awake_ok rfl, fun hx => ?_⟩⟩
  refine LoopW.up x.length (fun k => ∀ j : Nat, j < k → (ix x (j : Int)).length ≤ 20) ?_ (k0 := 0) rfl (Nat.zero_le _) (fun j hj => absurd hj (Nat.not_lt_zero j))
  intro k rec hk hI hrec
  refine ⟨fun hlt => ⟨iX (by omega) hlt, fun _ => law47_awake_ok rfl, fun q => ⟨iI (by omega) (by omega), hrec (by omega) fun j hj => ?_⟩⟩, fun hge => ?_⟩
  · rcases Nat.lt_or_ge j k with h | h
    · exact hI j h
    · have : j = k := by omega
      subst this; omega
  · have hd : ∀ q ∈ t.Peers, q.Dirty.length ≤ 100000 := fun q hq => Nat.le_trans (h3 q hq) (by decide)
    obtain ⟨s1, s2, s3⟩ := turnR_small (t := t) (site := p.Site) (common := p.Common) (extra := x)
    refine reverse_Turn_ok hd (by omega) (by omega) (ref47_Turn_ok hd (fun es hes => ?_) (law47_awake_ok ⟨fun _ => ref43_Same_refl s1 s2 s3 ⟨fun _ => decide_eq_true rfl, fun q => absurd rfl q⟩, fun q => absurd rfl q⟩))
    obtain ⟨i, hi, rfl⟩ := List.getElem_of_mem hes
    have := hI i (by omega)
    rw [ix_get hi] at this
    omega
end Go.Proofs.YtahlanamngfkcaaDoor
namespace Go.Proofs.YtahlanamngfkcaaDoor
open Go.RowKit Go.ChangeShapes Go.WideShapes Go.ChangeAt
set_option maxRecDepth 100000 in
theorem reverseTurns_lifted (os : Os) (started : os.Started) (H : Type) (enc : TypeId × Value → H) :
    ReturnsInHanded {} Tryd.checked os 9 .any (fun w args => (Rows.reverseTurnsSpec.pre enc Tryd.prog Tryd.f9 [] false w args ∧ laidMetH Tryd.prog [("math/bits.deBruijn64tab", Rows.laid_math_bits_deBruijn64tab)] w) ∧ sizedMet enc Tryd.prog Tryd.f9 (OpenSpec.ofChange Rows.reverseTurnsSpec) false w args)
      (Rows.reverseTurnsSpec.post enc Tryd.prog Tryd.f9 false true false false) := by
  refine returnsInHanded_of_change_and (C := Tryd.checked) (X := fun w _ => laidMetH Tryd.prog [("math/bits.deBruijn64tab", Rows.laid_math_bits_deBruijn64tab)] w) (fun _ _ _ hh h => h.of_heap hh) Tryd.own started (by kernel_rfl) Tryd.func9
    (ChangeSpec.witness_shaped (enc := enc) (C := Tryd.checked) (os := os) (X := fun w _ => laidMetH Tryd.prog [("math/bits.deBruijn64tab", Rows.laid_math_bits_deBruijn64tab)] w) false (World.doorLaid Tryd.prog 14 os) #[.agg #[.slice none 0 0, .slice none 0 0], .agg #[.int .i64 (0), .int .i64 (0)], .slice none 0 0] 8 rfl (World.shaped_of_RefB (by kernel_rfl) (by kernel_rfl)) (by kernel_rfl) (by kernel_rfl) (by kernel_rfl) (Tryd.doorMet os _)) ?_
  intro W base args ds gs before hval0 hW _ _ hL _
  have hval : ∀ (j : Nat) t v, Tryd.f9.params[j]? = some t → args[j]? = some v → Value.okWide Tryd.prog W .any base t v := hval0
  have hW' := hW
  obtain ⟨p, q, hA0, hV, hpq, _, _⟩ := hW
  have hA : DataW.TrodAll enc Tryd.prog W 0 (fun _ => true) true Tryd.f9.params.toList args.toList ds p := hA0
  rw [Tryd.params9] at hA hval
  obtain ⟨v0, v1, v2, d0, d1, d2, p0, p1, p2, rfl, rfl, rfl, h0, h1, h2⟩ := trodAll_three hA
  obtain ⟨rfl, rfl⟩ := trodVars_none hV
  have hT := tabHolds hL
  obtain ⟨_, x0, rfl, hr0, hg0⟩ := open_strD Tryd.underlying85 rd85 (hval 0 85 v0 rfl rfl) h0
  obtain ⟨A56, n56, c56, s56, A57, n57, c57, s57, rfl, hF56, hF57⟩ := hr0
  obtain ⟨_, x1, rfl, hr1, hg1⟩ := open_strD Tryd.underlying87 rd87 (hval 1 87 v1 rfl rfl) h1
  obtain rfl := hr1
  obtain ⟨Az2, nz2, cz2, sz2, x2, rfl, hz2, hg2⟩ := open_slD Tryd.underlying30 rd30 (hval 2 30 v2 rfl rfl) h2
  refine Calls.mono ((RetP.toV (y := true) (F := fun z => .bool z) (law47_ReverseTurns_lift hT x0 x1 x2 hF56 hF57 hz2 (reverseTurns_law x0 x1 x2 hg0 hg1 hg2))) W fun b o e => e) ?_
  rintro e W' ⟨v, _, rfl, _, _, _, hb, rfl⟩
  exact ⟨_, rfl, post_law Tryd.laidOut Tryd.underlying4 rfl (by kernel_rfl) hW' rfl rfl hb⟩
theorem reverseTurns_holds : Rows.ReverseTurnsSaid :=
  OpenClaim.holds_of_wide 9 Tryd.f9 rfl rfl rfl rfl rfl rfl rfl ⟨rfl, rfl, rfl, rfl, rfl⟩ rfl rfl rfl rfl rfl (by kernel_rfl) Tryd.func9 (by kernel_rfl)
    (of_decide_eq_true (by kernel_rfl)) (by unfold Func.isWrapper; first | (rw [if_pos (by decide +kernel)]; kernel_rfl) | (rw [if_neg (by decide +kernel)]; exact ⟨rfl, rfl⟩))
    (fun os started H enc _ => reverseTurns_lifted os started H enc)
theorem reverseTurns_card : Rows.ReverseTurnsCardSaid :=
  Claim7.holds_tied_plain_at .later [] [.data] true (true, "0fbea9f7a9363770ef7d7c442e923654834488058ca280ed95a31cbd94370fd7") false
    reverseTurns_holds (fun _ h => by cases h) (by kernel_rfl) (fun _ h => by cases h) reverseTurns_row_tie rfl ⟨rfl, rfl⟩ (by kernel_rfl) rfl
    (fun f fn hf hfn => by
      obtain rfl : f = 9 := Option.some.inj ((show Tryd.prog.funcNamed "standby/standbylaw47.ReverseTurns" = some 9 by kernel_rfl).symm.trans hf) |>.symm
      obtain rfl : fn = Tryd.f9 := (Option.some.inj (Tryd.func9.symm.trans hfn)).symm
      exact ⟨by kernel_rfl, fun j t ht => by
        rw [Tryd.params9] at ht
        have hm : t ∈ [85, 87, 30] := by
          have := Array.mem_of_getElem? ht
          simpa using this
        have hall : ([85, 87, 30].all fun u => !Tryd.prog.wantsStandIn u) = true := by kernel_rfl
        exact (show Tryd.prog.wantsStandIn t = false by simpa using List.all_eq_true.1 hall t hm)⟩)
    (by kernel_rfl)
end Go.Proofs.YtahlanamngfkcaaDoor
