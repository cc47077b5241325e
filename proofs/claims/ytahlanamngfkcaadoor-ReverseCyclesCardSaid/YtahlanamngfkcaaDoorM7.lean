/- Proved: the tied card of the statement ReverseCycles: for every argument that can be read the law returns true and leaves its arguments as they were. Conditions: the row's own alone: the table math/bits.deBruijn64tab reads as listed, which the card ties to the program's text. -/
import Derived.Test.YtahlanamngfkcaaDoorM6
namespace Go.Proofs.YtahlanamngfkcaaDoor
open Go.RowKit
theorem mixK_get' {α : Type} {n k : Nat} {f : Nat → α} {old : List α} (ho : old.length = n) (hk : k < n) : mixK ((List.range n).map f) old (k + 1) = (mixK ((List.range n).map f) old k).set k (f k) :=
  (mixK_step (by rw [List.length_map, List.length_range, ho]) (by rw [List.getElem?_map, List.getElem?_range hk]; rfl)).symm
def sameSz (a b : List (List Sec)) : Bool := decide (szs a = szs b)
theorem szs_len (a : List (List Sec)) : (szs a).length = a.length := List.length_map _
theorem ix_szs {a : List (List Sec)} {k : Nat} (h : k < a.length) : ix (szs a) (k : Int) = ((ix a (k : Int)).length : Int) := by
  rw [ix_get (by rw [szs_len]; exact h), ix_get h]
  simp [szs]
theorem sameSz_allN {a b : List (List Sec)} (hl : a.length = b.length) : sameSz a b = allN (fun k => decide (((ix a (k : Int)).length : Int) = ((ix b (k : Int)).length : Int))) a.length := by
  unfold sameSz
  rw [Bool.eq_iff_iff, allN_true, decide_eq_true_iff]
  constructor
  · intro h k hk
    refine decide_eq_true ?_
    rw [← ix_szs hk, ← ix_szs (by omega), h]
  · intro h
    refine ext_ix (by rw [szs_len, szs_len, hl]) fun k hk => ?_
    rw [szs_len] at hk
    rw [ix_szs hk, ix_szs (by omega)]
    exact of_decide_eq_true (h k hk)
theorem sameSz_len {a b : List (List Sec)} (h : (a.length : Int) ≠ (b.length : Int)) : sameSz a b = false := by
  refine decide_eq_false fun e => h ?_
  rw [← szs_len a, ← szs_len b, e]
theorem delta_alike_ok {a b : List (List Sec)} {Φ : Bool → Prop} (hl : a.length ≤ 100000) (hΦ : Φ (sameSz a b)) : delta_alike_W a b Φ := by
  refine ⟨fun h => by rw [sameSz_len h] at hΦ; exact hΦ, fun h => ?_⟩
  rw [sameSz_allN (by omega)] at hΦ
  exact LoopW.allL _ _ hΦ (fun k rec hk _ h1 h2 => ⟨fun _ => ⟨iX (by omega) (by omega), iX (by omega) (by omega), fun q => h1 (by simpa using q), fun q => ⟨iI (by omega) (by omega), h2 (Classical.not_not.1 q)⟩⟩, fun q => absurd (by omega) q⟩) fun rec h1 _ => ⟨fun q => absurd q (by omega), fun _ => h1⟩
theorem ref46_sameSizes_ok {a b : api_Point} {Φ : Bool → Prop} (hl : a.Image.length ≤ 100000) (hΦ : Φ (sameSz a.Image b.Image)) : ref46_sameSizes_W a b Φ := by
  refine ⟨fun h => by rw [sameSz_len h] at hΦ; exact hΦ, fun h => ?_⟩
  rw [sameSz_allN (by omega)] at hΦ
  exact LoopW.allL _ _ hΦ (fun k rec hk _ h1 h2 => ⟨fun _ => ⟨iX (by omega) (by omega), iX (by omega) (by omega), fun q => h1 (decide_eq_false q), fun q => ⟨iI (by omega) (by omega), h2 (decide_eq_true (Classical.not_not.1 q))⟩⟩, fun q => absurd (by omega) q⟩) fun rec h1 _ => ⟨fun q => absurd q (by omega), fun _ => h1⟩
def markK (a b : api_Point) (k : Nat) : List api_Extent := exts (orB (ix a.Dirty (k : Int)) (ix b.Dirty (k : Int))).1
def marks (a b : api_Point) : List (List api_Extent) := (List.range a.Dirty.length).map (markK a b)
theorem delta_marked_ok {a b : api_Point} {Φ : List (List api_Extent) → Prop} (hl : a.Dirty.length ≤ 100000) (hb : a.Dirty.length = b.Dirty.length) (hΦ : Φ (marks a b)) : delta_marked_W a b Φ := by
  refine ⟨by omega, iL (by omega) (by omega), ?_⟩
  have hr : (List.replicate (a.Dirty.length : Int).toNat ([] : List api_Extent)).length = a.Dirty.length := by simp
  refine LoopW.up2 a.Dirty.length (fun k acc => acc = mixK (marks a b) (List.replicate (a.Dirty.length : Int).toNat ([] : List api_Extent)) k) ?_ rfl (Nat.zero_le _) (mixK_zero _ _).symm
  rintro k _ rec hk rfl hrec
  have hml := mixK_length (new := marks a b) (old := List.replicate (a.Dirty.length : Int).toNat ([] : List api_Extent)) (by rw [hr]; simp [marks]) k
  refine ⟨fun hlt => ?_, fun hge => ?_⟩
  · rw [hr] at hlt hml
    refine ⟨iX (by omega) (by omega), iX (by omega) (by omega), _, bitmap_Or_ok rfl, iX (by omega) (by rw [hml]; omega), iI (by omega) (by omega), hrec _ (by omega) ?_⟩
    exact (mixK_get' hr (by omega)).symm
  · rw [hr] at hge
    rw [mixK_full (by rw [hr]; simp [marks]) (by rw [hr]; omega)]
    exact hΦ
structure Fit (a b : api_Point) : Prop where
  da : a.Dirty.length = a.Image.length
  db : b.Dirty.length = a.Image.length
  n8 : a.Image.length ≤ 8
  ca : ∀ k : Nat, k < a.Image.length → chkB (ix a.Dirty (k : Int)) = 0 ∧ (ix a.Dirty (k : Int)).Size = ((ix a.Image (k : Int)).length : Int)
  cb : ∀ k : Nat, k < a.Image.length → chkB (ix b.Dirty (k : Int)) = 0 ∧ (ix b.Dirty (k : Int)).Size = ((ix a.Image (k : Int)).length : Int)
theorem ptE_zero {p : api_Point} (h : ptE p = 0) : p.Dirty.length = p.Image.length ∧ p.Image.length ≤ 8 ∧ ∀ k : Nat, k < p.Image.length → chkB (ix p.Dirty (k : Int)) = 0 ∧ (ix p.Dirty (k : Int)).Size = ((ix p.Image (k : Int)).length : Int) := by
  unfold ptE at h
  split at h
  · omega
  split at h
  · omega
  split at h
  · omega
  rename_i hi
  split at h
  · omega
  rename_i hd
  have hz := firstN_zero.1 h
  have h8 : p.Image.length ≤ 8 := by
    unfold imgE sizesE at hi
    rw [szs_len] at hi
    by_cases hq : (p.Image.length : Int) < 1 ∨ 8 < (p.Image.length : Int)
    · rw [if_pos hq] at hi; omega
    · omega
  refine ⟨by omega, h8, fun k hk => ?_⟩
  have := hz k (by omega)
  unfold dirtyE at this
  split at this
  · rename_i hq; exact absurd this hq
  · rename_i hq
    split at this
    · omega
    · rename_i hs; exact ⟨Classical.not_not.1 hq, Classical.not_not.1 hs⟩
theorem fit_of {a b : api_Point} (ha : ptE a = 0) (hb : ptE b = 0) (hs : sameSz a.Image b.Image = true) : Fit a b := by
  obtain ⟨a1, a2, a3⟩ := ptE_zero ha
  obtain ⟨b1, b2, b3⟩ := ptE_zero hb
  have hl : a.Image.length = b.Image.length := by
    have := congrArg List.length (of_decide_eq_true hs)
    rwa [szs_len, szs_len] at this
  rw [sameSz_allN hl, allN_true] at hs
  exact ⟨a1, by omega, a2, a3, fun k hk => by rw [of_decide_eq_true (hs k hk)]; exact b3 k (by omega)⟩
theorem Fit.or {a b : api_Point} (h : Fit a b) {k : Nat} (hk : k < a.Image.length) : (orB (ix a.Dirty (k : Int)) (ix b.Dirty (k : Int))).1 = ⟨(ix a.Dirty (k : Int)).Size, List.zipWith (fun x y => x ||| y) (ix a.Dirty (k : Int)).Words (ix b.Dirty (k : Int)).Words⟩ ∧
    chk (ix a.Dirty (k : Int)).Size (List.zipWith (fun x y => x ||| y) (ix a.Dirty (k : Int)).Words (ix b.Dirty (k : Int)).Words) = 0 := by
  obtain ⟨c1, c2⟩ := h.ca k hk
  obtain ⟨d1, d2⟩ := h.cb k hk
  have hs : (ix b.Dirty (k : Int)).Size = (ix a.Dirty (k : Int)).Size := by omega
  unfold chkB at c1 d1
  refine ⟨?_, ?_⟩
  · unfold orB
    rw [bothR_ok (bothE_4 (by simpa using c1) (by simpa using d1) (by omega))]; rfl
  · rw [hs] at d1
    exact chk_zip (· || ·) rfl (fun _ _ _ _ => BitVec.getLsbD_or) c1 d1
theorem ref46_marked_ok {a b : api_Point} (hf : Fit a b) {v : Nat} (hv : v < a.Image.length) {i : Nat} (hi : (i : Int) < ((ix a.Image (v : Int)).length : Int)) {Φ : Bool → Prop} (hΦ : Φ (bitN (List.zipWith (fun x y => x ||| y) (ix a.Dirty (v : Int)).Words (ix b.Dirty (v : Int)).Words) i)) : ref46_marked_W a b (v : Int) (i : Int) Φ := by
  obtain ⟨c1, c2⟩ := hf.ca v hv
  obtain ⟨d1, d2⟩ := hf.cb v hv
  have hda := hf.da
  have hdb := hf.db
  have wa := chkB_len (b := ix a.Dirty (v : Int)) (by simpa using c1)
  have wb := chkB_len (b := ix b.Dirty (v : Int)) (by simpa using d1)
  rw [bit_or (by omega) (by omega)] at hΦ
  have ea : getBm (ix a.Dirty (v : Int)) (i : Int) = bitN (ix a.Dirty (v : Int)).Words i := by
    rw [Bool.eq_iff_iff]; exact getB_iff.trans ⟨fun q => q.2.2.2, fun q => ⟨c1, by omega, by omega, q⟩⟩
  have eb : getBm (ix b.Dirty (v : Int)) (i : Int) = bitN (ix b.Dirty (v : Int)).Words i := by
    rw [Bool.eq_iff_iff]; exact getB_iff.trans ⟨fun q => q.2.2.2, fun q => ⟨d1, by omega, by omega, q⟩⟩
  refine ⟨iX (by omega) (by omega), ref02_Get_ok ⟨fun q => ?_, fun q => ⟨iX (by omega) (by omega), ref02_Get_ok ?_⟩⟩⟩
  · rw [ea] at q; rw [q] at hΦ; exact hΦ
  · rw [ea] at q; rw [eb]
    rw [show bitN (ix a.Dirty (v : Int)).Words i = false by simpa using q] at hΦ
    exact hΦ
theorem Fit.len {a b : api_Point} (hf : Fit a b) {k : Nat} (hk : k < a.Image.length) : (ix a.Image (k : Int)).length ≤ 4096 := by
  have h := hf.ca k hk
  have := chkB_len (b := ix a.Dirty (k : Int)) (by rw [h.1]; simp)
  omega
theorem ref46_between_ok {a b : api_Point} (hf : Fit a b) {Φ : List (List api_Extent) × Int → Prop} (hΦ : ∀ n, Φ (marks a b, n)) : ref46_between_W a b Φ := by
  have hml : (marks a b).length = a.Image.length := by unfold marks; rw [List.length_map, List.length_range, hf.da]
  refine LoopW.upS a.Image.length (fun s : List (List api_Extent) × Int × Int => s.2.2) (fun k s => s.1 = (marks a b).take k ∧ 0 ≤ s.2.1 ∧ s.2.1 ≤ 4096 * (k : Int)) ?_ 0 rfl (Nat.zero_le _) ⟨rfl, by simp, by simp⟩
  rintro k ⟨acc, n, i⟩ rec hk hi ⟨hacc, hn0, hn1⟩ hrec
  simp only at hi hacc hn0 hn1
  subst hi
  have h8 := hf.n8
  refine ⟨fun hlt => ?_, fun hge => ?_⟩
  · have hk' : k < a.Image.length := by omega
    have h4 := hf.len hk'
    have hal : acc.length = k := by rw [hacc, List.length_take]; omega
    refine LoopW.upS (ix a.Image (k : Int)).length (fun s : Int × List api_Extent × Int => s.2.2) (fun m s => s.2.1 = (extsK (List.zipWith (fun x y => x ||| y) (ix a.Dirty (k : Int)).Words (ix b.Dirty (k : Int)).Words) m).map toX ∧ 0 ≤ s.1 ∧ s.1 ≤ 4096 * (k : Int) + (m : Int)) ?_ 0 rfl (Nat.zero_le _) ⟨rfl, hn0, by simpa using hn1⟩
    rintro m ⟨c, es, j⟩ rec2 hm hj ⟨hes, hc0, hc1⟩ hrec2
    simp only at hj hes hc0 hc1
    subst hj
    subst hes
    have hx := extsK_facts (List.zipWith (fun x y => x ||| y) (ix a.Dirty (k : Int)).Words (ix b.Dirty (k : Int)).Words) m
    refine ⟨iX (by omega) (by omega), fun hmlt => ref46_marked_ok hf hk' (by omega) ⟨fun hb => ⟨iI (by omega) (by omega), hrec2 _ (by omega) rfl ⟨by rw [extsK_no hb], hc0, by simp only; omega⟩⟩, fun hb => ⟨iI (by omega) (by omega), join_pre hx.1 hx.2 (by omega), fun hj => ?_, fun hj => ?_⟩⟩, fun hmge => ?_⟩
    · obtain ⟨g1, g2, g3, g4⟩ := join_post hx.1 hx.2 (by omega) (join_iff.1 hj)
      exact ⟨g1, g2, g3, iI (by omega) (by omega), hrec2 _ (by omega) rfl ⟨by rw [extsK_yes (Classical.not_not.1 hb)]; exact g4, by simp only; omega, by simp only; omega⟩⟩
    · refine ⟨iL (by simp only [List.length_append, List.length_map, List.length_cons, List.length_nil]; omega) (by omega), iI (by omega) (by omega), hrec2 _ (by omega) rfl ⟨?_, by simp only; omega, by simp only; omega⟩⟩
      rw [extsK_yes (Classical.not_not.1 hb), addX_new fun q => hj (join_iff.2 q), List.map_append]; rfl
    · refine ⟨iL (by simp only [List.length_append, List.length_cons, List.length_nil]; omega) (by omega), iI (by omega) (by omega), hrec _ (by omega) rfl ⟨?_, by simp only; omega, by simp only; omega⟩⟩
      have hm' : m = (ix a.Image (k : Int)).length := by omega
      obtain ⟨ho, hck⟩ := hf.or hk'
      have hsz := (hf.ca k hk').2
      simp only
      rw [hacc, List.take_succ_eq_append_getElem (by omega)]
      congr 2
      unfold marks
      rw [List.getElem_map, List.getElem_range]
      unfold markK exts
      rw [ho, extR_ok (k := m) (by simpa using hck) (by simp only; omega)]
  · have : k = a.Image.length := by omega
    rw [List.take_of_length_le (by omega)] at hacc
    rw [hacc]; exact hΦ n
def betR (a b : api_Point) : List (List api_Extent) × Int := if ptE a ≠ 0 then ([], ptE a) else if ptE b ≠ 0 then ([], ptE b) else if ¬ (sameSz a.Image b.Image = true) then ([], 22) else (marks a b, 0)
theorem delta_Between_ok {a b : api_Point} {Φ : List (List api_Extent) × Int → Prop} (ha : a.Lineage.length ≤ 1000000) (hb : b.Lineage.length ≤ 1000000) (ha2 : a.Image.length ≤ 100000) (hb2 : b.Image.length ≤ 100000) (hΦ : Φ (betR a b)) : delta_Between_W a b Φ := by
  unfold betR at hΦ
  refine LoopW.up 2 (fun k => (0 < k → ptE a = 0) ∧ (1 < k → ptE b = 0)) ?_ (k0 := 0) rfl (by decide) ⟨fun h => absurd h (by decide), fun h => absurd h (by decide)⟩
  intro k rec hk hI hrec
  refine ⟨fun hlt => ⟨iX (by omega) hlt, ?_⟩, fun hge => ?_⟩
  · have hlt2 : k < 2 := by simp only [List.length_cons, List.length_nil] at hlt; omega
    have hcase : k = 0 ∨ k = 1 := by omega
    rcases hcase with rfl | rfl
    · refine delta_Check_ok ha ha2 ⟨fun q => ?_, fun q => ⟨iI (by omega) (by omega), hrec (by omega) ⟨fun _ => Classical.not_not.1 q, by omega⟩⟩⟩
      have q' : ptE a ≠ 0 := q
      rw [if_pos q'] at hΦ; exact hΦ
    · refine delta_Check_ok hb hb2 ⟨fun q => ?_, fun q => ⟨iI (by omega) (by omega), hrec (by omega) ⟨fun _ => hI.1 (by omega), fun _ => Classical.not_not.1 q⟩⟩⟩
      have q' : ptE b ≠ 0 := q
      rw [if_neg (by rw [hI.1 (by omega)]; simp), if_pos q'] at hΦ; exact hΦ
  · have hk2 : k = 2 := by simp only [List.length_cons, List.length_nil] at hge; omega
    subst hk2
    have h1 := hI.1 (by omega)
    have h2 := hI.2 (by omega)
    rw [if_neg (by rw [h1]; simp), if_neg (by rw [h2]; simp)] at hΦ
    refine delta_alike_ok ha2 ⟨fun q => by rw [if_pos q] at hΦ; exact hΦ, fun q => ?_⟩
    rw [if_neg q] at hΦ
    have hf := fit_of h1 h2 (Classical.not_not.1 q)
    have := hf.n8
    exact delta_marked_ok (by rw [hf.da]; omega) (by rw [hf.da, hf.db]) hΦ
theorem ref46_Between_ok {a b : api_Point} {Φ : List (List api_Extent) × Int → Prop} (ha : a.Lineage.length ≤ 1000000) (hb : b.Lineage.length ≤ 1000000) (ha2 : a.Image.length ≤ 100000) (hb2 : b.Image.length ≤ 100000) (hΦ : Φ (betR a b)) : ref46_Between_W a b Φ := by
  unfold betR at hΦ
  refine ref46_Check_ok ha ha2 ⟨fun q => by rw [if_pos q] at hΦ; exact hΦ, fun q => ?_⟩
  rw [if_neg q] at hΦ
  refine ref46_Check_ok hb hb2 ⟨fun q => by rw [if_pos q] at hΦ; exact hΦ, fun q2 => ?_⟩
  rw [if_neg q2] at hΦ
  refine ref46_sameSizes_ok ha2 ⟨fun q => by rw [if_pos q] at hΦ; exact hΦ, fun q3 => ?_⟩
  rw [if_neg q3] at hΦ
  exact ref46_between_ok (fit_of (Classical.not_not.1 q) (Classical.not_not.1 q2) (Classical.not_not.1 q3)) fun _ => hΦ
end Go.Proofs.YtahlanamngfkcaaDoor

namespace Go.Proofs.YtahlanamngfkcaaDoor
open Go.RowKit
def orK {S R : Type} (a : S → Prop) (b : R → Prop) : S ⊕ R → Prop
  | .inl s => a s
  | .inr r => b r
def loopS {S R : Type} (step : S → Option (S ⊕ R)) : Nat → S → Option R
  | 0, _ => none
  | n + 1, s => match step s with
    | none => none
    | some (.inl s') => loopS step n s'
    | some (.inr r) => some r
theorem LoopW.of_S {S R : Type} {step : S → (S → Prop) → Prop} {stepS : S → Option (S ⊕ R)} {K : R → Prop} (hs : ∀ s q rec, stepS s = some q → orK rec K q → step s rec) : ∀ (n : Nat) (s : S) {o : R}, loopS stepS n s = some o → K o → LoopW step s := by
  intro n s o h hK
  refine ⟨n, ?_⟩
  induction n generalizing s with
  | zero => cases h
  | succ n ih =>
    unfold loopS at h
    split at h
    · cases h
    · rename_i s' e
      exact hs s _ _ e (ih s' h)
    · rename_i r e
      cases h
      exact hs s _ _ e hK
theorem ofBind {α β : Type} {x : Option α} {f : α → Option β} {o : β} (h : Option.bind x f = some o) : ∃ v, x = some v ∧ f v = some o := Option.bind_eq_some_iff.1 h
theorem ofIf {α : Type} {p : Prop} [Decidable p] {x : Option α} {o : α} (h : (if p then x else none) = some o) : p ∧ x = some o := by
  by_cases hp : p
  · rw [if_pos hp] at h; exact ⟨hp, h⟩
  · rw [if_neg hp] at h; cases h
theorem ofT {α : Type} {p : Prop} [Decidable p] {x y : Option α} {o : α} (hp : p) (h : (if p then x else y) = some o) : x = some o := by rw [if_pos hp] at h; exact h
theorem ofF {α : Type} {p : Prop} [Decidable p] {x y : Option α} {o : α} (hp : ¬ p) (h : (if p then x else y) = some o) : y = some o := by rw [if_neg hp] at h; exact h
def bothS {α : Type} [DecidableEq α] (b : Bool) (x y : Option α) : Option α := if b = true then (if x = y then x else none) else y
theorem ofBoth {α : Type} [DecidableEq α] {b : Bool} {x y : Option α} {o : α} (h : bothS b x y = some o) : (b = true → x = some o) ∧ y = some o := by
  unfold bothS at h
  by_cases hb : b = true
  · rw [if_pos hb] at h
    by_cases he : x = y
    · rw [if_pos he] at h; exact ⟨fun _ => h, he ▸ h⟩
    · rw [if_neg he] at h; cases h
  · rw [if_neg hb] at h; exact ⟨fun q => absurd q hb, h⟩
theorem lfS {α : Type} {K : α → Prop} {a o : α} (h : some a = some o) (hK : K o) : K a := by
  cases h; exact hK
theorem mgS {α : Type} {x : Option Unit} {f : Unit → Option α} {o : α} {A B : Prop} (h : Option.bind x f = some o) (a : x = some () → True → A) (b : f () = some o → B) : A ∧ B := by
  obtain ⟨_, h1, h2⟩ := ofBind h
  exact ⟨a h1 trivial, b h2⟩
theorem adS {α : Type} {p : Prop} [Decidable p] {x : Option α} {o : α} {B : Prop} (h : (if p then x else none) = some o) (b : x = some o → B) : p ∧ B := ⟨(ofIf h).1, b (ofIf h).2⟩
theorem ifS {α : Type} {p : Prop} [Decidable p] {x y : Option α} {o : α} {A B : Prop} (h : (if p then x else y) = some o) (a : x = some o → A) (b : y = some o → B) : (p → A) ∧ (¬ p → B) := ⟨fun c => a (ofT c h), fun c => b (ofF c h)⟩
theorem imS {α : Type} {p : Prop} [Decidable p] {x y : Option α} {o : α} {A : Prop} (h : (if p then x else y) = some o) (a : x = some o → A) : p → A := fun c => a (ofT c h)
theorem nlS {α β : Type} [DecidableEq α] {l : List β} {x y : Option α} {o : α} {A B : Prop} (h : bothS l.isEmpty x y = some o) (a : x = some o → A) (b : y = some o → B) : (l = [] → A) ∧ B := ⟨fun c => a ((ofBoth h).1 (List.isEmpty_iff.2 c)), b (ofBoth h).2⟩
theorem blS {α β : Type} {x : Option α} {f : α → Option β} {o : β} {G : Prop} (h : Option.bind x f = some o) (k : ∀ v, x = some v → f v = some o → G) : G := by
  obtain ⟨v, h1, h2⟩ := ofBind h
  exact k v h1 h2
instance decI (x : Int) : Decidable (inI x) := inferInstanceAs (Decidable (_ ∧ _))
instance decX (i : Int) (n : Nat) : Decidable (inX i n) := inferInstanceAs (Decidable (_ ∧ _))
instance decS (a b : Int) (n : Nat) : Decidable (inS a b n) := inferInstanceAs (Decidable (_ ∧ _))
instance decL (n b : Nat) : Decidable (lenOk n b) := inferInstanceAs (Decidable (_ ∧ _))
def bitmap_Extents_S (x0 : api_Bitmap) : Option (List api_Extent) := some ((extR x0.Size x0.Words).map fun e => ⟨e.1, e.2⟩)
theorem bitmap_Extents_sound (x0 : api_Bitmap) {Φ : List api_Extent → Prop} {o} (h : bitmap_Extents_S x0 = some o) (hK : Φ o) : bitmap_Extents_W x0 Φ := by
  cases h; exact hK
def law47_one_S (x0 : Int) (x1 : BitVec 8) : Option (api_Write) :=
 some ((api_Write.mk 0 x0 ([(Sec.mk x1 (0#8) (0#8) (0#8) (0#8) (0#8) (0#8) (0#8))] : List Sec)))
theorem law47_one_sound (x0 : Int) (x1 : BitVec 8) {Φ : api_Write → Prop} {o} (h : law47_one_S x0 x1 = some o) (hK : Φ o) : law47_one_W x0 x1 Φ := by
 unfold law47_one_S at h
 unfold law47_one_W
 exact have t := lfS h hK; t
def ref07_SizesOf_L1_S (x0 : List (List Sec)) : (List Int × Int) → Option ((List Int × Int) ⊕ (List Int))
 | (v4, v11) =>
  if v11 < (x0.length : Int) then
   if inX v11 x0.length then
   if lenOk (v4 ++ ([((ix x0 v11).length : Int)] : List Int)).length 8 then
   if inI (v11 + 1) then
   some (.inl ((v4 ++ ([((ix x0 v11).length : Int)] : List Int)), v11 + 1))
   else none
   else none
   else none
  else
   some (.inr v4)
theorem ref07_SizesOf_L1_sound (x0 : List (List Sec)) (s : List Int × Int) {Φ : List Int → Prop} {rec1 : (List Int × Int) → Prop} {o} (h : ref07_SizesOf_L1_S x0 s = some o) (hK : (orK rec1 Φ) o) : ref07_SizesOf_L1 x0 Φ s rec1 := by
 obtain ⟨v4, v11⟩ := s
 unfold ref07_SizesOf_L1_S at h
 unfold ref07_SizesOf_L1
 exact ifS h (fun h => adS h fun h => adS h fun h => adS h fun h => have t := lfS h hK; t) fun h => have t := lfS h hK; t
def ref07_SizesOf_S (x0 : List (List Sec)) : Option (List Int) :=
 loopS (ref07_SizesOf_L1_S x0) 100000 (([] : List Int), 0)
theorem ref07_SizesOf_sound (x0 : List (List Sec)) {Φ : List Int → Prop} {o} (h : ref07_SizesOf_S x0 = some o) (hK : Φ o) : ref07_SizesOf_W x0 Φ := by
 unfold ref07_SizesOf_S at h
 unfold ref07_SizesOf_W
 exact LoopW.of_S (fun s q rec hs hq => ref07_SizesOf_L1_sound _ s hs hq) _ _ h hK
def ref07_Sizes_L1_S (x0 : List Int) : (Int) → Option ((Int) ⊕ (Int))
 | (v6) =>
  if v6 < (x0.length : Int) then
   Option.bind (
    if inX v6 x0.length then some () else none : Option Unit) fun _ =>
   if ((ix x0 v6) < 1) ∨ (4096 < (ix x0 v6)) then
    some (.inr 2)
   else
    if inI (v6 + 1) then
    some (.inl (v6 + 1))
    else none
  else
   some (.inr 0)
theorem ref07_Sizes_L1_sound (x0 : List Int) (s : Int) {Φ : Int → Prop} {rec1 : (Int) → Prop} {o} (h : ref07_Sizes_L1_S x0 s = some o) (hK : (orK rec1 Φ) o) : ref07_Sizes_L1 x0 Φ s rec1 := by
 unfold ref07_Sizes_L1_S at h
 unfold ref07_Sizes_L1
 exact ifS h (fun h => mgS h (fun h hK => (ofIf h).1) fun h => ifS h (fun h => have t := lfS h hK; t) fun h => adS h fun h => have t := lfS h hK; t) fun h => have t := lfS h hK; t
def ref07_Sizes_S (x0 : List Int) : Option (Int) :=
 if ((x0.length : Int) < 1) ∨ (8 < (x0.length : Int)) then
  some (6)
 else
  loopS (ref07_Sizes_L1_S x0) 100000 (0)
theorem ref07_Sizes_sound (x0 : List Int) {Φ : Int → Prop} {o} (h : ref07_Sizes_S x0 = some o) (hK : Φ o) : ref07_Sizes_W x0 Φ := by
 unfold ref07_Sizes_S at h
 unfold ref07_Sizes_W
 exact ifS h (fun h => have t := lfS h hK; t) fun h => LoopW.of_S (fun s q rec hs hq => ref07_Sizes_L1_sound _ s hs hq) _ _ h hK
def ref07_Check_S (x0 : List (List Sec)) : Option (Int) :=
 Option.bind (ref07_SizesOf_S x0) fun v2 =>
 Option.bind (ref07_Sizes_S v2) fun v11 =>
 some (v11)
theorem ref07_Check_sound (x0 : List (List Sec)) {Φ : Int → Prop} {o} (h : ref07_Check_S x0 = some o) (hK : Φ o) : ref07_Check_W x0 Φ := by
 unfold ref07_Check_S at h
 unfold ref07_Check_W
 exact blS h fun _ hv h => ref07_SizesOf_sound _ hv (blS h fun _ hv h => ref07_Sizes_sound _ hv (have t := lfS h hK; t))
def ref07_Copy_L1_S (x0 : List (List Sec)) : (List (List Sec) × Int) → Option ((List (List Sec) × Int) ⊕ (List (List Sec)))
 | (v4, v12) =>
  if v12 < (x0.length : Int) then
   if inX v12 x0.length then
   if lenOk (([] : List Sec) ++ (ix x0 v12)).length 8 then
   if lenOk (v4 ++ [(([] : List Sec) ++ (ix x0 v12))]).length 24 then
   if inI (v12 + 1) then
   some (.inl ((v4 ++ [(([] : List Sec) ++ (ix x0 v12))]), v12 + 1))
   else none
   else none
   else none
   else none
  else
   some (.inr v4)
theorem ref07_Copy_L1_sound (x0 : List (List Sec)) (s : List (List Sec) × Int) {Φ : List (List Sec) → Prop} {rec1 : (List (List Sec) × Int) → Prop} {o} (h : ref07_Copy_L1_S x0 s = some o) (hK : (orK rec1 Φ) o) : ref07_Copy_L1 x0 Φ s rec1 := by
 obtain ⟨v4, v12⟩ := s
 unfold ref07_Copy_L1_S at h
 unfold ref07_Copy_L1
 exact ifS h (fun h => adS h fun h => adS h fun h => adS h fun h => adS h fun h => have t := lfS h hK; t) fun h => have t := lfS h hK; t
def ref07_Copy_S (x0 : List (List Sec)) : Option (List (List Sec)) :=
 loopS (ref07_Copy_L1_S x0) 100000 (([] : List (List Sec)), 0)
theorem ref07_Copy_sound (x0 : List (List Sec)) {Φ : List (List Sec) → Prop} {o} (h : ref07_Copy_S x0 = some o) (hK : Φ o) : ref07_Copy_W x0 Φ := by
 unfold ref07_Copy_S at h
 unfold ref07_Copy_W
 exact LoopW.of_S (fun s q rec hs hq => ref07_Copy_L1_sound _ s hs hq) _ _ h hK
def ref07_FitsSizes_S (x0 : List Int) (x1 : api_Write) : Option (Int) :=
 if (x1.Volume < 0) ∨ ((x0.length : Int) ≤ x1.Volume) then
  some (7)
 else
  if (x1.Data.length : Int) = 0 then
   some (1)
  else
   Option.bind (
    if ¬ (x1.Start < 0) then
     if inX x1.Volume x0.length then
     if ¬ ((ix x0 x1.Volume) ≤ x1.Start) then
      if inI ((ix x0 x1.Volume) - x1.Start) then some () else none
     else some ()
     else none
    else some () : Option Unit) fun _ =>
   if (x1.Start < 0) ∨ (((ix x0 x1.Volume) ≤ x1.Start) ∨ (((ix x0 x1.Volume) - x1.Start) < (x1.Data.length : Int))) then
    some (2)
   else
    some (0)
theorem ref07_FitsSizes_sound (x0 : List Int) (x1 : api_Write) {Φ : Int → Prop} {o} (h : ref07_FitsSizes_S x0 x1 = some o) (hK : Φ o) : ref07_FitsSizes_W x0 x1 Φ := by
 unfold ref07_FitsSizes_S at h
 unfold ref07_FitsSizes_W
 exact ifS h (fun h => have t := lfS h hK; t) fun h => ifS h (fun h => have t := lfS h hK; t) fun h => mgS h (fun h hK => imS h fun h => adS h fun h => imS h fun h => (ofIf h).1) fun h => ifS h (fun h => have t := lfS h hK; t) fun h => have t := lfS h hK; t
def ref07_Fits_S (x0 : List (List Sec)) (x1 : api_Write) : Option (Int) :=
 Option.bind (ref07_Check_S x0) fun v4 =>
 if v4 ≠ 0 then
  some (v4)
 else
  Option.bind (ref07_SizesOf_S x0) fun v8 =>
  Option.bind (ref07_FitsSizes_S v8 x1) fun v14 =>
  some (v14)
theorem ref07_Fits_sound (x0 : List (List Sec)) (x1 : api_Write) {Φ : Int → Prop} {o} (h : ref07_Fits_S x0 x1 = some o) (hK : Φ o) : ref07_Fits_W x0 x1 Φ := by
 unfold ref07_Fits_S at h
 unfold ref07_Fits_W
 exact blS h fun _ hv h => ref07_Check_sound _ hv (ifS h (fun h => have t := lfS h hK; t) fun h => blS h fun v hv h => ⟨v, ref07_SizesOf_sound _ hv rfl, blS h fun v hv h => ⟨v, ref07_FitsSizes_sound _ _ hv rfl, have t := lfS h hK; t⟩⟩)
def ref07_Apply_L2_S (x1 : List api_Write) (v24 : Int) : (List (List Sec) × Int) → Option ((List (List Sec) × Int) ⊕ ((List (List Sec) × Int) ⊕ (List (List Sec) × Int × Int)))
 | (v37, v45) =>
  if v45 < (((ix x1 v24).Data).length : Int) then
   if inX ((ix x1 v24).Volume) v37.length then
   if inI (((ix x1 v24).Start) + v45) then
   if inX v45 ((ix x1 v24).Data).length then
   if inX (((ix x1 v24).Start) + v45) (ix v37 ((ix x1 v24).Volume)).length then
   if inI (v45 + 1) then
   some (.inl ((put v37 ((ix x1 v24).Volume) (put (ix v37 ((ix x1 v24).Volume)) (((ix x1 v24).Start) + v45) (ix ((ix x1 v24).Data) v45))), v45 + 1))
   else none
   else none
   else none
   else none
   else none
  else
   if inI (v24 + 1) then
   some (.inr (.inl (v37, v24 + 1)))
   else none
theorem ref07_Apply_L2_sound (x1 : List api_Write) (v24 : Int) (s : List (List Sec) × Int) {Φ : List (List Sec) × Int × Int → Prop} {rec1 : (List (List Sec) × Int) → Prop} {rec2 : (List (List Sec) × Int) → Prop} {o} (h : ref07_Apply_L2_S x1 v24 s = some o) (hK : (orK rec2 (orK rec1 Φ)) o) : ref07_Apply_L2 x1 v24 rec1 Φ s rec2 := by
 obtain ⟨v37, v45⟩ := s
 unfold ref07_Apply_L2_S at h
 unfold ref07_Apply_L2
 exact ifS h (fun h => adS h fun h => adS h fun h => adS h fun h => adS h fun h => adS h fun h => have t := lfS h hK; t) fun h => adS h fun h => have t := lfS h hK; t
def ref07_Apply_L1_S (x0 : List (List Sec)) (x1 : List api_Write) : (List (List Sec) × Int) → Option ((List (List Sec) × Int) ⊕ (List (List Sec) × Int × Int))
 | (v16, v24) =>
  if v24 < (x1.length : Int) then
   if inX v24 x1.length then
   Option.bind (ref07_Fits_S x0 (ix x1 v24)) fun v31 =>
   if v31 ≠ 0 then
    some (.inr (([] : List (List Sec)), v24, v31))
   else
    loopS (ref07_Apply_L2_S x1 v24) 100000 (v16, 0)
   else none
  else
   some (.inr (v16, 0, 0))
theorem ref07_Apply_L1_sound (x0 : List (List Sec)) (x1 : List api_Write) (s : List (List Sec) × Int) {Φ : List (List Sec) × Int × Int → Prop} {rec1 : (List (List Sec) × Int) → Prop} {o} (h : ref07_Apply_L1_S x0 x1 s = some o) (hK : (orK rec1 Φ) o) : ref07_Apply_L1 x0 x1 Φ s rec1 := by
 obtain ⟨v16, v24⟩ := s
 unfold ref07_Apply_L1_S at h
 unfold ref07_Apply_L1
 exact ifS h (fun h => adS h fun h => blS h fun _ hv h => ref07_Fits_sound _ _ hv (ifS h (fun h => have t := lfS h hK; t) fun h => LoopW.of_S (fun s q rec hs hq => ref07_Apply_L2_sound _ _ s hs hq) _ _ h hK)) fun h => have t := lfS h hK; t
def ref07_Apply_S (x0 : List (List Sec)) (x1 : List api_Write) : Option (List (List Sec) × Int × Int) :=
 Option.bind (ref07_Check_S x0) fun v3 =>
 if v3 ≠ 0 then
  some ((([] : List (List Sec)), 0, v3))
 else
  Option.bind (ref07_Copy_S x0) fun v7 =>
  loopS (ref07_Apply_L1_S x0 x1) 100000 (v7, 0)
theorem ref07_Apply_sound (x0 : List (List Sec)) (x1 : List api_Write) {Φ : List (List Sec) × Int × Int → Prop} {o} (h : ref07_Apply_S x0 x1 = some o) (hK : Φ o) : ref07_Apply_W x0 x1 Φ := by
 unfold ref07_Apply_S at h
 unfold ref07_Apply_W
 exact blS h fun _ hv h => ref07_Check_sound _ hv (ifS h (fun h => have t := lfS h hK; t) fun h => blS h fun _ hv h => ref07_Copy_sound _ hv (LoopW.of_S (fun s q rec hs hq => ref07_Apply_L1_sound _ _ s hs hq) _ _ h hK))
def ref02_New_S (x0 : Int) : Option (api_Bitmap × Int) :=
 if (x0 < 0) ∨ (4096 < x0) then
  some (((api_Bitmap.mk 0 ([] : List (BitVec 64))), 2))
 else
  if inI (x0 + 63) then
  if 0 ≤ (x0 + 63) ∧ inI (x0 + 63) then
  if 0 ≤ ((x0 + 63) / 64) then
  if lenOk ((x0 + 63) / 64).toNat 8 then
  some (((api_Bitmap.mk x0 (List.replicate ((x0 + 63) / 64).toNat (0#64))), 0))
  else none
  else none
  else none
  else none
theorem ref02_New_sound (x0 : Int) {Φ : api_Bitmap × Int → Prop} {o} (h : ref02_New_S x0 = some o) (hK : Φ o) : ref02_New_W x0 Φ := by
 unfold ref02_New_S at h
 unfold ref02_New_W
 exact ifS h (fun h => have t := lfS h hK; t) fun h => adS h fun h => adS h fun h => adS h fun h => adS h fun h => have t := lfS h hK; t
def ref43_Clean_L1_S (x0 : List Int) : (List api_Bitmap × Int) → Option ((List api_Bitmap × Int) ⊕ (List api_Bitmap))
 | (v4, v11) =>
  if v11 < (x0.length : Int) then
   if inX v11 x0.length then
   Option.bind (ref02_New_S (ix x0 v11)) fun v17 =>
   if lenOk (v4 ++ ([v17.1] : List api_Bitmap)).length 32 then
   if inI (v11 + 1) then
   some (.inl ((v4 ++ ([v17.1] : List api_Bitmap)), v11 + 1))
   else none
   else none
   else none
  else
   some (.inr v4)
theorem ref43_Clean_L1_sound (x0 : List Int) (s : List api_Bitmap × Int) {Φ : List api_Bitmap → Prop} {rec1 : (List api_Bitmap × Int) → Prop} {o} (h : ref43_Clean_L1_S x0 s = some o) (hK : (orK rec1 Φ) o) : ref43_Clean_L1 x0 Φ s rec1 := by
 obtain ⟨v4, v11⟩ := s
 unfold ref43_Clean_L1_S at h
 unfold ref43_Clean_L1
 exact ifS h (fun h => adS h fun h => blS h fun _ hv h => ref02_New_sound _ hv (adS h fun h => adS h fun h => have t := lfS h hK; t)) fun h => have t := lfS h hK; t
def ref43_Clean_S (x0 : List Int) : Option (List api_Bitmap) :=
 loopS (ref43_Clean_L1_S x0) 100000 (([] : List api_Bitmap), 0)
theorem ref43_Clean_sound (x0 : List Int) {Φ : List api_Bitmap → Prop} {o} (h : ref43_Clean_S x0 = some o) (hK : Φ o) : ref43_Clean_W x0 Φ := by
 unfold ref43_Clean_S at h
 unfold ref43_Clean_W
 exact LoopW.of_S (fun s q rec hs hq => ref43_Clean_L1_sound _ s hs hq) _ _ h hK
def ref02_Copy_S (x0 : api_Bitmap) : Option (api_Bitmap) :=
 if lenOk (([] : List (BitVec 64)) ++ x0.Words).length 8 then
 some ((api_Bitmap.mk x0.Size (([] : List (BitVec 64)) ++ x0.Words)))
 else none
theorem ref02_Copy_sound (x0 : api_Bitmap) {Φ : api_Bitmap → Prop} {o} (h : ref02_Copy_S x0 = some o) (hK : Φ o) : ref02_Copy_W x0 Φ := by
 unfold ref02_Copy_S at h
 unfold ref02_Copy_W
 exact adS h fun h => have t := lfS h hK; t
def ref02_bit_S (x0 : api_Bitmap) (x1 : Int) : Option (Bool) :=
 if 0 ≤ x1 ∧ inI x1 then
 if inX (x1 / 64) x0.Words.length then
 if 0 ≤ x1 then
 some (decide ((((ix x0.Words (x1 / 64)) >>> ((BitVec.ofInt 64 (x1 % 64)).toNat : Int).toNat) &&& (1#64)) = (1#64)))
 else none
 else none
 else none
theorem ref02_bit_sound (x0 : api_Bitmap) (x1 : Int) {Φ : Bool → Prop} {o} (h : ref02_bit_S x0 x1 = some o) (hK : Φ o) : ref02_bit_W x0 x1 Φ := by
 unfold ref02_bit_S at h
 unfold ref02_bit_W
 exact adS h fun h => adS h fun h => adS h fun h => have t := lfS h hK; t
def ref02_Check_L1_S (x0 : api_Bitmap) : (Int) → Option ((Int) ⊕ (Int))
 | (v10) =>
  if inI (64 * (x0.Words.length : Int)) then
  if v10 < (64 * (x0.Words.length : Int)) then
   Option.bind (ref02_bit_S x0 v10) fun v15 =>
   if v15 = true then
    some (.inr 3)
   else
    if inI (v10 + 1) then
    some (.inl (v10 + 1))
    else none
  else
   some (.inr 0)
  else none
theorem ref02_Check_L1_sound (x0 : api_Bitmap) (s : Int) {Φ : Int → Prop} {rec1 : (Int) → Prop} {o} (h : ref02_Check_L1_S x0 s = some o) (hK : (orK rec1 Φ) o) : ref02_Check_L1 x0 Φ s rec1 := by
 unfold ref02_Check_L1_S at h
 unfold ref02_Check_L1
 exact adS h fun h => ifS h (fun h => blS h fun _ hv h => ref02_bit_sound _ _ hv (ifS h (fun h => have t := lfS h hK; t) fun h => adS h fun h => have t := lfS h hK; t)) fun h => have t := lfS h hK; t
def ref02_Check_S (x0 : api_Bitmap) : Option (Int) :=
 Option.bind (
  if ¬ (x0.Size < 0) then
   if ¬ (4096 < x0.Size) then
    if inI (x0.Size + 63) then
    if 0 ≤ (x0.Size + 63) ∧ inI (x0.Size + 63) then some () else none
    else none
   else some ()
  else some () : Option Unit) fun _ =>
 if (x0.Size < 0) ∨ ((4096 < x0.Size) ∨ ((x0.Words.length : Int) ≠ ((x0.Size + 63) / 64))) then
  some (3)
 else
  loopS (ref02_Check_L1_S x0) 100000 (x0.Size)
theorem ref02_Check_sound (x0 : api_Bitmap) {Φ : Int → Prop} {o} (h : ref02_Check_S x0 = some o) (hK : Φ o) : ref02_Check_W x0 Φ := by
 unfold ref02_Check_S at h
 unfold ref02_Check_W
 exact mgS h (fun h hK => imS h fun h => imS h fun h => adS h fun h => (ofIf h).1) fun h => ifS h (fun h => have t := lfS h hK; t) fun h => LoopW.of_S (fun s q rec hs hq => ref02_Check_L1_sound _ s hs hq) _ _ h hK
def ref02_Fits_S (x0 : api_Extent) (x1 : Int) : Option (Bool) :=
 Option.bind (
  if 0 ≤ x0.Start then
   if 0 ≤ x0.Count then
    if x0.Start ≤ x1 then
     if inI (x1 - x0.Start) then some () else none
    else some ()
   else some ()
  else some () : Option Unit) fun _ =>
 some (decide ((0 ≤ x0.Start) ∧ ((0 ≤ x0.Count) ∧ ((x0.Start ≤ x1) ∧ (x0.Count ≤ (x1 - x0.Start))))))
theorem ref02_Fits_sound (x0 : api_Extent) (x1 : Int) {Φ : Bool → Prop} {o} (h : ref02_Fits_S x0 x1 = some o) (hK : Φ o) : ref02_Fits_W x0 x1 Φ := by
 unfold ref02_Fits_S at h
 unfold ref02_Fits_W
 exact mgS h (fun h hK => imS h fun h => imS h fun h => imS h fun h => (ofIf h).1) fun h => have t := lfS h hK; t
def ref02_change_L1_S (x1 : api_Extent) (x2 : Bool) (v13 : api_Bitmap) : (List (BitVec 64) × Int) → Option ((List (BitVec 64) × Int) ⊕ (api_Bitmap × Int))
 | (v22, v29) =>
  if inI (x1.Start + x1.Count) then
  if v29 < (x1.Start + x1.Count) then
   if x2 = true then
    if 0 ≤ v29 ∧ inI v29 then
    if inX (v29 / 64) v22.length then
    if 0 ≤ v29 then
    if inI (v29 + 1) then
    some (.inl ((put v22 (v29 / 64) ((ix v22 (v29 / 64)) ||| ((1#64) <<< ((BitVec.ofInt 64 (v29 % 64)).toNat : Int).toNat))), v29 + 1))
    else none
    else none
    else none
    else none
   else
    if 0 ≤ v29 ∧ inI v29 then
    if inX (v29 / 64) v22.length then
    if 0 ≤ v29 then
    if inI (v29 + 1) then
    some (.inl ((put v22 (v29 / 64) ((ix v22 (v29 / 64)) &&& ~~~((1#64) <<< ((BitVec.ofInt 64 (v29 % 64)).toNat : Int).toNat))), v29 + 1))
    else none
    else none
    else none
    else none
  else
   some (.inr ((api_Bitmap.mk v13.Size v22), 0))
  else none
theorem ref02_change_L1_sound (x1 : api_Extent) (x2 : Bool) (v13 : api_Bitmap) (s : List (BitVec 64) × Int) {Φ : api_Bitmap × Int → Prop} {rec1 : (List (BitVec 64) × Int) → Prop} {o} (h : ref02_change_L1_S x1 x2 v13 s = some o) (hK : (orK rec1 Φ) o) : ref02_change_L1 x1 x2 v13 Φ s rec1 := by
 obtain ⟨v22, v29⟩ := s
 unfold ref02_change_L1_S at h
 unfold ref02_change_L1
 exact adS h fun h => ifS h (fun h => ifS h (fun h => adS h fun h => adS h fun h => adS h fun h => adS h fun h => have t := lfS h hK; t) fun h => adS h fun h => adS h fun h => adS h fun h => adS h fun h => have t := lfS h hK; t) fun h => have t := lfS h hK; t
def ref02_change_S (x0 : api_Bitmap) (x1 : api_Extent) (x2 : Bool) : Option (api_Bitmap × Int) :=
 Option.bind (ref02_Check_S x0) fun v5 =>
 if v5 ≠ 0 then
  some (((api_Bitmap.mk 0 ([] : List (BitVec 64))), 3))
 else
  Option.bind (ref02_Fits_S x1 x0.Size) fun v9 =>
  if ¬ (v9 = true) then
   some (((api_Bitmap.mk 0 ([] : List (BitVec 64))), 2))
  else
   Option.bind (ref02_Copy_S x0) fun v13 =>
   loopS (ref02_change_L1_S x1 x2 v13) 100000 (v13.Words, x1.Start)
theorem ref02_change_sound (x0 : api_Bitmap) (x1 : api_Extent) (x2 : Bool) {Φ : api_Bitmap × Int → Prop} {o} (h : ref02_change_S x0 x1 x2 = some o) (hK : Φ o) : ref02_change_W x0 x1 x2 Φ := by
 unfold ref02_change_S at h
 unfold ref02_change_W
 exact blS h fun _ hv h => ref02_Check_sound _ hv (ifS h (fun h => have t := lfS h hK; t) fun h => blS h fun _ hv h => ref02_Fits_sound _ _ hv (ifS h (fun h => have t := lfS h hK; t) fun h => blS h fun _ hv h => ref02_Copy_sound _ hv (LoopW.of_S (fun s q rec hs hq => ref02_change_L1_sound _ _ _ s hs hq) _ _ h hK)))
def ref02_Set_S (x0 : api_Bitmap) (x1 : api_Extent) : Option (api_Bitmap × Int) :=
 Option.bind (ref02_change_S x0 x1 true) fun v5 =>
 some ((v5.1, v5.2))
theorem ref02_Set_sound (x0 : api_Bitmap) (x1 : api_Extent) {Φ : api_Bitmap × Int → Prop} {o} (h : ref02_Set_S x0 x1 = some o) (hK : Φ o) : ref02_Set_W x0 x1 Φ := by
 unfold ref02_Set_S at h
 unfold ref02_Set_W
 exact blS h fun _ hv h => ref02_change_sound _ _ _ hv (have t := lfS h hK; t)
def ref43_Mark_L2_S (x1 : List api_Write) : (List api_Bitmap × Int) → Option ((List api_Bitmap × Int) ⊕ ((List api_Bitmap × Int) ⊕ (List api_Bitmap)))
 | (v40, v47) =>
  if v47 < (x1.length : Int) then
   if inX v47 x1.length then
   if inX ((ix x1 v47).Volume) v40.length then
   Option.bind (ref02_Set_S (ix v40 ((ix x1 v47).Volume)) (api_Extent.mk ((ix x1 v47).Start) (((ix x1 v47).Data).length : Int))) fun v77 =>
   if inI (v47 + 1) then
   some (.inl ((put v40 ((ix x1 v47).Volume) v77.1), v47 + 1))
   else none
   else none
   else none
  else
   some (.inr (.inr v40))
theorem ref43_Mark_L2_sound (x1 : List api_Write) (s : List api_Bitmap × Int) {Φ : List api_Bitmap → Prop} {rec1 : (List api_Bitmap × Int) → Prop} {rec2 : (List api_Bitmap × Int) → Prop} {o} (h : ref43_Mark_L2_S x1 s = some o) (hK : (orK rec2 (orK rec1 Φ)) o) : ref43_Mark_L2 x1 Φ s rec2 := by
 obtain ⟨v40, v47⟩ := s
 unfold ref43_Mark_L2_S at h
 unfold ref43_Mark_L2
 exact ifS h (fun h => adS h fun h => adS h fun h => blS h fun v hv h => ⟨v, ref02_Set_sound _ _ hv rfl, adS h fun h => have t := lfS h hK; t⟩) fun h => have t := lfS h hK; t
def ref43_Mark_L1_S (x0 : List api_Bitmap) (x1 : List api_Write) : (List api_Bitmap × Int) → Option ((List api_Bitmap × Int) ⊕ (List api_Bitmap))
 | (v5, v12) =>
  if v12 < (x0.length : Int) then
   if inX v12 x0.length then
   Option.bind (ref02_Copy_S (ix x0 v12)) fun v19 =>
   if lenOk (v5 ++ ([v19] : List api_Bitmap)).length 32 then
   if inI (v12 + 1) then
   some (.inl ((v5 ++ ([v19] : List api_Bitmap)), v12 + 1))
   else none
   else none
   else none
  else
   loopS (ref43_Mark_L2_S x1) 100000 (v5, 0)
theorem ref43_Mark_L1_sound (x0 : List api_Bitmap) (x1 : List api_Write) (s : List api_Bitmap × Int) {Φ : List api_Bitmap → Prop} {rec1 : (List api_Bitmap × Int) → Prop} {o} (h : ref43_Mark_L1_S x0 x1 s = some o) (hK : (orK rec1 Φ) o) : ref43_Mark_L1 x0 x1 Φ s rec1 := by
 obtain ⟨v5, v12⟩ := s
 unfold ref43_Mark_L1_S at h
 unfold ref43_Mark_L1
 exact ifS h (fun h => adS h fun h => blS h fun _ hv h => ref02_Copy_sound _ hv (adS h fun h => adS h fun h => have t := lfS h hK; t)) fun h => LoopW.of_S (fun s q rec hs hq => ref43_Mark_L2_sound _ s hs hq) _ _ h hK
def ref43_Mark_S (x0 : List api_Bitmap) (x1 : List api_Write) : Option (List api_Bitmap) :=
 loopS (ref43_Mark_L1_S x0 x1) 100000 (([] : List api_Bitmap), 0)
theorem ref43_Mark_sound (x0 : List api_Bitmap) (x1 : List api_Write) {Φ : List api_Bitmap → Prop} {o} (h : ref43_Mark_S x0 x1 = some o) (hK : Φ o) : ref43_Mark_W x0 x1 Φ := by
 unfold ref43_Mark_S at h
 unfold ref43_Mark_W
 exact LoopW.of_S (fun s q rec hs hq => ref43_Mark_L1_sound _ _ s hs hq) _ _ h hK
def law47_point_S (x0 : Int) (x1 : List (List Sec)) (x2 : List api_Span) (x3 : List api_Write) : Option (api_Point) :=
 Option.bind (ref07_Apply_S x1 x3) fun v5 =>
 Option.bind (ref07_SizesOf_S x1) fun v12 =>
 Option.bind (ref43_Clean_S v12) fun v21 =>
 Option.bind (ref43_Mark_S v21 x3) fun v30 =>
 some ((api_Point.mk x0 x2 v30 v5.1))
theorem law47_point_sound (x0 : Int) (x1 : List (List Sec)) (x2 : List api_Span) (x3 : List api_Write) {Φ : api_Point → Prop} {o} (h : law47_point_S x0 x1 x2 x3 = some o) (hK : Φ o) : law47_point_W x0 x1 x2 x3 Φ := by
 unfold law47_point_S at h
 unfold law47_point_W
 exact blS h fun _ hv h => ref07_Apply_sound _ _ hv (blS h fun _ hv h => ref07_SizesOf_sound _ hv (blS h fun _ hv h => ref43_Clean_sound _ hv (blS h fun _ hv h => ref43_Mark_sound _ _ hv (have t := lfS h hK; t))))
def delta_in_S (x0 : Int) (x1 : Int) : Option (Bool) :=
 some (decide ((x1 ≤ x0) ∧ (x0 ≤ 1073741824)))
theorem delta_in_sound (x0 : Int) (x1 : Int) {Φ : Bool → Prop} {o} (h : delta_in_S x0 x1 = some o) (hK : Φ o) : delta_in_W x0 x1 Φ := by
 unfold delta_in_S at h
 unfold delta_in_W
 exact have t := lfS h hK; t
def delta_correct_L1_S (x0 : List api_Span) : (Int × Int × Int × Int) → Option ((Int × Int × Int × Int) ⊕ (Bool))
 | (v5, _, v7, v8) =>
  if v8 < (x0.length : Int) then
   if inX v8 x0.length then
   if inI (v7 + 1) then
   if ((ix x0 v8).From) ≠ (v7 + 1) then
    some (.inr false)
   else
    if ((ix x0 v8).To) < ((ix x0 v8).From) then
     some (.inr false)
    else
     if 1073741824 < ((ix x0 v8).To) then
      some (.inr false)
     else
      Option.bind (delta_in_S ((ix x0 v8).Epoch) 1) fun v30 =>
      if ¬ (v30 = true) then
       some (.inr false)
      else
       if ((ix x0 v8).Epoch) ≤ v5 then
        some (.inr false)
       else
        if inI (v8 + 1) then
        some (.inl ((ix x0 v8).Epoch, (ix x0 v8).From, (ix x0 v8).To, v8 + 1))
        else none
   else none
   else none
  else
   some (.inr true)
theorem delta_correct_L1_sound (x0 : List api_Span) (s : Int × Int × Int × Int) {Φ : Bool → Prop} {rec1 : (Int × Int × Int × Int) → Prop} {o} (h : delta_correct_L1_S x0 s = some o) (hK : (orK rec1 Φ) o) : delta_correct_L1 x0 Φ s rec1 := by
 obtain ⟨v5, v6, v7, v8⟩ := s
 unfold delta_correct_L1_S at h
 unfold delta_correct_L1
 exact ifS h (fun h => adS h fun h => adS h fun h => ifS h (fun h => have t := lfS h hK; t) fun h => ifS h (fun h => have t := lfS h hK; t) fun h => ifS h (fun h => have t := lfS h hK; t) fun h => blS h fun _ hv h => delta_in_sound _ _ hv (ifS h (fun h => have t := lfS h hK; t) fun h => ifS h (fun h => have t := lfS h hK; t) fun h => adS h fun h => have t := lfS h hK; t)) fun h => have t := lfS h hK; t
def delta_correct_S (x0 : List api_Span) : Option (Bool) :=
 loopS (delta_correct_L1_S x0) 100000 (0, 0, 0, 0)
theorem delta_correct_sound (x0 : List api_Span) {Φ : Bool → Prop} {o} (h : delta_correct_S x0 = some o) (hK : Φ o) : delta_correct_W x0 Φ := by
 unfold delta_correct_S at h
 unfold delta_correct_W
 exact LoopW.of_S (fun s q rec hs hq => delta_correct_L1_sound _ s hs hq) _ _ h hK
def image_sizes_1_S (x0 : List Sec) : Option (Int) :=
 some ((x0.length : Int))
theorem image_sizes_1_sound (x0 : List Sec) {Φ : Int → Prop} {o} (h : image_sizes_1_S x0 = some o) (hK : Φ o) : image_sizes_1_W x0 Φ := by
 unfold image_sizes_1_S at h
 unfold image_sizes_1_W
 exact have t := lfS h hK; t
def image_mapped_api_Sector_int__image_sizes_1_L1_S (x0 : List (List Sec)) : (List Int × Int) → Option ((List Int × Int) ⊕ (List Int))
 | (v12, v19) =>
  if v19 < (x0.length : Int) then
   if inX v19 x0.length then
   Option.bind (image_sizes_1_S (ix x0 v19)) fun v26 =>
   if lenOk (v12 ++ ([v26] : List Int)).length 8 then
   if inI (v19 + 1) then
   some (.inl ((v12 ++ ([v26] : List Int)), v19 + 1))
   else none
   else none
   else none
  else
   some (.inr v12)
theorem image_mapped_api_Sector_int__image_sizes_1_L1_sound (x0 : List (List Sec)) (s : List Int × Int) {Φ : List Int → Prop} {rec1 : (List Int × Int) → Prop} {o} (h : image_mapped_api_Sector_int__image_sizes_1_L1_S x0 s = some o) (hK : (orK rec1 Φ) o) : image_mapped_api_Sector_int__image_sizes_1_L1 x0 Φ s rec1 := by
 obtain ⟨v12, v19⟩ := s
 unfold image_mapped_api_Sector_int__image_sizes_1_L1_S at h
 unfold image_mapped_api_Sector_int__image_sizes_1_L1
 exact ifS h (fun h => adS h fun h => blS h fun _ hv h => image_sizes_1_sound _ hv (adS h fun h => adS h fun h => have t := lfS h hK; t)) fun h => have t := lfS h hK; t
def image_mapped_api_Sector_int__image_sizes_1_S (x0 : List (List Sec)) : Option (List Int) :=
 if 0 ≤ (x0.length : Int) then
 if lenOk (x0.length : Int).toNat 8 then
 loopS (image_mapped_api_Sector_int__image_sizes_1_L1_S x0) 100000 (([] : List Int), 0)
 else none
 else none
theorem image_mapped_api_Sector_int__image_sizes_1_sound (x0 : List (List Sec)) {Φ : List Int → Prop} {o} (h : image_mapped_api_Sector_int__image_sizes_1_S x0 = some o) (hK : Φ o) : image_mapped_api_Sector_int__image_sizes_1_W x0 Φ := by
 unfold image_mapped_api_Sector_int__image_sizes_1_S at h
 unfold image_mapped_api_Sector_int__image_sizes_1_W
 exact adS h fun h => adS h fun h => LoopW.of_S (fun s q rec hs hq => image_mapped_api_Sector_int__image_sizes_1_L1_sound _ s hs hq) _ _ h hK
def image_sizes_S (x0 : List (List Sec)) : Option (List Int) :=
 Option.bind (image_mapped_api_Sector_int__image_sizes_1_S x0) fun v2 =>
 some (v2)
theorem image_sizes_sound (x0 : List (List Sec)) {Φ : List Int → Prop} {o} (h : image_sizes_S x0 = some o) (hK : Φ o) : image_sizes_W x0 Φ := by
 unfold image_sizes_S at h
 unfold image_sizes_W
 exact blS h fun _ hv h => image_mapped_api_Sector_int__image_sizes_1_sound _ hv (have t := lfS h hK; t)
def image_checkSizes_1_S (x0 : Int) : Option (Bool) :=
 some (decide ((x0 < 1) ∨ (4096 < x0)))
theorem image_checkSizes_1_sound (x0 : Int) {Φ : Bool → Prop} {o} (h : image_checkSizes_1_S x0 = some o) (hK : Φ o) : image_checkSizes_1_W x0 Φ := by
 unfold image_checkSizes_1_S at h
 unfold image_checkSizes_1_W
 exact have t := lfS h hK; t
def slices_IndexFunc_int_int__image_checkSizes_1_L1_S (x0 : List Int) : (Int) → Option ((Int) ⊕ (Int))
 | (v4) =>
  if v4 < (x0.length : Int) then
   if inX v4 x0.length then
   Option.bind (image_checkSizes_1_S (ix x0 v4)) fun v10 =>
   if v10 = true then
    some (.inr v4)
   else
    if inI (v4 + 1) then
    some (.inl (v4 + 1))
    else none
   else none
  else
   some (.inr (-1))
theorem slices_IndexFunc_int_int__image_checkSizes_1_L1_sound (x0 : List Int) (s : Int) {Φ : Int → Prop} {rec1 : (Int) → Prop} {o} (h : slices_IndexFunc_int_int__image_checkSizes_1_L1_S x0 s = some o) (hK : (orK rec1 Φ) o) : slices_IndexFunc_int_int__image_checkSizes_1_L1 x0 Φ s rec1 := by
 unfold slices_IndexFunc_int_int__image_checkSizes_1_L1_S at h
 unfold slices_IndexFunc_int_int__image_checkSizes_1_L1
 exact ifS h (fun h => adS h fun h => blS h fun _ hv h => image_checkSizes_1_sound _ hv (ifS h (fun h => have t := lfS h hK; t) fun h => adS h fun h => have t := lfS h hK; t)) fun h => have t := lfS h hK; t
def slices_IndexFunc_int_int__image_checkSizes_1_S (x0 : List Int) : Option (Int) :=
 loopS (slices_IndexFunc_int_int__image_checkSizes_1_L1_S x0) 100000 (0)
theorem slices_IndexFunc_int_int__image_checkSizes_1_sound (x0 : List Int) {Φ : Int → Prop} {o} (h : slices_IndexFunc_int_int__image_checkSizes_1_S x0 = some o) (hK : Φ o) : slices_IndexFunc_int_int__image_checkSizes_1_W x0 Φ := by
 unfold slices_IndexFunc_int_int__image_checkSizes_1_S at h
 unfold slices_IndexFunc_int_int__image_checkSizes_1_W
 exact LoopW.of_S (fun s q rec hs hq => slices_IndexFunc_int_int__image_checkSizes_1_L1_sound _ s hs hq) _ _ h hK
def slices_ContainsFunc_int_int__image_checkSizes_1_S (x0 : List Int) : Option (Bool) :=
 Option.bind (slices_IndexFunc_int_int__image_checkSizes_1_S x0) fun v2 =>
 some (decide (0 ≤ v2))
theorem slices_ContainsFunc_int_int__image_checkSizes_1_sound (x0 : List Int) {Φ : Bool → Prop} {o} (h : slices_ContainsFunc_int_int__image_checkSizes_1_S x0 = some o) (hK : Φ o) : slices_ContainsFunc_int_int__image_checkSizes_1_W x0 Φ := by
 unfold slices_ContainsFunc_int_int__image_checkSizes_1_S at h
 unfold slices_ContainsFunc_int_int__image_checkSizes_1_W
 exact blS h fun _ hv h => slices_IndexFunc_int_int__image_checkSizes_1_sound _ hv (have t := lfS h hK; t)
def image_checkSizes_S (x0 : List Int) : Option (Int) :=
 if ((x0.length : Int) < 1) ∨ (8 < (x0.length : Int)) then
  some (6)
 else
  Option.bind (slices_ContainsFunc_int_int__image_checkSizes_1_S x0) fun v4 =>
  if v4 = true then
   some (2)
  else
   some (0)
theorem image_checkSizes_sound (x0 : List Int) {Φ : Int → Prop} {o} (h : image_checkSizes_S x0 = some o) (hK : Φ o) : image_checkSizes_W x0 Φ := by
 unfold image_checkSizes_S at h
 unfold image_checkSizes_W
 exact ifS h (fun h => have t := lfS h hK; t) fun h => blS h fun _ hv h => slices_ContainsFunc_int_int__image_checkSizes_1_sound _ hv (ifS h (fun h => have t := lfS h hK; t) fun h => have t := lfS h hK; t)
def image_Check_S (x0 : List (List Sec)) : Option (Int) :=
 Option.bind (image_sizes_S x0) fun v2 =>
 Option.bind (image_checkSizes_S v2) fun v11 =>
 some (v11)
theorem image_Check_sound (x0 : List (List Sec)) {Φ : Int → Prop} {o} (h : image_Check_S x0 = some o) (hK : Φ o) : image_Check_W x0 Φ := by
 unfold image_Check_S at h
 unfold image_Check_W
 exact blS h fun _ hv h => image_sizes_sound _ hv (blS h fun _ hv h => image_checkSizes_sound _ hv (have t := lfS h hK; t))
def bitmap_words_S (x0 : Int) : Option (Int) :=
 if inI (x0 + 64) then
 if inI ((x0 + 64) - 1) then
 if 0 ≤ ((x0 + 64) - 1) ∧ inI ((x0 + 64) - 1) then
 some (((x0 + 64) - 1) / 64)
 else none
 else none
 else none
theorem bitmap_words_sound (x0 : Int) {Φ : Int → Prop} {o} (h : bitmap_words_S x0 = some o) (hK : Φ o) : bitmap_words_W x0 Φ := by
 unfold bitmap_words_S at h
 unfold bitmap_words_W
 exact adS h fun h => adS h fun h => adS h fun h => have t := lfS h hK; t
def bitmap_Check_J1_S (x0 : api_Bitmap) : Option (Int) :=
 if 0 ≤ x0.Size then
 Option.bind (
  if 0 < (x0.Size % 64) then
   if inI ((x0.Words.length : Int) - 1) then
   if inX ((x0.Words.length : Int) - 1) x0.Words.length then
   if 0 ≤ (x0.Size % 64) then some () else none
   else none
   else none
  else some () : Option Unit) fun _ =>
 if (0 < (x0.Size % 64)) ∧ (((ix x0.Words ((x0.Words.length : Int) - 1)) >>> (x0.Size % 64 : Int).toNat) ≠ (0#64)) then
  some (3)
 else
  some (0)
 else none
theorem bitmap_Check_J1_sound (x0 : api_Bitmap) {Φ : Int → Prop} {o} (h : bitmap_Check_J1_S x0 = some o) (hK : Φ o) : bitmap_Check_J1 x0 Φ := by
 unfold bitmap_Check_J1_S at h
 unfold bitmap_Check_J1
 exact adS h fun h => mgS h (fun h hK => imS h fun h => adS h fun h => adS h fun h => (ofIf h).1) fun h => ifS h (fun h => have t := lfS h hK; t) fun h => have t := lfS h hK; t
def bitmap_Check_S (x0 : api_Bitmap) : Option (Int) :=
 if x0.Size < 0 then
  some (3)
 else
  if 4096 < x0.Size then
   some (3)
  else
   Option.bind (bitmap_words_S x0.Size) fun v19 =>
   if (x0.Words.length : Int) ≠ v19 then
    some (3)
   else
    bitmap_Check_J1_S x0
theorem bitmap_Check_sound (x0 : api_Bitmap) {Φ : Int → Prop} {o} (h : bitmap_Check_S x0 = some o) (hK : Φ o) : bitmap_Check_W x0 Φ := by
 unfold bitmap_Check_S at h
 unfold bitmap_Check_W
 exact ifS h (fun h => have t := lfS h hK; t) fun h => ifS h (fun h => have t := lfS h hK; t) fun h => blS h fun v hv h => ⟨v, bitmap_words_sound _ hv rfl, ifS h (fun h => have t := lfS h hK; t) fun h => bitmap_Check_J1_sound _ h hK⟩
def delta_Check_L1_S (x0 : api_Point) : (Int) → Option ((Int) ⊕ (Int))
 | (v20) =>
  if v20 < (x0.Dirty.length : Int) then
   if inX v20 x0.Dirty.length then
   Option.bind (bitmap_Check_S (ix x0.Dirty v20)) fun v28 =>
   if v28 ≠ 0 then
    some (.inr v28)
   else
    if inX v20 x0.Image.length then
    if ((ix x0.Dirty v20).Size) ≠ ((ix x0.Image v20).length : Int) then
     some (.inr 22)
    else
     if inI (v20 + 1) then
     some (.inl (v20 + 1))
     else none
    else none
   else none
  else
   some (.inr 0)
theorem delta_Check_L1_sound (x0 : api_Point) (s : Int) {Φ : Int → Prop} {rec1 : (Int) → Prop} {o} (h : delta_Check_L1_S x0 s = some o) (hK : (orK rec1 Φ) o) : delta_Check_L1 x0 Φ s rec1 := by
 unfold delta_Check_L1_S at h
 unfold delta_Check_L1
 exact ifS h (fun h => adS h fun h => blS h fun _ hv h => bitmap_Check_sound _ hv (ifS h (fun h => have t := lfS h hK; t) fun h => adS h fun h => ifS h (fun h => have t := lfS h hK; t) fun h => adS h fun h => have t := lfS h hK; t)) fun h => have t := lfS h hK; t
def delta_Check_S (x0 : api_Point) : Option (Int) :=
 Option.bind (delta_in_S x0.Site 0) fun v5 =>
 if ¬ (v5 = true) then
  some (2)
 else
  Option.bind (delta_correct_S x0.Lineage) fun v9 =>
  if ¬ (v9 = true) then
   some (3)
  else
   Option.bind (image_Check_S x0.Image) fun v13 =>
   if v13 ≠ 0 then
    some (v13)
   else
    if (x0.Dirty.length : Int) ≠ (x0.Image.length : Int) then
     some (6)
    else
     loopS (delta_Check_L1_S x0) 100000 (0)
theorem delta_Check_sound (x0 : api_Point) {Φ : Int → Prop} {o} (h : delta_Check_S x0 = some o) (hK : Φ o) : delta_Check_W x0 Φ := by
 unfold delta_Check_S at h
 unfold delta_Check_W
 exact blS h fun _ hv h => delta_in_sound _ _ hv (ifS h (fun h => have t := lfS h hK; t) fun h => blS h fun _ hv h => delta_correct_sound _ hv (ifS h (fun h => have t := lfS h hK; t) fun h => blS h fun _ hv h => image_Check_sound _ hv (ifS h (fun h => have t := lfS h hK; t) fun h => ifS h (fun h => have t := lfS h hK; t) fun h => LoopW.of_S (fun s q rec hs hq => delta_Check_L1_sound _ s hs hq) _ _ h hK)))
def reverse_last_S (x0 : List api_Span) : Option (Int) :=
 if (x0.length : Int) = 0 then
  some (0)
 else
  if inI ((x0.length : Int) - 1) then
  if inX ((x0.length : Int) - 1) x0.length then
  some ((ix x0 ((x0.length : Int) - 1)).To)
  else none
  else none
theorem reverse_last_sound (x0 : List api_Span) {Φ : Int → Prop} {o} (h : reverse_last_S x0 = some o) (hK : Φ o) : reverse_last_W x0 Φ := by
 unfold reverse_last_S at h
 unfold reverse_last_W
 exact ifS h (fun h => have t := lfS h hK; t) fun h => adS h fun h => adS h fun h => have t := lfS h hK; t
def reverse_Undo_1_S (_ : Int) (x1 : api_Bitmap) : Option (List api_Extent) :=
 Option.bind (bitmap_Extents_S x1) fun v3 =>
 some (v3)
theorem reverse_Undo_1_sound (x0 : Int) (x1 : api_Bitmap) {Φ : List api_Extent → Prop} {o} (h : reverse_Undo_1_S x0 x1 = some o) (hK : Φ o) : reverse_Undo_1_W x0 x1 Φ := by
 unfold reverse_Undo_1_S at h
 unfold reverse_Undo_1_W
 exact blS h fun _ hv h => bitmap_Extents_sound _ hv (have t := lfS h hK; t)
def reverse_volumes_api_Extent__reverse_Undo_1_L1_S (x0 : List api_Bitmap) : (List (List api_Extent) × Int) → Option ((List (List api_Extent) × Int) ⊕ (List (List api_Extent)))
 | (v4, v11) =>
  if v11 < (x0.length : Int) then
   if inX v11 x0.length then
   Option.bind (reverse_Undo_1_S v11 (ix x0 v11)) fun v19 =>
   if lenOk (v4 ++ ([v19] : List (List api_Extent))).length 24 then
   if inI (v11 + 1) then
   some (.inl ((v4 ++ ([v19] : List (List api_Extent))), v11 + 1))
   else none
   else none
   else none
  else
   some (.inr v4)
theorem reverse_volumes_api_Extent__reverse_Undo_1_L1_sound (x0 : List api_Bitmap) (s : List (List api_Extent) × Int) {Φ : List (List api_Extent) → Prop} {rec1 : (List (List api_Extent) × Int) → Prop} {o} (h : reverse_volumes_api_Extent__reverse_Undo_1_L1_S x0 s = some o) (hK : (orK rec1 Φ) o) : reverse_volumes_api_Extent__reverse_Undo_1_L1 x0 Φ s rec1 := by
 obtain ⟨v4, v11⟩ := s
 unfold reverse_volumes_api_Extent__reverse_Undo_1_L1_S at h
 unfold reverse_volumes_api_Extent__reverse_Undo_1_L1
 exact ifS h (fun h => adS h fun h => blS h fun _ hv h => reverse_Undo_1_sound _ _ hv (adS h fun h => adS h fun h => have t := lfS h hK; t)) fun h => have t := lfS h hK; t
def reverse_volumes_api_Extent__reverse_Undo_1_S (x0 : List api_Bitmap) : Option (List (List api_Extent)) :=
 loopS (reverse_volumes_api_Extent__reverse_Undo_1_L1_S x0) 100000 (([] : List (List api_Extent)), 0)
theorem reverse_volumes_api_Extent__reverse_Undo_1_sound (x0 : List api_Bitmap) {Φ : List (List api_Extent) → Prop} {o} (h : reverse_volumes_api_Extent__reverse_Undo_1_S x0 = some o) (hK : Φ o) : reverse_volumes_api_Extent__reverse_Undo_1_W x0 Φ := by
 unfold reverse_volumes_api_Extent__reverse_Undo_1_S at h
 unfold reverse_volumes_api_Extent__reverse_Undo_1_W
 exact LoopW.of_S (fun s q rec hs hq => reverse_volumes_api_Extent__reverse_Undo_1_L1_sound _ s hs hq) _ _ h hK
def reverse_Undo_S (x0 : api_Point) (x1 : Int) : Option (List (List api_Extent) × Int) :=
 Option.bind (delta_Check_S x0) fun v5 =>
 if v5 ≠ 0 then
  some ((([] : List (List api_Extent)), v5))
 else
  if x1 < 0 then
   some ((([] : List (List api_Extent)), 2))
  else
   Option.bind (reverse_last_S x0.Lineage) fun v28 =>
   if v28 < x1 then
    some ((([] : List (List api_Extent)), 2))
   else
    Option.bind (reverse_volumes_api_Extent__reverse_Undo_1_S x0.Dirty) fun v32 =>
    some ((v32, 0))
theorem reverse_Undo_sound (x0 : api_Point) (x1 : Int) {Φ : List (List api_Extent) × Int → Prop} {o} (h : reverse_Undo_S x0 x1 = some o) (hK : Φ o) : reverse_Undo_W x0 x1 Φ := by
 unfold reverse_Undo_S at h
 unfold reverse_Undo_W
 exact blS h fun _ hv h => delta_Check_sound _ hv (ifS h (fun h => have t := lfS h hK; t) fun h => ifS h (fun h => have t := lfS h hK; t) fun h => blS h fun _ hv h => reverse_last_sound _ hv (ifS h (fun h => have t := lfS h hK; t) fun h => blS h fun _ hv h => reverse_volumes_api_Extent__reverse_Undo_1_sound _ hv (have t := lfS h hK; t)))
def delta_alike_1_S (x0 : List Sec) (x1 : List Sec) : Option (Bool) :=
 some (decide ((x0.length : Int) = (x1.length : Int)))
theorem delta_alike_1_sound (x0 : List Sec) (x1 : List Sec) {Φ : Bool → Prop} {o} (h : delta_alike_1_S x0 x1 = some o) (hK : Φ o) : delta_alike_1_W x0 x1 Φ := by
 unfold delta_alike_1_S at h
 unfold delta_alike_1_W
 exact have t := lfS h hK; t
def slices_EqualFunc_api_Image_api_Image_api_Sector_api_Sector__delta_alike_1_L1_S (x0 : List (List Sec)) (x1 : List (List Sec)) : (Int) → Option ((Int) ⊕ (Bool))
 | (v6) =>
  if v6 < (x0.length : Int) then
   if inX v6 x0.length then
   if inX v6 x1.length then
   Option.bind (delta_alike_1_S (ix x0 v6) (ix x1 v6)) fun v16 =>
   if ¬ (v16 = true) then
    some (.inr false)
   else
    if inI (v6 + 1) then
    some (.inl (v6 + 1))
    else none
   else none
   else none
  else
   some (.inr true)
theorem slices_EqualFunc_api_Image_api_Image_api_Sector_api_Sector__delta_alike_1_L1_sound (x0 : List (List Sec)) (x1 : List (List Sec)) (s : Int) {Φ : Bool → Prop} {rec1 : (Int) → Prop} {o} (h : slices_EqualFunc_api_Image_api_Image_api_Sector_api_Sector__delta_alike_1_L1_S x0 x1 s = some o) (hK : (orK rec1 Φ) o) : slices_EqualFunc_api_Image_api_Image_api_Sector_api_Sector__delta_alike_1_L1 x0 x1 Φ s rec1 := by
 unfold slices_EqualFunc_api_Image_api_Image_api_Sector_api_Sector__delta_alike_1_L1_S at h
 unfold slices_EqualFunc_api_Image_api_Image_api_Sector_api_Sector__delta_alike_1_L1
 exact ifS h (fun h => adS h fun h => adS h fun h => blS h fun _ hv h => delta_alike_1_sound _ _ hv (ifS h (fun h => have t := lfS h hK; t) fun h => adS h fun h => have t := lfS h hK; t)) fun h => have t := lfS h hK; t
def slices_EqualFunc_api_Image_api_Image_api_Sector_api_Sector__delta_alike_1_S (x0 : List (List Sec)) (x1 : List (List Sec)) : Option (Bool) :=
 if (x0.length : Int) ≠ (x1.length : Int) then
  some (false)
 else
  loopS (slices_EqualFunc_api_Image_api_Image_api_Sector_api_Sector__delta_alike_1_L1_S x0 x1) 100000 (0)
theorem slices_EqualFunc_api_Image_api_Image_api_Sector_api_Sector__delta_alike_1_sound (x0 : List (List Sec)) (x1 : List (List Sec)) {Φ : Bool → Prop} {o} (h : slices_EqualFunc_api_Image_api_Image_api_Sector_api_Sector__delta_alike_1_S x0 x1 = some o) (hK : Φ o) : slices_EqualFunc_api_Image_api_Image_api_Sector_api_Sector__delta_alike_1_W x0 x1 Φ := by
 unfold slices_EqualFunc_api_Image_api_Image_api_Sector_api_Sector__delta_alike_1_S at h
 unfold slices_EqualFunc_api_Image_api_Image_api_Sector_api_Sector__delta_alike_1_W
 exact ifS h (fun h => have t := lfS h hK; t) fun h => LoopW.of_S (fun s q rec hs hq => slices_EqualFunc_api_Image_api_Image_api_Sector_api_Sector__delta_alike_1_L1_sound _ _ s hs hq) _ _ h hK
def delta_alike_S (x0 : List (List Sec)) (x1 : List (List Sec)) : Option (Bool) :=
 Option.bind (slices_EqualFunc_api_Image_api_Image_api_Sector_api_Sector__delta_alike_1_S x0 x1) fun v3 =>
 some (v3)
theorem delta_alike_sound (x0 : List (List Sec)) (x1 : List (List Sec)) {Φ : Bool → Prop} {o} (h : delta_alike_S x0 x1 = some o) (hK : Φ o) : delta_alike_W x0 x1 Φ := by
 unfold delta_alike_S at h
 unfold delta_alike_W
 exact blS h fun _ hv h => slices_EqualFunc_api_Image_api_Image_api_Sector_api_Sector__delta_alike_1_sound _ _ hv (have t := lfS h hK; t)
def bitmap_Or_1_S (x0 : BitVec 64) (x1 : BitVec 64) : Option (BitVec 64) :=
 some (x0 ||| x1)
theorem bitmap_Or_1_sound (x0 : BitVec 64) (x1 : BitVec 64) {Φ : BitVec 64 → Prop} {o} (h : bitmap_Or_1_S x0 x1 = some o) (hK : Φ o) : bitmap_Or_1_W x0 x1 Φ := by
 unfold bitmap_Or_1_S at h
 unfold bitmap_Or_1_W
 exact have t := lfS h hK; t
def bitmap_both__bitmap_Or_1_L1_S (x0 : api_Bitmap) (x1 : api_Bitmap) : (List (BitVec 64) × Int) → Option ((List (BitVec 64) × Int) ⊕ (api_Bitmap × Int))
 | (v25, v32) =>
  if v32 < ((List.replicate (x0.Words.length : Int).toNat (0#64)).length : Int) then
   if inX v32 x0.Words.length then
   if inX v32 x1.Words.length then
   Option.bind (bitmap_Or_1_S (ix x0.Words v32) (ix x1.Words v32)) fun v40 =>
   if inX v32 v25.length then
   if inI (v32 + 1) then
   some (.inl ((put v25 v32 v40), v32 + 1))
   else none
   else none
   else none
   else none
  else
   some (.inr ((api_Bitmap.mk x0.Size v25), 0))
theorem bitmap_both__bitmap_Or_1_L1_sound (x0 : api_Bitmap) (x1 : api_Bitmap) (s : List (BitVec 64) × Int) {Φ : api_Bitmap × Int → Prop} {rec1 : (List (BitVec 64) × Int) → Prop} {o} (h : bitmap_both__bitmap_Or_1_L1_S x0 x1 s = some o) (hK : (orK rec1 Φ) o) : bitmap_both__bitmap_Or_1_L1 x0 x1 Φ s rec1 := by
 obtain ⟨v25, v32⟩ := s
 unfold bitmap_both__bitmap_Or_1_L1_S at h
 unfold bitmap_both__bitmap_Or_1_L1
 exact ifS h (fun h => adS h fun h => adS h fun h => blS h fun v hv h => ⟨v, bitmap_Or_1_sound _ _ hv rfl, adS h fun h => adS h fun h => have t := lfS h hK; t⟩) fun h => have t := lfS h hK; t
def bitmap_both__bitmap_Or_1_S (x0 : api_Bitmap) (x1 : api_Bitmap) : Option (api_Bitmap × Int) :=
 Option.bind (bitmap_Check_S x0) fun v6 =>
 if v6 ≠ 0 then
  some (((api_Bitmap.mk 0 ([] : List (BitVec 64))), v6))
 else
  Option.bind (bitmap_Check_S x1) fun v10 =>
  if v10 ≠ 0 then
   some (((api_Bitmap.mk 0 ([] : List (BitVec 64))), v10))
  else
   if x0.Size ≠ x1.Size then
    some (((api_Bitmap.mk 0 ([] : List (BitVec 64))), 22))
   else
    if 0 ≤ (x0.Words.length : Int) then
    if lenOk (x0.Words.length : Int).toNat 8 then
    loopS (bitmap_both__bitmap_Or_1_L1_S x0 x1) 100000 ((List.replicate (x0.Words.length : Int).toNat (0#64)), 0)
    else none
    else none
theorem bitmap_both__bitmap_Or_1_sound (x0 : api_Bitmap) (x1 : api_Bitmap) {Φ : api_Bitmap × Int → Prop} {o} (h : bitmap_both__bitmap_Or_1_S x0 x1 = some o) (hK : Φ o) : bitmap_both__bitmap_Or_1_W x0 x1 Φ := by
 unfold bitmap_both__bitmap_Or_1_S at h
 unfold bitmap_both__bitmap_Or_1_W
 exact blS h fun _ hv h => bitmap_Check_sound _ hv (ifS h (fun h => have t := lfS h hK; t) fun h => blS h fun _ hv h => bitmap_Check_sound _ hv (ifS h (fun h => have t := lfS h hK; t) fun h => ifS h (fun h => have t := lfS h hK; t) fun h => adS h fun h => adS h fun h => LoopW.of_S (fun s q rec hs hq => bitmap_both__bitmap_Or_1_L1_sound _ _ s hs hq) _ _ h hK))
def bitmap_Or_S (x0 : api_Bitmap) (x1 : api_Bitmap) : Option (api_Bitmap × Int) :=
 Option.bind (bitmap_both__bitmap_Or_1_S x0 x1) fun v6 =>
 some ((v6.1, v6.2))
theorem bitmap_Or_sound (x0 : api_Bitmap) (x1 : api_Bitmap) {Φ : api_Bitmap × Int → Prop} {o} (h : bitmap_Or_S x0 x1 = some o) (hK : Φ o) : bitmap_Or_W x0 x1 Φ := by
 unfold bitmap_Or_S at h
 unfold bitmap_Or_W
 exact blS h fun _ hv h => bitmap_both__bitmap_Or_1_sound _ _ hv (have t := lfS h hK; t)
def delta_marked_L1_S (x0 : api_Point) (x1 : api_Point) : (List (List api_Extent) × Int) → Option ((List (List api_Extent) × Int) ⊕ (List (List api_Extent)))
 | (v19, v26) =>
  if v26 < ((List.replicate (x0.Dirty.length : Int).toNat ([] : List api_Extent)).length : Int) then
   if inX v26 x0.Dirty.length then
   if inX v26 x1.Dirty.length then
   Option.bind (bitmap_Or_S (ix x0.Dirty v26) (ix x1.Dirty v26)) fun v36 =>
   Option.bind (bitmap_Extents_S v36.1) fun v100 =>
   if inX v26 v19.length then
   if inI (v26 + 1) then
   some (.inl ((put v19 v26 v100), v26 + 1))
   else none
   else none
   else none
   else none
  else
   some (.inr v19)
theorem delta_marked_L1_sound (x0 : api_Point) (x1 : api_Point) (s : List (List api_Extent) × Int) {Φ : List (List api_Extent) → Prop} {rec1 : (List (List api_Extent) × Int) → Prop} {o} (h : delta_marked_L1_S x0 x1 s = some o) (hK : (orK rec1 Φ) o) : delta_marked_L1 x0 x1 Φ s rec1 := by
 obtain ⟨v19, v26⟩ := s
 unfold delta_marked_L1_S at h
 unfold delta_marked_L1
 exact ifS h (fun h => adS h fun h => adS h fun h => blS h fun v hv h => ⟨v, bitmap_Or_sound _ _ hv rfl, blS h fun _ hv h => bitmap_Extents_sound _ hv (adS h fun h => adS h fun h => have t := lfS h hK; t)⟩) fun h => have t := lfS h hK; t
def delta_marked_S (x0 : api_Point) (x1 : api_Point) : Option (List (List api_Extent)) :=
 if 0 ≤ (x0.Dirty.length : Int) then
 if lenOk (x0.Dirty.length : Int).toNat 24 then
 loopS (delta_marked_L1_S x0 x1) 100000 ((List.replicate (x0.Dirty.length : Int).toNat ([] : List api_Extent)), 0)
 else none
 else none
theorem delta_marked_sound (x0 : api_Point) (x1 : api_Point) {Φ : List (List api_Extent) → Prop} {o} (h : delta_marked_S x0 x1 = some o) (hK : Φ o) : delta_marked_W x0 x1 Φ := by
 unfold delta_marked_S at h
 unfold delta_marked_W
 exact adS h fun h => adS h fun h => LoopW.of_S (fun s q rec hs hq => delta_marked_L1_sound _ _ s hs hq) _ _ h hK
def delta_Between_L1_S (x0 : api_Point) (x1 : api_Point) : (Int) → Option ((Int) ⊕ (List (List api_Extent) × Int))
 | (v13) =>
  if v13 < (([x0, x1] : List api_Point).length : Int) then
   if inX v13 ([x0, x1] : List api_Point).length then
   Option.bind (delta_Check_S (ix ([x0, x1] : List api_Point) v13)) fun v23 =>
   if v23 ≠ 0 then
    some (.inr (([] : List (List api_Extent)), v23))
   else
    if inI (v13 + 1) then
    some (.inl (v13 + 1))
    else none
   else none
  else
   Option.bind (delta_alike_S x0.Image x1.Image) fun v28 =>
   if ¬ (v28 = true) then
    some (.inr (([] : List (List api_Extent)), 22))
   else
    Option.bind (delta_marked_S x0 x1) fun v32 =>
    some (.inr (v32, 0))
theorem delta_Between_L1_sound (x0 : api_Point) (x1 : api_Point) (s : Int) {Φ : List (List api_Extent) × Int → Prop} {rec1 : (Int) → Prop} {o} (h : delta_Between_L1_S x0 x1 s = some o) (hK : (orK rec1 Φ) o) : delta_Between_L1 x0 x1 Φ s rec1 := by
 unfold delta_Between_L1_S at h
 unfold delta_Between_L1
 exact ifS h (fun h => adS h fun h => blS h fun _ hv h => delta_Check_sound _ hv (ifS h (fun h => have t := lfS h hK; t) fun h => adS h fun h => have t := lfS h hK; t)) fun h => blS h fun _ hv h => delta_alike_sound _ _ hv (ifS h (fun h => have t := lfS h hK; t) fun h => blS h fun _ hv h => delta_marked_sound _ _ hv (have t := lfS h hK; t))
def delta_Between_S (x0 : api_Point) (x1 : api_Point) : Option (List (List api_Extent) × Int) :=
 loopS (delta_Between_L1_S x0 x1) 100000 (0)
theorem delta_Between_sound (x0 : api_Point) (x1 : api_Point) {Φ : List (List api_Extent) × Int → Prop} {o} (h : delta_Between_S x0 x1 = some o) (hK : Φ o) : delta_Between_W x0 x1 Φ := by
 unfold delta_Between_S at h
 unfold delta_Between_W
 exact LoopW.of_S (fun s q rec hs hq => delta_Between_L1_sound _ _ s hs hq) _ _ h hK
def reverse_Extents_S (x0 : api_Point) (x1 : api_Point) : Option (List (List api_Extent) × Int) :=
 Option.bind (delta_Between_S x0 x1) fun v9 =>
 some ((v9.1, v9.2))
theorem reverse_Extents_sound (x0 : api_Point) (x1 : api_Point) {Φ : List (List api_Extent) × Int → Prop} {o} (h : reverse_Extents_S x0 x1 = some o) (hK : Φ o) : reverse_Extents_W x0 x1 Φ := by
 unfold reverse_Extents_S at h
 unfold reverse_Extents_W
 exact blS h fun _ hv h => delta_Between_sound _ _ hv (have t := lfS h hK; t)
def delta_Ancestor_L3_S (x0 : List api_Span) (x1 : List api_Span) : (Int × Int × Int) → Option ((Int × Int × Int) ⊕ (Int × Int))
 | (v11, v12, v13) =>
  Option.bind (
   if v13 < (if (x1.length : Int) < (x0.length : Int) then (x1.length : Int) else (x0.length : Int)) then
    if inX v13 x0.length then
    if inX v13 x1.length then some () else none
    else none
   else some () : Option Unit) fun _ =>
  if (v13 < (if (x1.length : Int) < (x0.length : Int) then (x1.length : Int) else (x0.length : Int))) ∧ (((ix x0 v13).Epoch) = ((ix x1 v13).Epoch)) then
   if inX v13 x0.length then
   if inX v13 x1.length then
   if ((ix x0 v13).To) ≠ ((ix x1 v13).To) then
    some (.inr (if ((ix x1 v13).To) < ((ix x0 v13).To) then ((ix x1 v13).To) else ((ix x0 v13).To), (ix x0 v13).Epoch))
   else
    if inI (v13 + 1) then
    some (.inl (if ((ix x1 v13).To) < ((ix x0 v13).To) then ((ix x1 v13).To) else ((ix x0 v13).To), (ix x0 v13).Epoch, v13 + 1))
    else none
   else none
   else none
  else
   some (.inr (v11, v12))
theorem delta_Ancestor_L3_sound (x0 : List api_Span) (x1 : List api_Span) (s : Int × Int × Int) {Φ : Int × Int → Prop} {rec3 : (Int × Int × Int) → Prop} {o} (h : delta_Ancestor_L3_S x0 x1 s = some o) (hK : (orK rec3 Φ) o) : delta_Ancestor_L3 x0 x1 Φ s rec3 := by
 obtain ⟨v11, v12, v13⟩ := s
 unfold delta_Ancestor_L3_S at h
 unfold delta_Ancestor_L3
 exact mgS h (fun h hK => imS h fun h => adS h fun h => (ofIf h).1) fun h => ifS h (fun h => adS h fun h => adS h fun h => ifS h (fun h => have t := lfS h hK; t) fun h => adS h fun h => have t := lfS h hK; t) fun h => have t := lfS h hK; t
def delta_Ancestor_J1_S (x0 : List api_Span) (x1 : List api_Span) : Option (Int × Int) :=
 loopS (delta_Ancestor_L3_S x0 x1) 100000 (0, 0, 0)
theorem delta_Ancestor_J1_sound (x0 : List api_Span) (x1 : List api_Span) {Φ : Int × Int → Prop} {o} (h : delta_Ancestor_J1_S x0 x1 = some o) (hK : Φ o) : delta_Ancestor_J1 x0 x1 Φ := by
 unfold delta_Ancestor_J1_S at h
 unfold delta_Ancestor_J1
 exact LoopW.of_S (fun s q rec hs hq => delta_Ancestor_L3_sound _ _ s hs hq) _ _ h hK
def delta_Ancestor_S (x0 : List api_Span) (x1 : List api_Span) : Option (Int × Int) :=
 Option.bind (delta_correct_S x0) fun v72 =>
 if ¬ (v72 = true) then
  some ((0, 0))
 else
  Option.bind (delta_correct_S x1) fun v76 =>
  if ¬ (v76 = true) then
   some ((0, 0))
  else
   delta_Ancestor_J1_S x0 x1
theorem delta_Ancestor_sound (x0 : List api_Span) (x1 : List api_Span) {Φ : Int × Int → Prop} {o} (h : delta_Ancestor_S x0 x1 = some o) (hK : Φ o) : delta_Ancestor_W x0 x1 Φ := by
 unfold delta_Ancestor_S at h
 unfold delta_Ancestor_W
 exact blS h fun _ hv h => delta_correct_sound _ hv (ifS h (fun h => have t := lfS h hK; t) fun h => blS h fun _ hv h => delta_correct_sound _ hv (ifS h (fun h => have t := lfS h hK; t) fun h => delta_Ancestor_J1_sound _ _ h hK))
def slices_Clone_int_int_S (x0 : List Int) : Option (List Int) :=
 bothS (x0).isEmpty (
  some (([] : List Int))) (
  if lenOk (([] : List Int) ++ x0).length 8 then
  some ((([] : List Int) ++ x0))
  else none)
theorem slices_Clone_int_int_sound (x0 : List Int) {Φ : List Int → Prop} {o} (h : slices_Clone_int_int_S x0 = some o) (hK : Φ o) : slices_Clone_int_int_W x0 Φ := by
 unfold slices_Clone_int_int_S at h
 unfold slices_Clone_int_int_W
 exact nlS h (fun h => have t := lfS h hK; t) fun h => adS h fun h => have t := lfS h hK; t
def slices_Clone_api_Sector_api_Sector_S (x0 : List Sec) : Option (List Sec) :=
 bothS (x0).isEmpty (
  some (([] : List Sec))) (
  if lenOk (([] : List Sec) ++ x0).length 8 then
  some ((([] : List Sec) ++ x0))
  else none)
theorem slices_Clone_api_Sector_api_Sector_sound (x0 : List Sec) {Φ : List Sec → Prop} {o} (h : slices_Clone_api_Sector_api_Sector_S x0 = some o) (hK : Φ o) : slices_Clone_api_Sector_api_Sector_W x0 Φ := by
 unfold slices_Clone_api_Sector_api_Sector_S at h
 unfold slices_Clone_api_Sector_api_Sector_W
 exact nlS h (fun h => have t := lfS h hK; t) fun h => adS h fun h => have t := lfS h hK; t
def image_New_1_S (x0 : Int) : Option (List Sec) :=
 if 0 ≤ x0 then
 if lenOk x0.toNat 8 then
 some ((List.replicate x0.toNat sec0))
 else none
 else none
theorem image_New_1_sound (x0 : Int) {Φ : List Sec → Prop} {o} (h : image_New_1_S x0 = some o) (hK : Φ o) : image_New_1_W x0 Φ := by
 unfold image_New_1_S at h
 unfold image_New_1_W
 exact adS h fun h => adS h fun h => have t := lfS h hK; t
def image_mapped_int_api_Sector__image_New_1_L1_S (x0 : List Int) : (List (List Sec) × Int) → Option ((List (List Sec) × Int) ⊕ (List (List Sec)))
 | (v12, v20) =>
  if v20 < (x0.length : Int) then
   if inX v20 x0.length then
   Option.bind (image_New_1_S (ix x0 v20)) fun v26 =>
   if lenOk (v12 ++ [v26]).length 24 then
   if inI (v20 + 1) then
   some (.inl ((v12 ++ [v26]), v20 + 1))
   else none
   else none
   else none
  else
   some (.inr v12)
theorem image_mapped_int_api_Sector__image_New_1_L1_sound (x0 : List Int) (s : List (List Sec) × Int) {Φ : List (List Sec) → Prop} {rec1 : (List (List Sec) × Int) → Prop} {o} (h : image_mapped_int_api_Sector__image_New_1_L1_S x0 s = some o) (hK : (orK rec1 Φ) o) : image_mapped_int_api_Sector__image_New_1_L1 x0 Φ s rec1 := by
 obtain ⟨v12, v20⟩ := s
 unfold image_mapped_int_api_Sector__image_New_1_L1_S at h
 unfold image_mapped_int_api_Sector__image_New_1_L1
 exact ifS h (fun h => adS h fun h => blS h fun _ hv h => image_New_1_sound _ hv (adS h fun h => adS h fun h => have t := lfS h hK; t)) fun h => have t := lfS h hK; t
def image_mapped_int_api_Sector__image_New_1_S (x0 : List Int) : Option (List (List Sec)) :=
 if 0 ≤ (x0.length : Int) then
 if lenOk (x0.length : Int).toNat 24 then
 loopS (image_mapped_int_api_Sector__image_New_1_L1_S x0) 100000 (([] : List (List Sec)), 0)
 else none
 else none
theorem image_mapped_int_api_Sector__image_New_1_sound (x0 : List Int) {Φ : List (List Sec) → Prop} {o} (h : image_mapped_int_api_Sector__image_New_1_S x0 = some o) (hK : Φ o) : image_mapped_int_api_Sector__image_New_1_W x0 Φ := by
 unfold image_mapped_int_api_Sector__image_New_1_S at h
 unfold image_mapped_int_api_Sector__image_New_1_W
 exact adS h fun h => adS h fun h => LoopW.of_S (fun s q rec hs hq => image_mapped_int_api_Sector__image_New_1_L1_sound _ s hs hq) _ _ h hK
def image_New_S (x0 : List Int) : Option (List (List Sec) × Int) :=
 Option.bind (image_checkSizes_S x0) fun v2 =>
 if v2 ≠ 0 then
  some ((([] : List (List Sec)), v2))
 else
  Option.bind (image_mapped_int_api_Sector__image_New_1_S x0) fun v6 =>
  some ((v6, 0))
theorem image_New_sound (x0 : List Int) {Φ : List (List Sec) × Int → Prop} {o} (h : image_New_S x0 = some o) (hK : Φ o) : image_New_W x0 Φ := by
 unfold image_New_S at h
 unfold image_New_W
 exact blS h fun _ hv h => image_checkSizes_sound _ hv (ifS h (fun h => have t := lfS h hK; t) fun h => blS h fun _ hv h => image_mapped_int_api_Sector__image_New_1_sound _ hv (have t := lfS h hK; t))
def cycle_in_S (x0 : Int) (x1 : Int) (x2 : Int) : Option (Bool) :=
 some (decide ((x1 ≤ x0) ∧ (x0 ≤ x2)))
theorem cycle_in_sound (x0 : Int) (x1 : Int) (x2 : Int) {Φ : Bool → Prop} {o} (h : cycle_in_S x0 x1 x2 = some o) (hK : Φ o) : cycle_in_W x0 x1 x2 Φ := by
 unfold cycle_in_S at h
 unfold cycle_in_W
 exact have t := lfS h hK; t
def cycle_positions_1_S (x0 : Int) : Option (Bool) :=
 Option.bind (cycle_in_S x0 0 1073741824) fun v1 =>
 some (decide (¬ (v1 = true)))
theorem cycle_positions_1_sound (x0 : Int) {Φ : Bool → Prop} {o} (h : cycle_positions_1_S x0 = some o) (hK : Φ o) : cycle_positions_1_W x0 Φ := by
 unfold cycle_positions_1_S at h
 unfold cycle_positions_1_W
 exact blS h fun _ hv h => cycle_in_sound _ _ _ hv (have t := lfS h hK; t)
def slices_IndexFunc_int_int__cycle_positions_1_L1_S (x0 : List Int) : (Int) → Option ((Int) ⊕ (Int))
 | (v4) =>
  if v4 < (x0.length : Int) then
   if inX v4 x0.length then
   Option.bind (cycle_positions_1_S (ix x0 v4)) fun v10 =>
   if v10 = true then
    some (.inr v4)
   else
    if inI (v4 + 1) then
    some (.inl (v4 + 1))
    else none
   else none
  else
   some (.inr (-1))
theorem slices_IndexFunc_int_int__cycle_positions_1_L1_sound (x0 : List Int) (s : Int) {Φ : Int → Prop} {rec1 : (Int) → Prop} {o} (h : slices_IndexFunc_int_int__cycle_positions_1_L1_S x0 s = some o) (hK : (orK rec1 Φ) o) : slices_IndexFunc_int_int__cycle_positions_1_L1 x0 Φ s rec1 := by
 unfold slices_IndexFunc_int_int__cycle_positions_1_L1_S at h
 unfold slices_IndexFunc_int_int__cycle_positions_1_L1
 exact ifS h (fun h => adS h fun h => blS h fun _ hv h => cycle_positions_1_sound _ hv (ifS h (fun h => have t := lfS h hK; t) fun h => adS h fun h => have t := lfS h hK; t)) fun h => have t := lfS h hK; t
def slices_IndexFunc_int_int__cycle_positions_1_S (x0 : List Int) : Option (Int) :=
 loopS (slices_IndexFunc_int_int__cycle_positions_1_L1_S x0) 100000 (0)
theorem slices_IndexFunc_int_int__cycle_positions_1_sound (x0 : List Int) {Φ : Int → Prop} {o} (h : slices_IndexFunc_int_int__cycle_positions_1_S x0 = some o) (hK : Φ o) : slices_IndexFunc_int_int__cycle_positions_1_W x0 Φ := by
 unfold slices_IndexFunc_int_int__cycle_positions_1_S at h
 unfold slices_IndexFunc_int_int__cycle_positions_1_W
 exact LoopW.of_S (fun s q rec hs hq => slices_IndexFunc_int_int__cycle_positions_1_L1_sound _ s hs hq) _ _ h hK
def slices_ContainsFunc_int_int__cycle_positions_1_S (x0 : List Int) : Option (Bool) :=
 Option.bind (slices_IndexFunc_int_int__cycle_positions_1_S x0) fun v2 =>
 some (decide (0 ≤ v2))
theorem slices_ContainsFunc_int_int__cycle_positions_1_sound (x0 : List Int) {Φ : Bool → Prop} {o} (h : slices_ContainsFunc_int_int__cycle_positions_1_S x0 = some o) (hK : Φ o) : slices_ContainsFunc_int_int__cycle_positions_1_W x0 Φ := by
 unfold slices_ContainsFunc_int_int__cycle_positions_1_S at h
 unfold slices_ContainsFunc_int_int__cycle_positions_1_W
 exact blS h fun _ hv h => slices_IndexFunc_int_int__cycle_positions_1_sound _ hv (have t := lfS h hK; t)
def cycle_positions_S (x0 : List Int) (x1 : Int) : Option (Int) :=
 Option.bind (cycle_in_S (x0.length : Int) x1 8) fun v2 =>
 if ¬ (v2 = true) then
  some (6)
 else
  Option.bind (slices_ContainsFunc_int_int__cycle_positions_1_S x0) fun v6 =>
  if v6 = true then
   some (2)
  else
   some (0)
theorem cycle_positions_sound (x0 : List Int) (x1 : Int) {Φ : Int → Prop} {o} (h : cycle_positions_S x0 x1 = some o) (hK : Φ o) : cycle_positions_W x0 x1 Φ := by
 unfold cycle_positions_S at h
 unfold cycle_positions_W
 exact blS h fun _ hv h => cycle_in_sound _ _ _ hv (ifS h (fun h => have t := lfS h hK; t) fun h => blS h fun _ hv h => slices_ContainsFunc_int_int__cycle_positions_1_sound _ hv (ifS h (fun h => have t := lfS h hK; t) fun h => have t := lfS h hK; t))
def image_fits_S (x0 : List (List Sec)) (x1 : api_Write) : Option (Int) :=
 if (x1.Volume < 0) ∨ ((x0.length : Int) ≤ x1.Volume) then
  some (7)
 else
  if (x1.Data.length : Int) = 0 then
   some (1)
  else
   Option.bind (
    if ¬ (x1.Start < 0) then
     if inX x1.Volume x0.length then
     if inI (((ix x0 x1.Volume).length : Int) - (x1.Data.length : Int)) then some () else none
     else none
    else some () : Option Unit) fun _ =>
   if (x1.Start < 0) ∨ ((((ix x0 x1.Volume).length : Int) - (x1.Data.length : Int)) < x1.Start) then
    some (2)
   else
    some (0)
theorem image_fits_sound (x0 : List (List Sec)) (x1 : api_Write) {Φ : Int → Prop} {o} (h : image_fits_S x0 x1 = some o) (hK : Φ o) : image_fits_W x0 x1 Φ := by
 unfold image_fits_S at h
 unfold image_fits_W
 exact ifS h (fun h => have t := lfS h hK; t) fun h => ifS h (fun h => have t := lfS h hK; t) fun h => mgS h (fun h hK => imS h fun h => adS h fun h => (ofIf h).1) fun h => ifS h (fun h => have t := lfS h hK; t) fun h => have t := lfS h hK; t
def image_Fits_S (x0 : List (List Sec)) (x1 : api_Write) : Option (Int) :=
 Option.bind (image_Check_S x0) fun v4 =>
 if v4 ≠ 0 then
  some (v4)
 else
  Option.bind (image_fits_S x0 x1) fun v8 =>
  some (v8)
theorem image_Fits_sound (x0 : List (List Sec)) (x1 : api_Write) {Φ : Int → Prop} {o} (h : image_Fits_S x0 x1 = some o) (hK : Φ o) : image_Fits_W x0 x1 Φ := by
 unfold image_Fits_S at h
 unfold image_Fits_W
 exact blS h fun _ hv h => image_Check_sound _ hv (ifS h (fun h => have t := lfS h hK; t) fun h => blS h fun _ hv h => image_fits_sound _ _ hv (have t := lfS h hK; t))
def coalesce_Check_1_S (x0 : api_Write) (y800 : List (List Sec)) : Option (Int) :=
 Option.bind (image_Fits_S y800 x0) fun v4 =>
 some (v4)
theorem coalesce_Check_1_sound (x0 : api_Write) (y800 : List (List Sec)) {Φ : Int → Prop} {o} (h : coalesce_Check_1_S x0 y800 = some o) (hK : Φ o) : coalesce_Check_1_W x0 y800 Φ := by
 unfold coalesce_Check_1_S at h
 unfold coalesce_Check_1_W
 exact blS h fun _ hv h => image_Fits_sound _ _ hv (have t := lfS h hK; t)
def coalesce_check__coalesce_Check_1_L1_S (x0 : List api_Write) (y910 : List (List Sec)) : (Int) → Option ((Int) ⊕ (Int))
 | (v5) =>
  if v5 < (x0.length : Int) then
   if inX v5 x0.length then
   Option.bind (coalesce_Check_1_S (ix x0 v5) y910) fun v16 =>
   if v16 ≠ 0 then
    some (.inr v16)
   else
    if v5 = 0 then
     if inI (v5 + 1) then
     some (.inl (v5 + 1))
     else none
    else
     if inI (v5 - 1) then
     if inX (v5 - 1) x0.length then
     Option.bind (
      if ¬ (((ix x0 v5).Volume) < ((ix x0 (v5 - 1)).Volume)) then
       if ((ix x0 v5).Volume) = ((ix x0 (v5 - 1)).Volume) then
        if inI (((ix x0 (v5 - 1)).Start) + (((ix x0 (v5 - 1)).Data).length : Int)) then some () else none
       else some ()
      else some () : Option Unit) fun _ =>
     if (((ix x0 v5).Volume) < ((ix x0 (v5 - 1)).Volume)) ∨ ((((ix x0 v5).Volume) = ((ix x0 (v5 - 1)).Volume)) ∧ (((ix x0 v5).Start) ≤ (((ix x0 (v5 - 1)).Start) + (((ix x0 (v5 - 1)).Data).length : Int)))) then
      some (.inr 3)
     else
      if inI (v5 + 1) then
      some (.inl (v5 + 1))
      else none
     else none
     else none
   else none
  else
   some (.inr 0)
theorem coalesce_check__coalesce_Check_1_L1_sound (x0 : List api_Write) (y910 : List (List Sec)) (s : Int) {Φ : Int → Prop} {rec1 : (Int) → Prop} {o} (h : coalesce_check__coalesce_Check_1_L1_S x0 y910 s = some o) (hK : (orK rec1 Φ) o) : coalesce_check__coalesce_Check_1_L1 x0 y910 Φ s rec1 := by
 unfold coalesce_check__coalesce_Check_1_L1_S at h
 unfold coalesce_check__coalesce_Check_1_L1
 exact ifS h (fun h => adS h fun h => blS h fun _ hv h => coalesce_Check_1_sound _ _ hv (ifS h (fun h => have t := lfS h hK; t) fun h => ifS h (fun h => adS h fun h => have t := lfS h hK; t) fun h => adS h fun h => adS h fun h => mgS h (fun h hK => imS h fun h => imS h fun h => (ofIf h).1) fun h => ifS h (fun h => have t := lfS h hK; t) fun h => adS h fun h => have t := lfS h hK; t)) fun h => have t := lfS h hK; t
def coalesce_check__coalesce_Check_1_S (x0 : List api_Write) (y910 : List (List Sec)) : Option (Int) :=
 loopS (coalesce_check__coalesce_Check_1_L1_S x0 y910) 100000 (0)
theorem coalesce_check__coalesce_Check_1_sound (x0 : List api_Write) (y910 : List (List Sec)) {Φ : Int → Prop} {o} (h : coalesce_check__coalesce_Check_1_S x0 y910 = some o) (hK : Φ o) : coalesce_check__coalesce_Check_1_W x0 y910 Φ := by
 unfold coalesce_check__coalesce_Check_1_S at h
 unfold coalesce_check__coalesce_Check_1_W
 exact LoopW.of_S (fun s q rec hs hq => coalesce_check__coalesce_Check_1_L1_sound _ _ s hs hq) _ _ h hK
def coalesce_Check_S (x0 : List api_Write) (x1 : List Int) : Option (Int) :=
 Option.bind (image_New_S x1) fun v3 =>
 if v3.2 ≠ 0 then
  some (v3.2)
 else
  Option.bind (coalesce_check__coalesce_Check_1_S x0 v3.1) fun v12 =>
  some (v12)
theorem coalesce_Check_sound (x0 : List api_Write) (x1 : List Int) {Φ : Int → Prop} {o} (h : coalesce_Check_S x0 x1 = some o) (hK : Φ o) : coalesce_Check_W x0 x1 Φ := by
 unfold coalesce_Check_S at h
 unfold coalesce_Check_W
 exact blS h fun _ hv h => image_New_sound _ hv (ifS h (fun h => have t := lfS h hK; t) fun h => blS h fun _ hv h => coalesce_check__coalesce_Check_1_sound _ _ hv (have t := lfS h hK; t))
def cycle_Check_S (x0 : api_Cycle) (x1 : List Int) : Option (Int) :=
 Option.bind (image_New_S x1) fun v5 =>
 if v5.2 ≠ 0 then
  some (v5.2)
 else
  if (x0.Base < 0) ∨ ((x0.Number ≤ x0.Base) ∨ (1073741824 < x0.Number)) then
   some (2)
  else
   Option.bind (cycle_in_S x0.Time 0 1073741824) fun v13 =>
   if ¬ (v13 = true) then
    some (24)
   else
    Option.bind (cycle_positions_S x0.Positions 0) fun v17 =>
    if v17 ≠ 0 then
     some (v17)
    else
     Option.bind (coalesce_Check_S x0.Writes x1) fun v21 =>
     some (v21)
theorem cycle_Check_sound (x0 : api_Cycle) (x1 : List Int) {Φ : Int → Prop} {o} (h : cycle_Check_S x0 x1 = some o) (hK : Φ o) : cycle_Check_W x0 x1 Φ := by
 unfold cycle_Check_S at h
 unfold cycle_Check_W
 exact blS h fun _ hv h => image_New_sound _ hv (ifS h (fun h => have t := lfS h hK; t) fun h => ifS h (fun h => have t := lfS h hK; t) fun h => blS h fun _ hv h => cycle_in_sound _ _ _ hv (ifS h (fun h => have t := lfS h hK; t) fun h => blS h fun _ hv h => cycle_positions_sound _ _ hv (ifS h (fun h => have t := lfS h hK; t) fun h => blS h fun _ hv h => coalesce_Check_sound _ _ hv (have t := lfS h hK; t))))
def reverse_Cycle_L3_S (x1 : api_Point) (v11 : List (List api_Extent) × Int) (v39 : List Int) (v46 : Int) : (List api_Write × Int) → Option ((List api_Write × Int) ⊕ ((List api_Write × List Int × Int) ⊕ (api_Cycle × Int)))
 | (v67, v74) =>
  if v74 < ((ix v11.1 v46).length : Int) then
   if inX v74 (ix v11.1 v46).length then
   if inI (((ix (ix v11.1 v46) v74).Start) + ((ix (ix v11.1 v46) v74).Count)) then
   if inS ((ix (ix v11.1 v46) v74).Start) (((ix (ix v11.1 v46) v74).Start) + ((ix (ix v11.1 v46) v74).Count)) (ix x1.Image v46).length then
   Option.bind (slices_Clone_api_Sector_api_Sector_S (sub (ix x1.Image v46) ((ix (ix v11.1 v46) v74).Start) (((ix (ix v11.1 v46) v74).Start) + ((ix (ix v11.1 v46) v74).Count)))) fun v102 =>
   if lenOk (v67 ++ ([(api_Write.mk v46 ((ix (ix v11.1 v46) v74).Start) v102)] : List api_Write)).length 40 then
   if inI (v74 + 1) then
   some (.inl ((v67 ++ ([(api_Write.mk v46 ((ix (ix v11.1 v46) v74).Start) v102)] : List api_Write)), v74 + 1))
   else none
   else none
   else none
   else none
   else none
  else
   if inI (v46 + 1) then
   some (.inr (.inl (v67, (v39 ++ ([((ix x1.Image v46).length : Int)] : List Int)), v46 + 1)))
   else none
theorem reverse_Cycle_L3_sound (x1 : api_Point) (v11 : List (List api_Extent) × Int) (v39 : List Int) (v46 : Int) (s : List api_Write × Int) {Φ : api_Cycle × Int → Prop} {rec2 : (List api_Write × List Int × Int) → Prop} {rec3 : (List api_Write × Int) → Prop} {o} (h : reverse_Cycle_L3_S x1 v11 v39 v46 s = some o) (hK : (orK rec3 (orK rec2 Φ)) o) : reverse_Cycle_L3 x1 v11 v39 v46 rec2 Φ s rec3 := by
 obtain ⟨v67, v74⟩ := s
 unfold reverse_Cycle_L3_S at h
 unfold reverse_Cycle_L3
 exact ifS h (fun h => adS h fun h => adS h fun h => adS h fun h => blS h fun v hv h => ⟨v, slices_Clone_api_Sector_api_Sector_sound _ hv rfl, adS h fun h => adS h fun h => have t := lfS h hK; t⟩) fun h => adS h fun h => have t := lfS h hK; t
def reverse_Cycle_L2_S (x1 : api_Point) (x2 : Int) (x3 : Int) (v11 : List (List api_Extent) × Int) (v18 : Int × Int) (v23 : List Int) : (List api_Write × List Int × Int) → Option ((List api_Write × List Int × Int) ⊕ (api_Cycle × Int))
 | (v32, v39, v46) =>
  if v46 < (x1.Image.length : Int) then
   if inX v46 x1.Image.length then
   if lenOk (v39 ++ ([((ix x1.Image v46).length : Int)] : List Int)).length 8 then
   if inX v46 v11.1.length then
   loopS (reverse_Cycle_L3_S x1 v11 v39 v46) 100000 (v32, 0)
   else none
   else none
   else none
  else
   Option.bind (cycle_Check_S (api_Cycle.mk v18.1 x2 x3 v23 v32) v39) fun v176 =>
   if v176 ≠ 0 then
    some (.inr ((api_Cycle.mk 0 0 0 ([] : List Int) ([] : List api_Write)), v176))
   else
    some (.inr ((api_Cycle.mk v18.1 x2 x3 v23 v32), 0))
theorem reverse_Cycle_L2_sound (x1 : api_Point) (x2 : Int) (x3 : Int) (v11 : List (List api_Extent) × Int) (v18 : Int × Int) (v23 : List Int) (s : List api_Write × List Int × Int) {Φ : api_Cycle × Int → Prop} {rec2 : (List api_Write × List Int × Int) → Prop} {o} (h : reverse_Cycle_L2_S x1 x2 x3 v11 v18 v23 s = some o) (hK : (orK rec2 Φ) o) : reverse_Cycle_L2 x1 x2 x3 v11 v18 v23 Φ s rec2 := by
 obtain ⟨v32, v39, v46⟩ := s
 unfold reverse_Cycle_L2_S at h
 unfold reverse_Cycle_L2
 exact ifS h (fun h => adS h fun h => adS h fun h => adS h fun h => LoopW.of_S (fun s q rec hs hq => reverse_Cycle_L3_sound _ _ _ _ s hs hq) _ _ h hK) fun h => blS h fun _ hv h => cycle_Check_sound _ _ hv (ifS h (fun h => have t := lfS h hK; t) fun h => have t := lfS h hK; t)
def reverse_Cycle_J1_S (x1 : api_Point) (x2 : Int) (x3 : Int) (x4 : List Int) (v11 : List (List api_Extent) × Int) (v18 : Int × Int) : Option (api_Cycle × Int) :=
 Option.bind (slices_Clone_int_int_S x4) fun v23 =>
 loopS (reverse_Cycle_L2_S x1 x2 x3 v11 v18 v23) 100000 (([] : List api_Write), ([] : List Int), 0)
theorem reverse_Cycle_J1_sound (x1 : api_Point) (x2 : Int) (x3 : Int) (x4 : List Int) (v11 : List (List api_Extent) × Int) (v18 : Int × Int) {Φ : api_Cycle × Int → Prop} {o} (h : reverse_Cycle_J1_S x1 x2 x3 x4 v11 v18 = some o) (hK : Φ o) : reverse_Cycle_J1 x1 x2 x3 x4 v11 v18 Φ := by
 unfold reverse_Cycle_J1_S at h
 unfold reverse_Cycle_J1
 exact blS h fun _ hv h => slices_Clone_int_int_sound _ hv (LoopW.of_S (fun s q rec hs hq => reverse_Cycle_L2_sound _ _ _ _ _ _ s hs hq) _ _ h hK)
def reverse_Cycle_S (x0 : api_Point) (x1 : api_Point) (x2 : Int) (x3 : Int) (x4 : List Int) : Option (api_Cycle × Int) :=
 Option.bind (delta_Between_S x0 x1) fun v11 =>
 if v11.2 ≠ 0 then
  some (((api_Cycle.mk 0 0 0 ([] : List Int) ([] : List api_Write)), v11.2))
 else
  Option.bind (delta_Ancestor_S x0.Lineage x1.Lineage) fun v18 =>
  if x2 ≤ v18.1 then
   some (((api_Cycle.mk 0 0 0 ([] : List Int) ([] : List api_Write)), 2))
  else
   Option.bind (reverse_last_S x1.Lineage) fun v186 =>
   if x2 < v186 then
    some (((api_Cycle.mk 0 0 0 ([] : List Int) ([] : List api_Write)), 2))
   else
    reverse_Cycle_J1_S x1 x2 x3 x4 v11 v18
theorem reverse_Cycle_sound (x0 : api_Point) (x1 : api_Point) (x2 : Int) (x3 : Int) (x4 : List Int) {Φ : api_Cycle × Int → Prop} {o} (h : reverse_Cycle_S x0 x1 x2 x3 x4 = some o) (hK : Φ o) : reverse_Cycle_W x0 x1 x2 x3 x4 Φ := by
 unfold reverse_Cycle_S at h
 unfold reverse_Cycle_W
 exact blS h fun _ hv h => delta_Between_sound _ _ hv (ifS h (fun h => have t := lfS h hK; t) fun h => blS h fun _ hv h => delta_Ancestor_sound _ _ hv (ifS h (fun h => have t := lfS h hK; t) fun h => blS h fun _ hv h => reverse_last_sound _ hv (ifS h (fun h => have t := lfS h hK; t) fun h => reverse_Cycle_J1_sound _ _ _ _ _ _ h hK)))
def ref02_SameExtents_L1_S (x0 : List api_Extent) (x1 : List api_Extent) : (Int) → Option ((Int) ⊕ (Bool))
 | (v6) =>
  if v6 < (x0.length : Int) then
   if inX v6 x0.length then
   if inX v6 x1.length then
   if (ix x0 v6) ≠ (ix x1 v6) then
    some (.inr false)
   else
    if inI (v6 + 1) then
    some (.inl (v6 + 1))
    else none
   else none
   else none
  else
   some (.inr true)
theorem ref02_SameExtents_L1_sound (x0 : List api_Extent) (x1 : List api_Extent) (s : Int) {Φ : Bool → Prop} {rec1 : (Int) → Prop} {o} (h : ref02_SameExtents_L1_S x0 x1 s = some o) (hK : (orK rec1 Φ) o) : ref02_SameExtents_L1 x0 x1 Φ s rec1 := by
 unfold ref02_SameExtents_L1_S at h
 unfold ref02_SameExtents_L1
 exact ifS h (fun h => adS h fun h => adS h fun h => ifS h (fun h => have t := lfS h hK; t) fun h => adS h fun h => have t := lfS h hK; t) fun h => have t := lfS h hK; t
def ref02_SameExtents_S (x0 : List api_Extent) (x1 : List api_Extent) : Option (Bool) :=
 if (x0.length : Int) ≠ (x1.length : Int) then
  some (false)
 else
  loopS (ref02_SameExtents_L1_S x0 x1) 100000 (0)
theorem ref02_SameExtents_sound (x0 : List api_Extent) (x1 : List api_Extent) {Φ : Bool → Prop} {o} (h : ref02_SameExtents_S x0 x1 = some o) (hK : Φ o) : ref02_SameExtents_W x0 x1 Φ := by
 unfold ref02_SameExtents_S at h
 unfold ref02_SameExtents_W
 exact ifS h (fun h => have t := lfS h hK; t) fun h => LoopW.of_S (fun s q rec hs hq => ref02_SameExtents_L1_sound _ _ s hs hq) _ _ h hK
def ref47_SameExtents_L1_S (x0 : List (List api_Extent)) (x1 : List (List api_Extent)) : (Int) → Option ((Int) ⊕ (Bool))
 | (v6) =>
  if v6 < (x0.length : Int) then
   if inX v6 x0.length then
   if inX v6 x1.length then
   Option.bind (ref02_SameExtents_S (ix x0 v6) (ix x1 v6)) fun v16 =>
   if ¬ (v16 = true) then
    some (.inr false)
   else
    if inI (v6 + 1) then
    some (.inl (v6 + 1))
    else none
   else none
   else none
  else
   some (.inr true)
theorem ref47_SameExtents_L1_sound (x0 : List (List api_Extent)) (x1 : List (List api_Extent)) (s : Int) {Φ : Bool → Prop} {rec1 : (Int) → Prop} {o} (h : ref47_SameExtents_L1_S x0 x1 s = some o) (hK : (orK rec1 Φ) o) : ref47_SameExtents_L1 x0 x1 Φ s rec1 := by
 unfold ref47_SameExtents_L1_S at h
 unfold ref47_SameExtents_L1
 exact ifS h (fun h => adS h fun h => adS h fun h => blS h fun v hv h => ⟨v, ref02_SameExtents_sound _ _ hv rfl, ifS h (fun h => have t := lfS h hK; t) fun h => adS h fun h => have t := lfS h hK; t⟩) fun h => have t := lfS h hK; t
def ref47_SameExtents_S (x0 : List (List api_Extent)) (x1 : List (List api_Extent)) : Option (Bool) :=
 if (x0.length : Int) ≠ (x1.length : Int) then
  some (false)
 else
  loopS (ref47_SameExtents_L1_S x0 x1) 100000 (0)
theorem ref47_SameExtents_sound (x0 : List (List api_Extent)) (x1 : List (List api_Extent)) {Φ : Bool → Prop} {o} (h : ref47_SameExtents_S x0 x1 = some o) (hK : Φ o) : ref47_SameExtents_W x0 x1 Φ := by
 unfold ref47_SameExtents_S at h
 unfold ref47_SameExtents_W
 exact ifS h (fun h => have t := lfS h hK; t) fun h => LoopW.of_S (fun s q rec hs hq => ref47_SameExtents_L1_sound _ _ s hs hq) _ _ h hK
def law47_awake_S : Option (Bool) :=
 Option.bind (law47_one_S 0 (8#8)) fun v10 =>
 Option.bind (law47_point_S 0 ([([(Sec.mk (1#8) (0#8) (0#8) (0#8) (0#8) (0#8) (0#8) (0#8)), (Sec.mk (2#8) (0#8) (0#8) (0#8) (0#8) (0#8) (0#8) (0#8)), (Sec.mk (3#8) (0#8) (0#8) (0#8) (0#8) (0#8) (0#8) (0#8))] : List Sec)] : List (List Sec)) ([(api_Span.mk 1 1 4)] : List api_Span) ([v10] : List api_Write)) fun v30 =>
 Option.bind (law47_one_S 2 (9#8)) fun v41 =>
 Option.bind (law47_point_S 1 ([([(Sec.mk (1#8) (0#8) (0#8) (0#8) (0#8) (0#8) (0#8) (0#8)), (Sec.mk (2#8) (0#8) (0#8) (0#8) (0#8) (0#8) (0#8) (0#8)), (Sec.mk (3#8) (0#8) (0#8) (0#8) (0#8) (0#8) (0#8) (0#8))] : List Sec)] : List (List Sec)) ([(api_Span.mk 1 1 4), (api_Span.mk 2 5 6)] : List api_Span) ([v41] : List api_Write)) fun v58 =>
 Option.bind (reverse_Undo_S v30 4) fun v70 =>
 Option.bind (reverse_Extents_S v30 v58) fun v79 =>
 Option.bind (reverse_Cycle_S v30 v58 6 7 ([] : List Int)) fun v85 =>
 if (v70.2 ≠ 0) ∨ ((v79.2 ≠ 0) ∨ ((v85.2 ≠ 0) ∨ ((v85.1.Base ≠ 4) ∨ ((v85.1.Writes.length : Int) ≠ 2)))) then
  some (false)
 else
  Option.bind (ref47_SameExtents_S v70.1 ([([(api_Extent.mk 0 1)] : List api_Extent)] : List (List api_Extent))) fun v116 =>
  if v116 = true then
   Option.bind (ref47_SameExtents_S v79.1 ([([(api_Extent.mk 0 1), (api_Extent.mk 2 1)] : List api_Extent)] : List (List api_Extent))) fun v133 =>
   if v133 = true then
    if inX 0 v85.1.Writes.length then
    if inX 0 ((ix v85.1.Writes 0).Data).length then
    if (ix ((ix v85.1.Writes 0).Data) 0) = (Sec.mk (1#8) (0#8) (0#8) (0#8) (0#8) (0#8) (0#8) (0#8)) then
     if inX 1 v85.1.Writes.length then
     if inX 0 ((ix v85.1.Writes 1).Data).length then
     some (decide ((ix ((ix v85.1.Writes 1).Data) 0) = (Sec.mk (9#8) (0#8) (0#8) (0#8) (0#8) (0#8) (0#8) (0#8))))
     else none
     else none
    else
     some (false)
    else none
    else none
   else
    some (false)
  else
   some (false)
theorem law47_awake_sound {Φ : Bool → Prop} {o} (h : law47_awake_S = some o) (hK : Φ o) : law47_awake_W Φ := by
 unfold law47_awake_S at h
 unfold law47_awake_W
 exact blS h fun _ hv h => law47_one_sound _ _ hv (blS h fun _ hv h => law47_point_sound _ _ _ _ hv (blS h fun _ hv h => law47_one_sound _ _ hv (blS h fun _ hv h => law47_point_sound _ _ _ _ hv (blS h fun _ hv h => reverse_Undo_sound _ _ hv (blS h fun _ hv h => reverse_Extents_sound _ _ hv (blS h fun _ hv h => reverse_Cycle_sound _ _ _ _ _ hv (ifS h (fun h => have t := lfS h hK; t) fun h => blS h fun _ hv h => ref47_SameExtents_sound _ _ hv (ifS h (fun h => blS h fun _ hv h => ref47_SameExtents_sound _ _ hv (ifS h (fun h => adS h fun h => adS h fun h => ifS h (fun h => adS h fun h => adS h fun h => have t := lfS h hK; t) fun h => have t := lfS h hK; t) fun h => have t := lfS h hK; t)) fun h => have t := lfS h hK; t))))))))
end Go.Proofs.YtahlanamngfkcaaDoor

namespace Go.Proofs.YtahlanamngfkcaaDoor
open Go.RowKit
structure FewPt (p : api_Point) : Prop where
  lin : p.Lineage.length ≤ 20
  dirty : p.Dirty.length ≤ 10
  img : p.Image.length ≤ 9
  vol : ∀ k : Nat, k < p.Image.length → (ix p.Image (k : Int)).length ≤ 24
  wd : ∀ k : Nat, k < p.Dirty.length → (ix p.Dirty (k : Int)).Words.length ≤ 8
theorem ref07_Few_ok {im : List (List Sec)} {Φ : Bool → Prop} (hF : Φ false) (hT : im.length ≤ 9 → (∀ k : Nat, k < im.length → (ix im (k : Int)).length ≤ 24) → Φ true) : ref07_Few_W im Φ := by
  refine ⟨fun _ => hF, fun h9 => ?_⟩
  refine LoopW.up im.length (fun k => ∀ j : Nat, j < k → (ix im (j : Int)).length ≤ 24) ?_ (k0 := 0) rfl (Nat.zero_le _) (fun j hj => absurd hj (Nat.not_lt_zero j))
  intro k rec hk hI hrec
  refine ⟨fun hlt => ⟨iX (by omega) hlt, fun _ => hF, fun q => ⟨iI (by omega) (by omega), hrec (by omega) fun j hj => ?_⟩⟩, fun hge => hT (by omega) fun j hj => hI j (by omega)⟩
  rcases Nat.lt_or_ge j k with h | h
  · exact hI j h
  · have : j = k := by omega
    subst this; omega
theorem ref47_Few_ok {p : api_Point} {Φ : Bool → Prop} (hF : Φ false) (hT : FewPt p → Φ true) : ref47_Few_W p Φ := by
  refine LoopW.up (min p.Dirty.length 10) (fun k => ∀ j : Nat, j < k → (ix p.Dirty (j : Int)).Words.length ≤ 8) ?_ (k0 := 0) rfl (Nat.zero_le _) (fun j hj => absurd hj (Nat.not_lt_zero j))
  intro k rec hk hI hrec
  refine ⟨fun hlt => ⟨iX (by omega) hlt.1, fun _ => hF, fun q => ⟨iI (by omega) (by omega), hrec (by omega) fun j hj => ?_⟩⟩, fun hge => ⟨fun h1 => ⟨fun h2 => ref07_Few_ok hF fun h3 h4 => hT ⟨by omega, by omega, h3, h4, fun j hj => hI j (by omega)⟩, fun _ => hF⟩, fun _ => hF⟩⟩
  rcases Nat.lt_or_ge j k with h | h
  · exact hI j h
  · have : j = k := by omega
    subst this; omega
def lastTo (l : List api_Span) : Int := if (l.length : Int) = 0 then 0 else (ix l ((l.length : Int) - 1)).To
theorem reverse_last_ok {l : List api_Span} {Φ : Int → Prop} (hl : l.length ≤ 1000000) (hΦ : Φ (lastTo l)) : reverse_last_W l Φ := by
  unfold lastTo at hΦ
  refine ⟨fun h => by rw [if_pos h] at hΦ; exact hΦ, fun h => ⟨iI (by omega) (by omega), iX (by omega) (by omega), by rw [if_neg h] at hΦ; exact hΦ⟩⟩
theorem marks_len (a b : api_Point) : (marks a b).length = a.Dirty.length ∧ ∀ x ∈ marks a b, x.length ≤ 1000000 := by
  refine ⟨by simp [marks], fun x hx => ?_⟩
  obtain ⟨y, _, rfl⟩ := List.mem_map.1 hx
  exact Nat.le_trans (exts_len _) (by decide)
theorem law47_awake_ok {Φ : Bool → Prop} (h : Φ true) : law47_awake_W Φ := law47_awake_sound (by kernel_rfl) h
end Go.Proofs.YtahlanamngfkcaaDoor

namespace Go.Proofs.YtahlanamngfkcaaDoor
open Go.RowKit
def ancL : List api_Span → List api_Span → Int → Int → Int × Int
  | x :: xs, y :: ys, c, e => if x.Epoch ≠ y.Epoch then (c, e) else if x.To ≠ y.To then (if y.To < x.To then y.To else x.To, x.Epoch) else ancL xs ys (if y.To < x.To then y.To else x.To) x.Epoch
  | [], _, c, e => (c, e)
  | _ :: _, [], c, e => (c, e)
theorem ancL_end {xs ys : List api_Span} {c e : Int} (h : xs = [] ∨ ys = []) : ancL xs ys c e = (c, e) := by
  rcases h with rfl | rfl
  · cases ys <;> rfl
  · cases xs <;> rfl
def ancR (a b : List api_Span) : Int × Int := if linB a = true ∧ linB b = true then ancL a b 0 0 else (0, 0)
theorem anc_round {a b : List api_Span} {k : Nat} (h1 : k < a.length) (h2 : k < b.length) {c e : Int} {Φ : Int × Int → Prop} (hΦ : Φ (ancL (a.drop k) (b.drop k) c e)) :
    ((ix a (k : Int)).Epoch ≠ (ix b (k : Int)).Epoch → Φ (c, e)) ∧ (¬ ((ix a (k : Int)).Epoch ≠ (ix b (k : Int)).Epoch) → ((ix a (k : Int)).To ≠ (ix b (k : Int)).To → Φ (if (ix b (k : Int)).To < (ix a (k : Int)).To then (ix b (k : Int)).To else (ix a (k : Int)).To, (ix a (k : Int)).Epoch)) ∧
      (¬ ((ix a (k : Int)).To ≠ (ix b (k : Int)).To) → Φ (ancL (a.drop (k + 1)) (b.drop (k + 1)) (if (ix b (k : Int)).To < (ix a (k : Int)).To then (ix b (k : Int)).To else (ix a (k : Int)).To) (ix a (k : Int)).Epoch))) := by
  rw [drop_ix h1, drop_ix h2] at hΦ
  unfold ancL at hΦ
  refine ⟨fun q => by rw [if_pos q] at hΦ; exact hΦ, fun q => ⟨fun q2 => ?_, fun q2 => ?_⟩⟩
  · rw [if_neg q, if_pos q2] at hΦ; exact hΦ
  · rw [if_neg q, if_neg q2] at hΦ; exact hΦ
theorem delta_Ancestor_ok {a b : List api_Span} {Φ : Int × Int → Prop} (ha : a.length ≤ 1000000) (hb : b.length ≤ 1000000) (hΦ : Φ (ancR a b)) : delta_Ancestor_W a b Φ := by
  unfold ancR at hΦ
  refine delta_correct_ok ha ⟨fun q => by rw [if_neg fun z => q z.1] at hΦ; exact hΦ, fun q => delta_correct_ok hb ⟨fun q2 => by rw [if_neg fun z => q2 z.2] at hΦ; exact hΦ, fun q2 => ?_⟩⟩
  rw [if_pos ⟨Classical.not_not.1 q, Classical.not_not.1 q2⟩] at hΦ
  refine LoopW.upS (min a.length b.length) (fun s : Int × Int × Int => s.2.2) (fun k s => Φ (ancL (a.drop k) (b.drop k) s.1 s.2.1)) ?_ 0 rfl (Nat.zero_le _) hΦ
  rintro k ⟨c, e, i⟩ rec hk hi hI hrec
  simp only at hi hI
  subst hi
  have hmin : ((k : Int) < (if (b.length : Int) < (a.length : Int) then (b.length : Int) else (a.length : Int))) ↔ k < a.length ∧ k < b.length := by split <;> omega
  refine ⟨fun h => ?_, fun h => ?_, fun h => ?_⟩
  · rw [hmin] at h; exact ⟨iX (by omega) (by omega), iX (by omega) (by omega)⟩
  · rw [hmin] at h
    obtain ⟨h1, h2⟩ := anc_round h.1.1 h.1.2 hI
    obtain ⟨h3, h4⟩ := h2 (fun z => z h.2)
    exact ⟨iX (by omega) (by omega), iX (by omega) (by omega), h3, fun z => ⟨iI (by omega) (by omega), hrec _ (by omega) rfl (h4 z)⟩⟩
  · rw [hmin] at h
    by_cases hlt : k < a.length ∧ k < b.length
    · exact (anc_round hlt.1 hlt.2 hI).1 fun z => h ⟨hlt, z⟩
    · rw [ancL_end (by
        rcases Nat.lt_or_ge k a.length with h1 | h1
        · exact .inr (List.drop_eq_nil_of_le (by omega))
        · exact .inl (List.drop_eq_nil_of_le h1))] at hI
      exact hI
theorem ref46_Ancestor_ok {a b : List api_Span} {Φ : Int × Int → Prop} (ha : a.length ≤ 1000000) (hb : b.length ≤ 1000000) (hΦ : Φ (ancR a b)) : ref46_Ancestor_W a b Φ := by
  unfold ancR at hΦ
  refine ref46_Lineage_ok ha ⟨fun q => by rw [if_neg fun z => q z.1] at hΦ; exact hΦ, fun q => ref46_Lineage_ok hb ⟨fun q2 => by rw [if_neg fun z => q2 z.2] at hΦ; exact hΦ, fun q2 => ?_⟩⟩
  rw [if_pos ⟨Classical.not_not.1 q, Classical.not_not.1 q2⟩] at hΦ
  refine LoopW.upS (min a.length b.length) (fun s : Int × Int × Int => s.2.2) (fun k s => Φ (ancL (a.drop k) (b.drop k) s.1 s.2.1)) ?_ 0 rfl (Nat.zero_le _) hΦ
  rintro k ⟨c, e, i⟩ rec hk hi hI hrec
  simp only at hi hI
  subst hi
  refine ⟨fun h => ?_, fun h => ?_⟩
  · obtain ⟨h1, h2⟩ := anc_round (show k < a.length by omega) (show k < b.length by omega) hI
    exact ⟨iX (by omega) (by omega), iX (by omega) (by omega), h1, fun z => ⟨(h2 z).1, fun z2 => ⟨iI (by omega) (by omega), hrec _ (by omega) rfl ((h2 z).2 z2)⟩⟩⟩
  · rw [ancL_end (by
        rcases Nat.lt_or_ge k a.length with h1 | h1
        · exact .inr (List.drop_eq_nil_of_le (by omega))
        · exact .inl (List.drop_eq_nil_of_le h1))] at hI
    exact hI
theorem cloneI_ok {l : List Int} {Φ : List Int → Prop} (hl : l.length ≤ 1000000) (hΦ : Φ l) : slices_Clone_int_int_W l Φ :=
  ⟨fun h => by rw [h] at hΦ; exact hΦ, iL (by rw [List.nil_append]; exact hl) (by omega), hΦ⟩
theorem cloneS_ok {l : List Sec} {Φ : List Sec → Prop} (hl : l.length ≤ 1000000) (hΦ : Φ l) : slices_Clone_api_Sector_api_Sector_W l Φ :=
  ⟨fun h => by rw [h] at hΦ; exact hΦ, iL (by rw [List.nil_append]; exact hl) (by omega), hΦ⟩
def wrK (im : List (List Sec)) (l : List (List api_Extent)) (v i : Nat) : api_Write := ⟨(v : Int), (ix (ix l (v : Int)) (i : Int)).Start, sub (ix im (v : Int)) (ix (ix l (v : Int)) (i : Int)).Start ((ix (ix l (v : Int)) (i : Int)).Start + (ix (ix l (v : Int)) (i : Int)).Count)⟩
def contV (im : List (List Sec)) (l : List (List api_Extent)) (v m : Nat) : List api_Write := (List.range m).map (wrK im l v)
def cont (im : List (List Sec)) (l : List (List api_Extent)) (n : Nat) : List api_Write := (List.range n).flatMap fun v => contV im l v (ix l (v : Int)).length
theorem contV_succ (im : List (List Sec)) (l : List (List api_Extent)) (v m : Nat) : contV im l v (m + 1) = contV im l v m ++ [wrK im l v m] := by
  unfold contV; rw [List.range_succ, List.map_append]; rfl
theorem cont_succ (im : List (List Sec)) (l : List (List api_Extent)) (n : Nat) : cont im l (n + 1) = cont im l n ++ contV im l n (ix l (n : Int)).length := by
  unfold cont; rw [List.range_succ, List.flatMap_append]; simp
structure Within (im : List (List Sec)) (l : List (List api_Extent)) : Prop where
  len : l.length = im.length
  n8 : im.length ≤ 8
  small : ∀ v : Nat, v < im.length → (ix im (v : Int)).length ≤ 4096 ∧ (ix l (v : Int)).length ≤ 4096
  ext : ∀ v : Nat, v < im.length → ∀ i : Nat, i < (ix l (v : Int)).length → 0 ≤ (ix (ix l (v : Int)) (i : Int)).Start ∧ 0 ≤ (ix (ix l (v : Int)) (i : Int)).Count ∧ (ix (ix l (v : Int)) (i : Int)).Start + (ix (ix l (v : Int)) (i : Int)).Count ≤ ((ix im (v : Int)).length : Int)
theorem sub_le {α : Type} (xs : List α) (lo hi : Int) : (sub xs lo hi).length ≤ xs.length := by
  unfold sub; rw [List.length_take, List.length_drop]; omega
theorem contV_len (im : List (List Sec)) (l : List (List api_Extent)) (v m : Nat) : (contV im l v m).length = m := by unfold contV; simp
theorem cont_len {im : List (List Sec)} {l : List (List api_Extent)} (h : Within im l) : ∀ {n : Nat}, n ≤ im.length → (cont im l n).length ≤ 4096 * n
  | 0, _ => Nat.zero_le _
  | n + 1, hn => by
    rw [cont_succ, List.length_append, contV_len]
    have := cont_len h (n := n) (by omega)
    have := (h.small n (by omega)).2
    omega
theorem ref47_Contents_ok {im : List (List Sec)} {l : List (List api_Extent)} {Φ : List api_Write → Prop} (h : Within im l) (hΦ : Φ (cont im l l.length)) : ref47_Contents_W im l Φ := by
  have hl := h.len
  have h8 := h.n8
  refine LoopW.up2 l.length (fun k acc => acc = cont im l k) ?_ rfl (Nat.zero_le _) rfl
  rintro k _ rec hk rfl hrec
  refine ⟨fun hlt => ?_, fun hge => ?_⟩
  · have hk' : k < im.length := by omega
    have hsm := h.small k hk'
    have hcl := cont_len h (n := k) (by omega)
    refine LoopW.up2 (ix l (k : Int)).length (fun m acc => acc = cont im l k ++ contV im l k m) ?_ rfl (Nat.zero_le _) (by simp [contV])
    rintro m _ rec2 hm rfl hrec2
    have hvl := contV_len im l k m
    refine ⟨iX (by omega) (by omega), fun hmlt => ?_, fun hmge => ⟨iI (by omega) (by omega), hrec _ (by omega) (by rw [cont_succ, show (ix l (k : Int)).length = m by omega])⟩⟩
    have he := h.ext k hk' m (by omega)
    have hsl := sub_le (ix im (k : Int)) (ix (ix l (k : Int)) (m : Int)).Start ((ix (ix l (k : Int)) (m : Int)).Start + (ix (ix l (k : Int)) (m : Int)).Count)
    refine ⟨iX (by omega) (by omega), iX (by omega) (by omega), iI (by omega) (by omega), iS (by omega) (by omega) (by omega), iL (by rw [List.nil_append]; omega) (by omega), iL (by simp only [List.length_append, List.length_cons, List.length_nil]; omega) (by omega), iI (by omega) (by omega), hrec2 _ (by omega) ?_⟩
    rw [contV_succ, List.append_assoc]; rfl
  · rw [show k = l.length by omega]; exact hΦ
def fitE (sizes : List Int) (w : api_Write) : Int := if w.Volume < 0 ∨ (sizes.length : Int) ≤ w.Volume then 7 else if (w.Data.length : Int) = 0 then 1 else if w.Start < 0 ∨ ix sizes w.Volume - w.Start < (w.Data.length : Int) then 2 else 0
def orderB (l : List api_Write) (k : Nat) : Prop := (ix l (k : Int)).Volume < (ix l ((k : Int) - 1)).Volume ∨ ((ix l (k : Int)).Volume = (ix l ((k : Int) - 1)).Volume ∧ (ix l (k : Int)).Start ≤ (ix l ((k : Int) - 1)).Start + ((ix l ((k : Int) - 1)).Data.length : Int))
instance (l : List api_Write) (k : Nat) : Decidable (orderB l k) := by unfold orderB; infer_instance
def wrE (sizes : List Int) (l : List api_Write) (k : Nat) : Int := if fitE sizes (ix l (k : Int)) ≠ 0 then fitE sizes (ix l (k : Int)) else if k = 0 then 0 else if orderB l k then 3 else 0
def wrsE (sizes : List Int) (l : List api_Write) : Int := firstN (wrE sizes l) l.length
def posE (l : List Int) : Int := if 8 < (l.length : Int) then 6 else firstN (fun k => if ix l (k : Int) < 0 ∨ 1073741824 < ix l (k : Int) then 2 else 0) l.length
def cycE (c : api_Cycle) (sizes : List Int) : Int :=
  if sizesE sizes ≠ 0 then sizesE sizes else if c.Base < 0 ∨ (c.Number ≤ c.Base ∨ 1073741824 < c.Number) then 2 else if c.Time < 0 ∨ 1073741824 < c.Time then 24 else if posE c.Positions ≠ 0 then posE c.Positions else wrsE sizes c.Writes
theorem sizes_ok {l : List Int} (h : ¬ sizesE l ≠ 0) : l.length ≤ 8 ∧ 1 ≤ l.length ∧ ∀ k : Nat, k < l.length → 1 ≤ ix l (k : Int) ∧ ix l (k : Int) ≤ 4096 := by
  have h0 := Classical.not_not.1 h
  unfold sizesE at h0
  split at h0
  · omega
  · refine ⟨by omega, by omega, fun k hk => ?_⟩
    have := firstN_zero.1 h0 k hk
    split at this <;> omega
theorem ref07_FitsSizes_ok {sizes : List Int} {w : api_Write} {Φ : Int → Prop} (hs : ¬ sizesE sizes ≠ 0) (hΦ : Φ (fitE sizes w)) : ref07_FitsSizes_W sizes w Φ := by
  unfold fitE at hΦ
  refine ⟨fun q => by rw [if_pos q] at hΦ; exact hΦ, fun q => ⟨fun q2 => by rw [if_neg q, if_pos q2] at hΦ; exact hΦ, fun q2 => ?_⟩⟩
  rw [if_neg q, if_neg q2] at hΦ
  obtain ⟨v, hv⟩ := Int.eq_ofNat_of_zero_le (show 0 ≤ w.Volume by omega)
  have hz := (sizes_ok hs).2.2 v (by omega)
  rw [hv] at hΦ ⊢
  refine ⟨fun q3 => ⟨iX (by omega) (by omega), fun q4 => iI (by omega) (by omega)⟩, fun q3 => ?_, fun q3 => ?_⟩
  · rw [if_pos (by omega)] at hΦ; exact hΦ
  · rw [if_neg (by omega)] at hΦ; exact hΦ
theorem fitE_zero {sizes : List Int} {w : api_Write} (hs : ¬ sizesE sizes ≠ 0) (h : fitE sizes w = 0) : 0 ≤ w.Volume ∧ w.Volume < (sizes.length : Int) ∧ 1 ≤ w.Data.length ∧ 0 ≤ w.Start ∧ w.Start + (w.Data.length : Int) ≤ ix sizes w.Volume ∧ ix sizes w.Volume ≤ 4096 := by
  unfold fitE at h
  split at h
  · omega
  split at h
  · omega
  split at h
  · omega
  obtain ⟨v, hv⟩ := Int.eq_ofNat_of_zero_le (show 0 ≤ w.Volume by omega)
  have hz := (sizes_ok hs).2.2 v (by omega)
  rw [← hv] at hz
  omega
theorem wrE_fit {sizes : List Int} {l : List api_Write} {k : Nat} (h : wrE sizes l k = 0) : fitE sizes (ix l (k : Int)) = 0 := by
  unfold wrE at h
  split at h
  · rename_i q; exact absurd h q
  · rename_i q; exact Classical.not_not.1 q
theorem wr_round {sizes : List Int} {l : List api_Write} {k : Nat} (hs : ¬ sizesE sizes ≠ 0) (hz : ∀ j, j < k → wrE sizes l j = 0) (hk : k ≠ 0) : 0 ≤ (ix l ((k : Int) - 1)).Start ∧ (ix l ((k : Int) - 1)).Start + ((ix l ((k : Int) - 1)).Data.length : Int) ≤ 4096 := by
  have := fitE_zero hs (wrE_fit (hz (k - 1) (by omega)))
  rw [show ((k - 1 : Nat) : Int) = (k : Int) - 1 by omega] at this
  omega
theorem ref22_Check_ok {sizes : List Int} {l : List api_Write} {Φ : Int → Prop} (hl : l.length ≤ 1000000) (hs : ¬ sizesE sizes ≠ 0) (hΦ : Φ (wrsE sizes l)) : ref22_Check_W l sizes Φ := by
  refine ref07_Sizes_ok ⟨fun q => absurd q hs, fun _ => ?_⟩
  refine LoopW.firstL _ _ hΦ (fun k rec hk hz h1 h2 => ⟨fun _ => ⟨iX (by omega) (by omega), ref07_FitsSizes_ok hs ⟨fun q => ?_, fun q => ⟨fun h0 => ?_, fun h0 => ?_⟩⟩⟩, fun q => absurd (by omega) q⟩) fun rec h1 _ => ⟨fun q => absurd q (by omega), fun _ => h1⟩
  · have e : wrE sizes l k = fitE sizes (ix l (k : Int)) := if_pos q
    rw [e] at h1; exact h1 q
  · exact ⟨iI (by omega) (by omega), h2 (by unfold wrE; rw [if_neg q, if_pos (by omega)])⟩
  · have hr := wr_round hs hz (show k ≠ 0 by omega)
    refine ⟨iI (by omega) (by omega), iX (by omega) (by omega), fun _ _ => ⟨iI (by omega) (by omega), iI (by omega) (by omega)⟩, fun q2 => ?_, fun q2 => ⟨iI (by omega) (by omega), h2 ?_⟩⟩
    · have e : wrE sizes l k = 3 := by unfold wrE; rw [if_neg q, if_neg (by omega), if_pos (by unfold orderB; omega)]
      rw [e] at h1; exact h1 (by omega)
    · unfold wrE; rw [if_neg q, if_neg (by omega), if_neg (by unfold orderB; omega)]
theorem ref23_positions_ok {l : List Int} {Φ : Int → Prop} (hl : ¬ 8 < (l.length : Int)) (hΦ : Φ (posE l)) : ref23_positions_W l Φ := by
  unfold posE at hΦ
  rw [if_neg hl] at hΦ
  refine LoopW.firstL _ _ hΦ (fun k rec hk _ h1 h2 => ⟨fun _ => ⟨iX (by omega) (by omega), fun q => ?_, fun q => ⟨iI (by omega) (by omega), h2 (if_neg q)⟩⟩, fun q => absurd (by omega) q⟩) fun rec h1 _ => ⟨fun q => absurd q (by omega), fun _ => h1⟩
  have := h1 (by rw [if_pos q]; omega)
  rw [if_pos q] at this; exact this
theorem ref23_Check_ok {c : api_Cycle} {sizes : List Int} {Φ : Int → Prop} (hw : c.Writes.length ≤ 1000000) (hΦ : Φ (cycE c sizes)) : ref23_Check_W c sizes Φ := by
  unfold cycE at hΦ
  refine ref07_Sizes_ok ⟨fun q => by rw [if_pos q] at hΦ; exact hΦ, fun q => ⟨fun q2 => by rw [if_neg q, if_pos q2] at hΦ; exact hΦ, fun q2 => ⟨fun q3 => by rw [if_neg q, if_neg q2, if_pos q3] at hΦ; exact hΦ, fun q3 => ?_⟩⟩⟩
  rw [if_neg q, if_neg q2, if_neg q3] at hΦ
  refine ⟨fun q4 => ?_, fun q4 => ref23_positions_ok q4 ⟨fun q5 => by rw [if_pos q5] at hΦ; exact hΦ, fun q5 => ?_⟩⟩
  · have e : posE c.Positions = 6 := if_pos q4
    rw [e] at hΦ; exact hΦ
  · rw [if_neg q5] at hΦ; exact ref22_Check_ok hw q hΦ
theorem contains_ok {p : Nat → Bool} {n : Nat} {e : Int} {Φ : Int → Prop} (he : e ≠ 0) (hΦ : Φ (firstN (fun k => if p k = true then e else 0) n)) : (decide (0 ≤ idxN p n) = true → Φ e) ∧ (¬ (decide (0 ≤ idxN p n) = true) → Φ 0) := by
  rw [decide_eq_true_iff, idxN_nonneg]
  refine ⟨fun ⟨k, hk, hp⟩ => ?_, fun q => ?_⟩
  · have hne : firstN (fun k => if p k = true then e else 0) n ≠ 0 := fun q0 => by
      have := firstN_zero.1 q0 k hk
      rw [if_pos hp] at this; exact he this
    have h2 : ∀ m, firstN (fun k => if p k = true then e else 0) m = 0 ∨ firstN (fun k => if p k = true then e else 0) m = e := by
      intro m
      induction m with
      | zero => exact .inl rfl
      | succ m ih =>
        unfold firstN
        split
        · exact ih
        · split <;> simp
    rw [(h2 _).resolve_left hne] at hΦ; exact hΦ
  · rw [firstN_zero.2 fun k hk => if_neg fun hp => q ⟨k, hk, hp⟩] at hΦ; exact hΦ
theorem cycle_positions_ok {l : List Int} {Φ : Int → Prop} (hl : l.length ≤ 1000000) (hΦ : Φ (posE l)) : cycle_positions_W l 0 Φ := by
  unfold posE at hΦ
  have hd : (decide ((0 : Int) ≤ (l.length : Int) ∧ (l.length : Int) ≤ 8) = true) ↔ ¬ 8 < (l.length : Int) := by rw [decide_eq_true_iff]; omega
  refine ⟨fun q => by rw [if_pos (by rw [hd] at q; exact Classical.not_not.1 q)] at hΦ; exact hΦ, fun q => ?_⟩
  rw [if_neg (hd.1 (Classical.not_not.1 q))] at hΦ
  have e : (fun k : Nat => if ix l (k : Int) < 0 ∨ 1073741824 < ix l (k : Int) then (2 : Int) else 0) = fun k : Nat => if decide (¬ (decide ((0 : Int) ≤ ix l (k : Int) ∧ ix l (k : Int) ≤ 1073741824) = true)) = true then 2 else 0 := by
    funext k
    by_cases h : ix l (k : Int) < 0 ∨ 1073741824 < ix l (k : Int)
    · rw [if_pos h, if_pos (decide_eq_true (by rw [decide_eq_true_iff]; omega))]
    · rw [if_neg h, if_neg (by rw [decide_eq_true_iff, decide_eq_true_iff]; omega)]
  rw [e] at hΦ
  refine LoopW.idxL (Φ := fun v => (decide (0 ≤ v) = true → Φ 2) ∧ (¬ (decide (0 ≤ v) = true) → Φ 0)) l.length _ (contains_ok (by omega) hΦ) (fun k rec hk h1 h2 => ⟨fun _ => ⟨iX (by omega) (by omega), h1, fun q => ⟨iI (by omega) (by omega), h2 (by simpa using q)⟩⟩, fun q => absurd (by omega) q⟩) fun rec h1 => ⟨fun q => absurd q (by omega), fun _ => h1⟩
def zeroIm (sizes : List Int) : List (List Sec) := sizes.map fun n => List.replicate n.toNat sec0
theorem szs_zero {sizes : List Int} (h : ¬ sizesE sizes ≠ 0) : szs (zeroIm sizes) = sizes := by
  have hs := sizes_ok h
  unfold szs zeroIm
  rw [List.map_map]
  apply ext_ix (by simp)
  intro k hk
  rw [List.length_map] at hk
  rw [ix_get (by rw [List.length_map]; exact hk), List.getElem_map]
  have := hs.2.2 k hk
  rw [ix_get hk] at this ⊢
  simp only [Function.comp, List.length_replicate]
  omega
theorem image_New_ok {sizes : List Int} {Φ : List (List Sec) × Int → Prop} (h1 : sizesE sizes ≠ 0 → Φ ([], sizesE sizes)) (h2 : ¬ sizesE sizes ≠ 0 → Φ (zeroIm sizes, 0)) : image_New_W sizes Φ := by
  refine image_checkSizes_ok ⟨fun q => h1 q, fun q => ?_⟩
  have hs := sizes_ok q
  refine ⟨by omega, iL (by omega) (by omega), ?_⟩
  refine LoopW.mapL sizes (fun n => List.replicate n.toNat sec0) (fun k acc rec hk hal _ hrec => ⟨fun _ => ⟨iX (by omega) (by omega), ?_⟩, fun q => absurd (by omega) q⟩) fun rec => ⟨fun q => absurd q (by omega), fun _ => h2 q⟩
  have := hs.2.2 k hk
  exact ⟨by omega, iL (by omega) (by omega), iL (by simp only [List.length_append, List.length_cons, List.length_nil]; omega) (by omega), iI (by omega) (by omega), hrec⟩
theorem image_fits_ok {im : List (List Sec)} {w : api_Write} {Φ : Int → Prop} (hs : ¬ sizesE (szs im) ≠ 0) (hd : w.Data.length ≤ 1000000) (hΦ : Φ (fitE (szs im) w)) : image_fits_W im w Φ := by
  unfold fitE at hΦ
  rw [szs_len] at hΦ
  refine ⟨fun q => by rw [if_pos q] at hΦ; exact hΦ, fun q => ⟨fun q2 => by rw [if_neg q, if_pos q2] at hΦ; exact hΦ, fun q2 => ?_⟩⟩
  rw [if_neg q, if_neg q2] at hΦ
  obtain ⟨v, hv⟩ := Int.eq_ofNat_of_zero_le (show 0 ≤ w.Volume by omega)
  have hz := (sizes_ok hs).2.2 v (by rw [szs_len]; omega)
  rw [hv] at hΦ ⊢
  rw [ix_szs (show v < im.length by omega)] at hΦ hz
  refine ⟨fun q3 => ⟨iX (by omega) (by omega), iI (by omega) (by omega)⟩, fun q3 => ?_, fun q3 => ?_⟩
  · rw [if_pos (by omega)] at hΦ; exact hΦ
  · rw [if_neg (by omega)] at hΦ; exact hΦ
theorem image_Fits_ok {im : List (List Sec)} {w : api_Write} {Φ : Int → Prop} (hs : ¬ sizesE (szs im) ≠ 0) (hd : w.Data.length ≤ 1000000) (hΦ : Φ (fitE (szs im) w)) : image_Fits_W im w Φ := by
  have h8 := (sizes_ok hs).1
  rw [szs_len] at h8
  exact image_Check_ok (by omega) ⟨fun q => absurd q hs, fun _ => image_fits_ok hs hd hΦ⟩
theorem coalesce_check_ok {im : List (List Sec)} {l : List api_Write} {Φ : Int → Prop} (hs : ¬ sizesE (szs im) ≠ 0) (hl : l.length ≤ 1000000) (hd : ∀ w ∈ l, w.Data.length ≤ 1000000) (hΦ : Φ (wrsE (szs im) l)) : coalesce_check__coalesce_Check_1_W l im Φ := by
  refine LoopW.firstL _ _ hΦ (fun k rec hk hz h1 h2 => ⟨fun hlt => ⟨iX (by omega) (by omega), image_Fits_ok hs (hd _ (ix_mem (iX (by omega) hlt))) ⟨fun q => ?_, fun q => ⟨fun h0 => ?_, fun h0 => ?_⟩⟩⟩, fun q => absurd (by omega) q⟩) fun rec h1 _ => ⟨fun q => absurd q (by omega), fun _ => h1⟩
  · have e : wrE (szs im) l k = fitE (szs im) (ix l (k : Int)) := if_pos q
    rw [e] at h1; exact h1 q
  · exact ⟨iI (by omega) (by omega), h2 (by unfold wrE; rw [if_neg q, if_pos (by omega)])⟩
  · have hr := wr_round hs hz (show k ≠ 0 by omega)
    refine ⟨iI (by omega) (by omega), iX (by omega) (by omega), fun _ _ => iI (by omega) (by omega), fun q2 => ?_, fun q2 => ⟨iI (by omega) (by omega), h2 ?_⟩⟩
    · have e : wrE (szs im) l k = 3 := by unfold wrE; rw [if_neg q, if_neg (by omega), if_pos (by unfold orderB; omega)]
      rw [e] at h1; exact h1 (by omega)
    · unfold wrE; rw [if_neg q, if_neg (by omega), if_neg (by unfold orderB; omega)]
theorem coalesce_Check_ok {sizes : List Int} {l : List api_Write} {Φ : Int → Prop} (hs : ¬ sizesE sizes ≠ 0) (hl : l.length ≤ 1000000) (hd : ∀ w ∈ l, w.Data.length ≤ 1000000) (hΦ : Φ (wrsE sizes l)) : coalesce_Check_W l sizes Φ := by
  refine image_New_ok (fun q => absurd q hs) fun _ => ⟨fun q => absurd rfl q, fun _ => ?_⟩
  have e := szs_zero hs
  exact coalesce_check_ok (im := zeroIm sizes) (by rw [e]; exact hs) hl hd (by rw [e]; exact hΦ)
theorem cycle_Check_ok {c : api_Cycle} {sizes : List Int} {Φ : Int → Prop} (hp : c.Positions.length ≤ 1000000) (hl : c.Writes.length ≤ 1000000) (hd : ∀ w ∈ c.Writes, w.Data.length ≤ 1000000) (hΦ : Φ (cycE c sizes)) : cycle_Check_W c sizes Φ := by
  unfold cycE at hΦ
  refine image_New_ok (fun q => ⟨fun _ => by rw [if_pos q] at hΦ; exact hΦ, fun q2 => absurd q q2⟩) fun q => ⟨fun q2 => absurd rfl q2, fun _ => ⟨fun q2 => by rw [if_neg q, if_pos q2] at hΦ; exact hΦ, fun q2 => ?_⟩⟩
  rw [if_neg q, if_neg q2] at hΦ
  have hd3 : (decide ((0 : Int) ≤ c.Time ∧ c.Time ≤ 1073741824) = true) ↔ ¬ (c.Time < 0 ∨ 1073741824 < c.Time) := by rw [decide_eq_true_iff]; omega
  refine ⟨fun q3 => by rw [if_pos (by rw [hd3] at q3; exact Classical.not_not.1 q3)] at hΦ; exact hΦ, fun q3 => ?_⟩
  rw [if_neg (hd3.1 (Classical.not_not.1 q3))] at hΦ
  exact cycle_positions_ok hp ⟨fun q4 => by rw [if_pos q4] at hΦ; exact hΦ, fun q4 => by rw [if_neg q4] at hΦ; exact coalesce_Check_ok q hl hd hΦ⟩
end Go.Proofs.YtahlanamngfkcaaDoor

namespace Go.Proofs.YtahlanamngfkcaaDoor
open Go.RowKit
theorem exts_within {b : api_Bitmap} {n : Nat} (hn : b.Size = (n : Int)) : ∀ i : Nat, i < (exts b).length → 0 ≤ (ix (exts b) (i : Int)).Start ∧ 0 ≤ (ix (exts b) (i : Int)).Count ∧ (ix (exts b) (i : Int)).Start + (ix (exts b) (i : Int)).Count ≤ (n : Int) := by
  intro i hi
  unfold exts at hi ⊢
  rw [List.length_map] at hi
  rw [ix_toX]
  by_cases h : chk b.Size b.Words ≠ 0
  · rw [extR_form h] at hi; exact absurd hi (Nat.not_lt_zero _)
  · rw [extR_ok h (k := n) (by omega)] at hi ⊢
    exact exB_get (extsK_facts b.Words n).1 hi
theorem marks_within {a b : api_Point} (hf : Fit a b) (hi : b.Image.length = a.Image.length) (hz : ∀ k : Nat, k < a.Image.length → (ix b.Image (k : Int)).length = (ix a.Image (k : Int)).length) : Within b.Image (marks a b) := by
  have hml := (marks_len a b).1
  have hda := hf.da
  have hdb := hf.db
  have h8 := hf.n8
  have hk : ∀ v : Nat, v < b.Image.length → ix (marks a b) (v : Int) = markK a b v := by
    intro v hv
    rw [ix_get (by omega)]
    unfold marks
    rw [List.getElem_map, List.getElem_range]
  refine ⟨by omega, by omega, fun v hv => ?_, fun v hv => ?_⟩
  · rw [hk v hv]
    refine ⟨?_, exts_len _⟩
    rw [hz v (by omega)]; exact hf.len (by omega)
  · rw [hk v hv]
    unfold markK
    refine exts_within ?_
    rw [(hf.or (show v < a.Image.length by omega)).1, hz v (by omega)]
    exact (hf.ca v (by omega)).2
def zeroC : api_Cycle := ⟨0, 0, 0, [], []⟩
def cycOf (a b : api_Point) (n t : Int) (ps : List Int) : api_Cycle := ⟨(ancR a.Lineage b.Lineage).1, n, t, ps, cont b.Image (betR a b).1 b.Image.length⟩
def cycR (a b : api_Point) (n t : Int) (ps : List Int) : api_Cycle × Int :=
  if (betR a b).2 ≠ 0 then (zeroC, (betR a b).2) else if n ≤ (ancR a.Lineage b.Lineage).1 ∨ n < lastTo b.Lineage then (zeroC, 2) else if cycE (cycOf a b n t ps) (szs b.Image) ≠ 0 then (zeroC, cycE (cycOf a b n t ps) (szs b.Image)) else (cycOf a b n t ps, 0)
theorem betR_zero {a b : api_Point} (h : ¬ (betR a b).2 ≠ 0) : (betR a b).1 = marks a b ∧ ptE a = 0 ∧ ptE b = 0 ∧ sameSz a.Image b.Image = true ∧ Fit a b ∧ Within b.Image (marks a b) := by
  unfold betR at h ⊢
  by_cases h1 : ptE a ≠ 0
  · rw [if_pos h1] at h; exact absurd h1 h
  by_cases h2 : ptE b ≠ 0
  · rw [if_neg h1, if_pos h2] at h; exact absurd h2 h
  by_cases h3 : sameSz a.Image b.Image = true
  · rw [if_neg h1, if_neg h2, if_neg (fun q => q h3)]
    have hf := fit_of (Classical.not_not.1 h1) (Classical.not_not.1 h2) h3
    have hl : a.Image.length = b.Image.length := by
      have := congrArg List.length (of_decide_eq_true h3)
      rwa [szs_len, szs_len] at this
    refine ⟨rfl, Classical.not_not.1 h1, Classical.not_not.1 h2, h3, hf, marks_within hf hl.symm fun k hk => ?_⟩
    rw [sameSz_allN hl, allN_true] at h3
    have := of_decide_eq_true (h3 k hk)
    omega
  · rw [if_neg h1, if_neg h2, if_pos h3] at h; exact absurd (by simp) h
theorem cont_data {im : List (List Sec)} {l : List (List api_Extent)} (h : Within im l) {n : Nat} (hn : n ≤ im.length) : ∀ w ∈ cont im l n, w.Data.length ≤ 1000000 := by
  intro w hw
  unfold cont at hw
  rw [List.mem_flatMap] at hw
  obtain ⟨v, hv, hw⟩ := hw
  unfold contV at hw
  rw [List.mem_map] at hw
  obtain ⟨i, _, rfl⟩ := hw
  have h1 := (h.small v (by have := List.mem_range.1 hv; omega)).1
  have h2 := sub_le (ix im (v : Int)) (ix (ix l (v : Int)) (i : Int)).Start ((ix (ix l (v : Int)) (i : Int)).Start + (ix (ix l (v : Int)) (i : Int)).Count)
  show (sub _ _ _).length ≤ _
  omega
theorem ref47_Cycle_ok {a b : api_Point} {n t : Int} {ps : List Int} {Φ : api_Cycle × Int → Prop} (ha : a.Lineage.length ≤ 1000000) (hb : b.Lineage.length ≤ 1000000) (ha2 : a.Image.length ≤ 100000) (hb2 : b.Image.length ≤ 100000) (hp : ps.length ≤ 1000000) (hΦ : Φ (cycR a b n t ps)) : ref47_Cycle_W a b n t ps Φ := by
  unfold cycR at hΦ
  refine ref46_Between_ok ha hb ha2 hb2 ⟨fun q => by rw [if_pos q] at hΦ; exact hΦ, fun q => ref46_Ancestor_ok ha hb ⟨fun _ => ⟨iI (by omega) (by omega), iX (by omega) (by omega)⟩, fun q2 => ?_, fun q2 => ?_⟩⟩
  · have e : (if 0 < (b.Lineage.length : Int) then (ix b.Lineage ((b.Lineage.length : Int) - 1)).To else 0) = lastTo b.Lineage := by
      unfold lastTo
      by_cases h : (b.Lineage.length : Int) = 0
      · rw [if_pos h, if_neg (by omega)]
      · rw [if_neg h, if_pos (by omega)]
    rw [e] at q2
    rw [if_neg q, if_pos q2] at hΦ; exact hΦ
  · have e : (if 0 < (b.Lineage.length : Int) then (ix b.Lineage ((b.Lineage.length : Int) - 1)).To else 0) = lastTo b.Lineage := by
      unfold lastTo
      by_cases h : (b.Lineage.length : Int) = 0
      · rw [if_pos h, if_neg (by omega)]
      · rw [if_neg h, if_pos (by omega)]
    rw [e] at q2
    rw [if_neg q, if_neg q2] at hΦ
    obtain ⟨e1, _, _, _, _, hw⟩ := betR_zero q
    have hl := hw.len
    have hw' : Within b.Image (betR a b).1 := by rw [e1]; exact hw
    refine ⟨iL (by rw [List.nil_append]; exact hp) (by omega), cont b.Image (betR a b).1 b.Image.length, ref47_Contents_ok hw' (by rw [hw'.len]), szs b.Image, ref07_SizesOf_ok hb2 rfl, cycE (cycOf a b n t ps) (szs b.Image), ref23_Check_ok ?_ rfl, fun q3 => ?_, fun q3 => ?_⟩
    · have := cont_len hw' (n := b.Image.length) (Nat.le_refl _)
      have := hw.n8
      show (cont b.Image (betR a b).1 b.Image.length).length ≤ 1000000
      omega
    · rw [if_pos q3] at hΦ; exact hΦ
    · rw [if_neg q3] at hΦ; exact hΦ
theorem reverse_Cycle_ok {a b : api_Point} {n t : Int} {ps : List Int} {Φ : api_Cycle × Int → Prop} (ha : a.Lineage.length ≤ 1000000) (hb : b.Lineage.length ≤ 1000000) (ha2 : a.Image.length ≤ 100000) (hb2 : b.Image.length ≤ 100000) (hp : ps.length ≤ 1000000) (hΦ : Φ (cycR a b n t ps)) : reverse_Cycle_W a b n t ps Φ := by
  unfold cycR at hΦ
  refine delta_Between_ok ha hb ha2 hb2 ⟨fun q => by rw [if_pos q] at hΦ; exact hΦ, fun q => delta_Ancestor_ok ha hb ⟨fun q2 => by rw [if_neg q, if_pos (.inl q2)] at hΦ; exact hΦ, fun q2 => reverse_last_ok hb ⟨fun q3 => by rw [if_neg q, if_pos (.inr q3)] at hΦ; exact hΦ, fun q3 => cloneI_ok hp ?_⟩⟩⟩
  rw [if_neg q, if_neg (by omega)] at hΦ
  obtain ⟨e1, _, _, _, _, hw⟩ := betR_zero q
  have hw' : Within b.Image (betR a b).1 := by rw [e1]; exact hw
  have hl := hw'.len
  have h8 := hw'.n8
  have hszl := szs_len b.Image
  refine LoopW.upS b.Image.length (fun s : List api_Write × List Int × Int => s.2.2) (fun k s => s.1 = cont b.Image (betR a b).1 k ∧ s.2.1 = (szs b.Image).take k) ?_ 0 rfl (Nat.zero_le _) ⟨rfl, rfl⟩
  rintro k ⟨ws, sz, i⟩ rec hk hi ⟨hws, hsz⟩ hrec
  simp only at hi hws hsz
  subst hi
  subst hws
  have hsl : sz.length = k := by rw [hsz, List.length_take]; omega
  refine ⟨fun hlt => ?_, fun hge => ?_⟩
  · have hk' : k < b.Image.length := by omega
    have hsm := hw'.small k hk'
    have hcl := cont_len hw' (n := k) (by omega)
    refine ⟨iX (by omega) (by omega), iL (by simp only [List.length_append, List.length_cons, List.length_nil]; omega) (by omega), iX (by omega) (by omega), ?_⟩
    refine LoopW.up2 (ix (betR a b).1 (k : Int)).length (fun m acc => acc = cont b.Image (betR a b).1 k ++ contV b.Image (betR a b).1 k m) ?_ rfl (Nat.zero_le _) (by simp [contV])
    rintro m _ rec2 hm rfl hrec2
    have hvl := contV_len b.Image (betR a b).1 k m
    refine ⟨fun hmlt => ?_, fun hmge => ⟨iI (by omega) (by omega), hrec _ (by omega) rfl ⟨?_, ?_⟩⟩⟩
    · have he := hw'.ext k hk' m (by omega)
      have hsb := sub_le (ix b.Image (k : Int)) (ix (ix (betR a b).1 (k : Int)) (m : Int)).Start ((ix (ix (betR a b).1 (k : Int)) (m : Int)).Start + (ix (ix (betR a b).1 (k : Int)) (m : Int)).Count)
      refine ⟨iX (by omega) (by omega), iI (by omega) (by omega), iS (by omega) (by omega) (by omega), _, cloneS_ok (by omega) rfl, iL (by simp only [List.length_append, List.length_cons, List.length_nil]; omega) (by omega), iI (by omega) (by omega), hrec2 _ (by omega) ?_⟩
      rw [contV_succ, List.append_assoc]; rfl
    · rw [cont_succ, show (ix (betR a b).1 (k : Int)).length = m by omega]
    · simp only
      rw [hsz, take_ix (by rw [szs_len]; exact hk'), ix_szs hk']
  · have hke : k = b.Image.length := by omega
    rw [List.take_of_length_le (by omega)] at hsz
    subst hsz
    subst hke
    refine cycle_Check_ok hp ?_ (cont_data hw' (Nat.le_refl _)) ⟨fun q4 => ?_, fun q4 => ?_⟩
    · have := cont_len hw' (n := b.Image.length) (Nat.le_refl _)
      show (cont b.Image (betR a b).1 b.Image.length).length ≤ 1000000
      omega
    · have q5 : cycE (cycOf a b n t ps) (szs b.Image) ≠ 0 := q4
      rw [if_pos q5] at hΦ; exact hΦ
    · have q5 : ¬ cycE (cycOf a b n t ps) (szs b.Image) ≠ 0 := q4
      rw [if_neg q5] at hΦ; exact hΦ
theorem ref23_SameInts_refl {l : List Int} {Φ : Bool → Prop} (hl : l.length ≤ 1000000) (hΦ : Φ true) : ref23_SameInts_W l l Φ := by
  refine ⟨fun h => absurd rfl h, fun _ => LoopW.up l.length (fun _ => True) ?_ (k0 := 0) rfl (Nat.zero_le _) trivial⟩
  intro k rec hk _ hrec
  exact ⟨fun hlt => ⟨iX (by omega) hlt, iX (by omega) hlt, fun q => absurd rfl q, fun _ => ⟨iI (by omega) (by omega), hrec (by omega) trivial⟩⟩, fun _ => hΦ⟩
theorem ref03_SameSectors_refl {l : List Sec} {Φ : Bool → Prop} (hl : l.length ≤ 1000000) (hΦ : Φ true) : ref03_SameSectors_W l l Φ := by
  refine ⟨fun h => absurd rfl h, fun _ => LoopW.up l.length (fun _ => True) ?_ (k0 := 0) rfl (Nat.zero_le _) trivial⟩
  intro k rec hk _ hrec
  exact ⟨fun hlt => ⟨iX (by omega) hlt, iX (by omega) hlt, fun q => absurd rfl q, fun _ => ⟨iI (by omega) (by omega), hrec (by omega) trivial⟩⟩, fun _ => hΦ⟩
theorem ref03_SameWrites_refl {l : List api_Write} {Φ : Bool → Prop} (hl : l.length ≤ 1000000) (hd : ∀ w ∈ l, w.Data.length ≤ 1000000) (hΦ : Φ true) : ref03_SameWrites_W l l Φ := by
  refine ⟨fun h => absurd rfl h, fun _ => LoopW.up l.length (fun _ => True) ?_ (k0 := 0) rfl (Nat.zero_le _) trivial⟩
  intro k rec hk _ hrec
  exact ⟨fun hlt => ⟨iX (by omega) hlt, iX (by omega) hlt, fun q => absurd rfl q, fun _ => ⟨fun q => absurd rfl q, fun _ => ⟨true, ref03_SameSectors_refl (hd _ (ix_mem (iX (by omega) hlt))) rfl, fun q => absurd rfl q, fun _ => ⟨iI (by omega) (by omega), hrec (by omega) trivial⟩⟩⟩⟩, fun _ => hΦ⟩
theorem ref23_Same_refl {c : api_Cycle} {Φ : Bool → Prop} (hp : c.Positions.length ≤ 1000000) (hl : c.Writes.length ≤ 1000000) (hd : ∀ w ∈ c.Writes, w.Data.length ≤ 1000000) (hΦ : Φ true) : ref23_Same_W c c Φ :=
  ⟨fun _ => ⟨fun _ => ⟨fun _ => ref23_SameInts_refl hp ⟨fun _ => ref03_SameWrites_refl hl hd hΦ, fun q => absurd rfl q⟩, fun q => absurd rfl q⟩, fun q => absurd rfl q⟩, fun q => absurd rfl q⟩
theorem cycR_small {a b : api_Point} {n t : Int} {ps : List Int} (hp : ps.length ≤ 1000000) : (cycR a b n t ps).1.Positions.length ≤ 1000000 ∧ (cycR a b n t ps).1.Writes.length ≤ 1000000 ∧ ∀ w ∈ (cycR a b n t ps).1.Writes, w.Data.length ≤ 1000000 := by
  have z : zeroC.Positions.length ≤ 1000000 ∧ zeroC.Writes.length ≤ 1000000 ∧ ∀ w ∈ zeroC.Writes, w.Data.length ≤ 1000000 := ⟨by decide, by decide, fun w hw => absurd hw List.not_mem_nil⟩
  unfold cycR
  split
  · exact z
  rename_i q
  split
  · exact z
  split
  · exact z
  obtain ⟨e1, _, _, _, _, hw⟩ := betR_zero q
  rw [← e1] at hw
  have h1 := cont_len hw (n := b.Image.length) (Nat.le_refl _)
  have h8 := hw.n8
  exact ⟨hp, by show (cont b.Image (betR a b).1 b.Image.length).length ≤ 1000000; omega, cont_data hw (Nat.le_refl _)⟩
theorem reverseCycles_law (a b : api_Point) (x : standbylaw47_Target) (_ : Rg.rg a) (_ : Rg.rg b) (_ : Rg.rg x) : law47_ReverseCycles_W a b x fun v => v = true := by
  refine ref47_Few_ok ⟨fun _ => law47_awake_ok rfl, fun q => absurd (by simp) q⟩ fun ha => ⟨fun q => absurd rfl q, fun _ => ref47_Few_ok ⟨fun _ => law47_awake_ok rfl, fun q => absurd (by simp) q⟩ fun hb => ⟨fun q => absurd rfl q, fun _ => ⟨fun _ => law47_awake_ok rfl, fun hx => ?_⟩⟩⟩
  have h1 := ha.lin
  have h3 := ha.img
  have h4 := hb.lin
  have h6 := hb.img
  have hp : x.Positions.length ≤ 1000000 := by omega
  obtain ⟨s1, s2, s3⟩ := cycR_small (a := a) (b := b) (n := x.Number) (t := x.Time) hp
  exact reverse_Cycle_ok (by omega) (by omega) (by omega) (by omega) hp (ref47_Cycle_ok (by omega) (by omega) (by omega) (by omega) hp (law47_awake_ok ⟨fun _ => ref23_Same_refl s1 s2 s3 ⟨fun _ => decide_eq_true rfl, fun q => absurd rfl q⟩, fun q => absurd rfl q⟩))
end Go.Proofs.YtahlanamngfkcaaDoor

namespace Go.Proofs.YtahlanamngfkcaaDoor
open Go.RowKit Go.ChangeShapes Go.WideShapes Go.ChangeAt
set_option maxRecDepth 100000 in
theorem reverseCycles_lifted (os : Os) (started : os.Started) (H : Type) (enc : TypeId × Value → H) :
    ReturnsInHanded {} Tryd.checked os 4 .any (fun w args => (Rows.reverseCyclesSpec.pre enc Tryd.prog Tryd.f4 [] false w args ∧ laidMetH Tryd.prog [("math/bits.deBruijn64tab", Rows.laid_math_bits_deBruijn64tab)] w) ∧ sizedMet enc Tryd.prog Tryd.f4 (OpenSpec.ofChange Rows.reverseCyclesSpec) false w args)
      (Rows.reverseCyclesSpec.post enc Tryd.prog Tryd.f4 false true false false) := by
  refine returnsInHanded_of_change_and (C := Tryd.checked) (X := fun w _ => laidMetH Tryd.prog [("math/bits.deBruijn64tab", Rows.laid_math_bits_deBruijn64tab)] w) (fun _ _ _ hh h => h.of_heap hh) Tryd.own started (by kernel_rfl) Tryd.func4
    (ChangeSpec.witness_shaped (enc := enc) (C := Tryd.checked) (os := os) (X := fun w _ => laidMetH Tryd.prog [("math/bits.deBruijn64tab", Rows.laid_math_bits_deBruijn64tab)] w) false (World.doorLaid Tryd.prog 14 os) #[.agg #[.int .i64 (0), .slice none 0 0, .slice none 0 0, .slice none 0 0], .agg #[.int .i64 (0), .slice none 0 0, .slice none 0 0, .slice none 0 0], .agg #[.int .i64 (0), .int .i64 (0), .slice none 0 0]] 8 rfl (World.shaped_of_RefB (by kernel_rfl) (by kernel_rfl)) (by kernel_rfl) (by kernel_rfl) (by kernel_rfl) (Tryd.doorMet os _)) ?_
  intro W base args ds gs before hval0 hW _ _ hL _
  have hval : ∀ (j : Nat) t v, Tryd.f4.params[j]? = some t → args[j]? = some v → Value.okWide Tryd.prog W .any base t v := hval0
  have hW' := hW
  obtain ⟨p, q, hA0, hV, hpq, _, _⟩ := hW
  have hA : DataW.TrodAll enc Tryd.prog W 0 (fun _ => true) true Tryd.f4.params.toList args.toList ds p := hA0
  rw [Tryd.params4] at hA hval
  obtain ⟨v0, v1, v2, d0, d1, d2, p0, p1, p2, rfl, rfl, rfl, h0, h1, h2⟩ := trodAll_three hA
  obtain ⟨rfl, rfl⟩ := trodVars_none hV
  have hT := tabHolds hL
  obtain ⟨_, x0, rfl, hr0, hg0⟩ := open_strD Tryd.underlying27 rd27 (hval 0 27 v0 rfl rfl) h0
  obtain ⟨A23, n23, c23, s23, A24, n24, c24, s24, A25, n25, c25, s25, rfl, hF23, hF24, hF25⟩ := hr0
  obtain ⟨_, x1, rfl, hr1, hg1⟩ := open_strD Tryd.underlying27 rd27 (hval 1 27 v1 rfl rfl) h1
  obtain ⟨A27, n27, c27, s27, A28, n28, c28, s28, A29, n29, c29, s29, rfl, hF27, hF28, hF29⟩ := hr1
  obtain ⟨_, x2, rfl, hr2, hg2⟩ := open_strD Tryd.underlying42 rd42 (hval 2 42 v2 rfl rfl) h2
  obtain ⟨A31, n31, c31, s31, rfl, hF31⟩ := hr2
  refine Calls.mono ((RetP.toV (y := true) (F := fun z => .bool z) (law47_ReverseCycles_lift hT x0 x1 x2 hF23 hF24 hF25 hF27 hF28 hF29 hF31 (reverseCycles_law x0 x1 x2 hg0 hg1 hg2))) W fun b o e => e) ?_
  rintro e W' ⟨v, _, rfl, _, _, _, hb, rfl⟩
  exact ⟨_, rfl, post_law Tryd.laidOut Tryd.underlying4 rfl (by kernel_rfl) hW' rfl rfl hb⟩
theorem reverseCycles_holds : Rows.ReverseCyclesSaid :=
  OpenClaim.holds_of_wide 4 Tryd.f4 rfl rfl rfl rfl rfl rfl rfl ⟨rfl, rfl, rfl, rfl, rfl⟩ rfl rfl rfl rfl rfl (by kernel_rfl) Tryd.func4 (by kernel_rfl)
    (of_decide_eq_true (by kernel_rfl)) (by unfold Func.isWrapper; first | (rw [if_pos (by decide +kernel)]; kernel_rfl) | (rw [if_neg (by decide +kernel)]; exact ⟨rfl, rfl⟩))
    (fun os started H enc _ => reverseCycles_lifted os started H enc)
theorem reverseCycles_card : Rows.ReverseCyclesCardSaid :=
  Claim7.holds_tied_plain_at .later [] [.data] true (true, "0fbea9f7a9363770ef7d7c442e923654834488058ca280ed95a31cbd94370fd7") false
    reverseCycles_holds (fun _ h => by cases h) (by kernel_rfl) (fun _ h => by cases h) reverseCycles_row_tie rfl ⟨rfl, rfl⟩ (by kernel_rfl) rfl
    (fun f fn hf hfn => by
      obtain rfl : f = 4 := Option.some.inj ((show Tryd.prog.funcNamed "standby/standbylaw47.ReverseCycles" = some 4 by kernel_rfl).symm.trans hf) |>.symm
      obtain rfl : fn = Tryd.f4 := (Option.some.inj (Tryd.func4.symm.trans hfn)).symm
      exact ⟨by kernel_rfl, fun j t ht => by
        rw [Tryd.params4] at ht
        have hm : t ∈ [27, 42] := by
          have := Array.mem_of_getElem? ht
          simpa using this
        have hall : ([27, 42].all fun u => !Tryd.prog.wantsStandIn u) = true := by kernel_rfl
        exact (show Tryd.prog.wantsStandIn t = false by simpa using List.all_eq_true.1 hall t hm)⟩)
    (by kernel_rfl)
end Go.Proofs.YtahlanamngfkcaaDoor
