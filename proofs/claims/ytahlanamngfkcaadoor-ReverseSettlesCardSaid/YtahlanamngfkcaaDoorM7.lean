/- Proved: the tied card of the statement ReverseSettles: for every argument that can be read the law returns true and leaves its arguments as they were. Conditions: the row's own alone: the table math/bits.deBruijn64tab reads as listed, which the card ties to the program's text. -/
import Derived.Test.YtahlanamngfkcaaDoorM6
namespace Go.Proofs.YtahlanamngfkcaaDoor
open Go.RowKit
def ancL : List api_Span → List api_Span → Int → Int → Int × Int
  | x :: xs, y :: ys, c, e => if x.Epoch ≠ y.Epoch then (c, e) else if x.To ≠ y.To then (if y.To < x.To then y.To else x.To, x.Epoch) else ancL xs ys (if y.To < x.To then y.To else x.To) x.Epoch
  | [], _, c, e => (c, e)
  | _ :: _, [], c, e => (c, e)
theorem ancL_end {xs ys : List api_Span} {c e : Int} (h : xs = [] ∨ ys = []) : ancL xs ys c e = (c, e) := by
  rcases h with rfl | rfl
  · cases ys <;> rfl
  · cases xs <;> rfl
def ancR (a b : List api_Span) : Int × Int := if linB a = true ∧ linB b = true then ancL a b 0 0 else (0, 0)
theorem anc_round {a b : List api_Span} {k : Nat} (h1 : k < a.length) (h2 : k < b.length) {c e : Int} {Φ : Int × Int → Prop} (hΦ : Φ (ancL (a.drop k) (b.drop k) c e)) :
    ((ix a (k : Int)).Epoch ≠ (ix b (k : Int)).Epoch → Φ (c, e)) ∧ (¬ ((ix a (k : Int)).Epoch ≠ (ix b (k : Int)).Epoch) → ((ix a (k : Int)).To ≠ (ix b (k : Int)).To → Φ (if (ix b (k : Int)).To < (ix a (k : Int)).To then (ix b (k : Int)).To else (ix a (k : Int)).To, (ix a (k : Int)).Epoch)) ∧
      (¬ ((ix a (k : Int)).To ≠ (ix b (k : Int)).To) → Φ (ancL (a.drop (k + 1)) (b.drop (k + 1)) (if (ix b (k : Int)).To < (ix a (k : Int)).To then (ix b (k : Int)).To else (ix a (k : Int)).To) (ix a (k : Int)).Epoch))) := by
  rw [drop_ix h1, drop_ix h2] at hΦ
  unfold ancL at hΦ
  refine ⟨fun q => by rw [if_pos q] at hΦ; exact hΦ, fun q => ⟨fun q2 => ?_, fun q2 => ?_⟩⟩
  · rw [if_neg q, if_pos q2] at hΦ; exact hΦ
  · rw [if_neg q, if_neg q2] at hΦ; exact hΦ
theorem delta_Ancestor_ok {a b : List api_Span} {Φ : Int × Int → Prop} (ha : a.length ≤ 1000000) (hb : b.length ≤ 1000000) (hΦ : Φ (ancR a b)) : delta_Ancestor_W a b Φ := by
  unfold ancR at hΦ
  refine delta_correct_ok ha ⟨fun q => by rw [if_neg fun z => q z.1] at hΦ; exact hΦ, fun q => delta_correct_ok hb ⟨fun q2 => by rw [if_neg fun z => q2 z.2] at hΦ; exact hΦ, fun q2 => ?_⟩⟩
  rw [if_pos ⟨Classical.not_not.1 q, Classical.not_not.1 q2⟩] at hΦ
  refine LoopW.upS (min a.length b.length) (fun s : Int × Int × Int => s.2.2) (fun k s => Φ (ancL (a.drop k) (b.drop k) s.1 s.2.1)) ?_ 0 rfl (Nat.zero_le _) hΦ
  rintro k ⟨c, e, i⟩ rec hk hi hI hrec
  simp only at hi hI
  subst hi
  have hmin : ((k : Int) < (if (b.length : Int) < (a.length : Int) then (b.length : Int) else (a.length : Int))) ↔ k < a.length ∧ k < b.length := by split <;> omega
  refine ⟨fun h => ?_, fun h => ?_, fun h => ?_⟩
  · rw [hmin] at h; exact ⟨iX (by omega) (by omega), iX (by omega) (by omega)⟩
  · rw [hmin] at h
    obtain ⟨h1, h2⟩ := anc_round h.1.1 h.1.2 hI
    obtain ⟨h3, h4⟩ := h2 (fun z => z h.2)
    exact ⟨iX (by omega) (by omega), iX (by omega) (by omega), h3, fun z => ⟨iI (by omega) (by omega), hrec _ (by omega) rfl (h4 z)⟩⟩
  · rw [hmin] at h
    by_cases hlt : k < a.length ∧ k < b.length
    · exact (anc_round hlt.1 hlt.2 hI).1 fun z => h ⟨hlt, z⟩
    · rw [ancL_end (by
        rcases Nat.lt_or_ge k a.length with h1 | h1
        · exact .inr (List.drop_eq_nil_of_le (by omega))
        · exact .inl (List.drop_eq_nil_of_le h1))] at hI
      exact hI
theorem cloneI_ok {l : List Int} {Φ : List Int → Prop} (hl : l.length ≤ 1000000) (hΦ : Φ l) : slices_Clone_int_int_W l Φ :=
  ⟨fun h => by rw [h] at hΦ; exact hΦ, iL (by rw [List.nil_append]; exact hl) (by omega), hΦ⟩
theorem cloneS_ok {l : List Sec} {Φ : List Sec → Prop} (hl : l.length ≤ 1000000) (hΦ : Φ l) : slices_Clone_api_Sector_api_Sector_W l Φ :=
  ⟨fun h => by rw [h] at hΦ; exact hΦ, iL (by rw [List.nil_append]; exact hl) (by omega), hΦ⟩
def wrK (im : List (List Sec)) (l : List (List api_Extent)) (v i : Nat) : api_Write := ⟨(v : Int), (ix (ix l (v : Int)) (i : Int)).Start, sub (ix im (v : Int)) (ix (ix l (v : Int)) (i : Int)).Start ((ix (ix l (v : Int)) (i : Int)).Start + (ix (ix l (v : Int)) (i : Int)).Count)⟩
def contV (im : List (List Sec)) (l : List (List api_Extent)) (v m : Nat) : List api_Write := (List.range m).map (wrK im l v)
def cont (im : List (List Sec)) (l : List (List api_Extent)) (n : Nat) : List api_Write := (List.range n).flatMap fun v => contV im l v (ix l (v : Int)).length
theorem contV_succ (im : List (List Sec)) (l : List (List api_Extent)) (v m : Nat) : contV im l v (m + 1) = contV im l v m ++ [wrK im l v m] := by
  unfold contV; rw [List.range_succ, List.map_append]; rfl
theorem cont_succ (im : List (List Sec)) (l : List (List api_Extent)) (n : Nat) : cont im l (n + 1) = cont im l n ++ contV im l n (ix l (n : Int)).length := by
  unfold cont; rw [List.range_succ, List.flatMap_append]; simp
structure Within (im : List (List Sec)) (l : List (List api_Extent)) : Prop where
  len : l.length = im.length
  n8 : im.length ≤ 8
  small : ∀ v : Nat, v < im.length → (ix im (v : Int)).length ≤ 4096 ∧ (ix l (v : Int)).length ≤ 4096
  ext : ∀ v : Nat, v < im.length → ∀ i : Nat, i < (ix l (v : Int)).length → 0 ≤ (ix (ix l (v : Int)) (i : Int)).Start ∧ 0 ≤ (ix (ix l (v : Int)) (i : Int)).Count ∧ (ix (ix l (v : Int)) (i : Int)).Start + (ix (ix l (v : Int)) (i : Int)).Count ≤ ((ix im (v : Int)).length : Int)
theorem sub_le {α : Type} (xs : List α) (lo hi : Int) : (sub xs lo hi).length ≤ xs.length := by
  unfold sub; rw [List.length_take, List.length_drop]; omega
theorem contV_len (im : List (List Sec)) (l : List (List api_Extent)) (v m : Nat) : (contV im l v m).length = m := by unfold contV; simp
theorem cont_len {im : List (List Sec)} {l : List (List api_Extent)} (h : Within im l) : ∀ {n : Nat}, n ≤ im.length → (cont im l n).length ≤ 4096 * n
  | 0, _ => Nat.zero_le _
  | n + 1, hn => by
    rw [cont_succ, List.length_append, contV_len]
    have := cont_len h (n := n) (by omega)
    have := (h.small n (by omega)).2
    omega
def fitE (sizes : List Int) (w : api_Write) : Int := if w.Volume < 0 ∨ (sizes.length : Int) ≤ w.Volume then 7 else if (w.Data.length : Int) = 0 then 1 else if w.Start < 0 ∨ ix sizes w.Volume - w.Start < (w.Data.length : Int) then 2 else 0
def orderB (l : List api_Write) (k : Nat) : Prop := (ix l (k : Int)).Volume < (ix l ((k : Int) - 1)).Volume ∨ ((ix l (k : Int)).Volume = (ix l ((k : Int) - 1)).Volume ∧ (ix l (k : Int)).Start ≤ (ix l ((k : Int) - 1)).Start + ((ix l ((k : Int) - 1)).Data.length : Int))
instance (l : List api_Write) (k : Nat) : Decidable (orderB l k) := by unfold orderB; infer_instance
def wrE (sizes : List Int) (l : List api_Write) (k : Nat) : Int := if fitE sizes (ix l (k : Int)) ≠ 0 then fitE sizes (ix l (k : Int)) else if k = 0 then 0 else if orderB l k then 3 else 0
def wrsE (sizes : List Int) (l : List api_Write) : Int := firstN (wrE sizes l) l.length
def posE (l : List Int) : Int := if 8 < (l.length : Int) then 6 else firstN (fun k => if ix l (k : Int) < 0 ∨ 1073741824 < ix l (k : Int) then 2 else 0) l.length
def cycE (c : api_Cycle) (sizes : List Int) : Int :=
  if sizesE sizes ≠ 0 then sizesE sizes else if c.Base < 0 ∨ (c.Number ≤ c.Base ∨ 1073741824 < c.Number) then 2 else if c.Time < 0 ∨ 1073741824 < c.Time then 24 else if posE c.Positions ≠ 0 then posE c.Positions else wrsE sizes c.Writes
theorem sizes_ok {l : List Int} (h : ¬ sizesE l ≠ 0) : l.length ≤ 8 ∧ 1 ≤ l.length ∧ ∀ k : Nat, k < l.length → 1 ≤ ix l (k : Int) ∧ ix l (k : Int) ≤ 4096 := by
  have h0 := Classical.not_not.1 h
  unfold sizesE at h0
  split at h0
  · omega
  · refine ⟨by omega, by omega, fun k hk => ?_⟩
    have := firstN_zero.1 h0 k hk
    split at this <;> omega
theorem ref07_FitsSizes_ok {sizes : List Int} {w : api_Write} {Φ : Int → Prop} (hs : ¬ sizesE sizes ≠ 0) (hΦ : Φ (fitE sizes w)) : ref07_FitsSizes_W sizes w Φ := by
  unfold fitE at hΦ
  refine ⟨fun q => by rw [if_pos q] at hΦ; exact hΦ, fun q => ⟨fun q2 => by rw [if_neg q, if_pos q2] at hΦ; exact hΦ, fun q2 => ?_⟩⟩
  rw [if_neg q, if_neg q2] at hΦ
  obtain ⟨v, hv⟩ := Int.eq_ofNat_of_zero_le (show 0 ≤ w.Volume by omega)
  have hz := (sizes_ok hs).2.2 v (by omega)
  rw [hv] at hΦ ⊢
  refine ⟨fun q3 => ⟨iX (by omega) (by omega), fun q4 => iI (by omega) (by omega)⟩, fun q3 => ?_, fun q3 => ?_⟩
  · rw [if_pos (by omega)] at hΦ; exact hΦ
  · rw [if_neg (by omega)] at hΦ; exact hΦ
theorem fitE_zero {sizes : List Int} {w : api_Write} (hs : ¬ sizesE sizes ≠ 0) (h : fitE sizes w = 0) : 0 ≤ w.Volume ∧ w.Volume < (sizes.length : Int) ∧ 1 ≤ w.Data.length ∧ 0 ≤ w.Start ∧ w.Start + (w.Data.length : Int) ≤ ix sizes w.Volume ∧ ix sizes w.Volume ≤ 4096 := by
  unfold fitE at h
  split at h
  · omega
  split at h
  · omega
  split at h
  · omega
  obtain ⟨v, hv⟩ := Int.eq_ofNat_of_zero_le (show 0 ≤ w.Volume by omega)
  have hz := (sizes_ok hs).2.2 v (by omega)
  rw [← hv] at hz
  omega
theorem wrE_fit {sizes : List Int} {l : List api_Write} {k : Nat} (h : wrE sizes l k = 0) : fitE sizes (ix l (k : Int)) = 0 := by
  unfold wrE at h
  split at h
  · rename_i q; exact absurd h q
  · rename_i q; exact Classical.not_not.1 q
theorem wr_round {sizes : List Int} {l : List api_Write} {k : Nat} (hs : ¬ sizesE sizes ≠ 0) (hz : ∀ j, j < k → wrE sizes l j = 0) (hk : k ≠ 0) : 0 ≤ (ix l ((k : Int) - 1)).Start ∧ (ix l ((k : Int) - 1)).Start + ((ix l ((k : Int) - 1)).Data.length : Int) ≤ 4096 := by
  have := fitE_zero hs (wrE_fit (hz (k - 1) (by omega)))
  rw [show ((k - 1 : Nat) : Int) = (k : Int) - 1 by omega] at this
  omega
theorem contains_ok {p : Nat → Bool} {n : Nat} {e : Int} {Φ : Int → Prop} (he : e ≠ 0) (hΦ : Φ (firstN (fun k => if p k = true then e else 0) n)) : (decide (0 ≤ idxN p n) = true → Φ e) ∧ (¬ (decide (0 ≤ idxN p n) = true) → Φ 0) := by
  rw [decide_eq_true_iff, idxN_nonneg]
  refine ⟨fun ⟨k, hk, hp⟩ => ?_, fun q => ?_⟩
  · have hne : firstN (fun k => if p k = true then e else 0) n ≠ 0 := fun q0 => by
      have := firstN_zero.1 q0 k hk
      rw [if_pos hp] at this; exact he this
    have h2 : ∀ m, firstN (fun k => if p k = true then e else 0) m = 0 ∨ firstN (fun k => if p k = true then e else 0) m = e := by
      intro m
      induction m with
      | zero => exact .inl rfl
      | succ m ih =>
        unfold firstN
        split
        · exact ih
        · split <;> simp
    rw [(h2 _).resolve_left hne] at hΦ; exact hΦ
  · rw [firstN_zero.2 fun k hk => if_neg fun hp => q ⟨k, hk, hp⟩] at hΦ; exact hΦ
theorem cycle_positions_ok {l : List Int} {Φ : Int → Prop} (hl : l.length ≤ 1000000) (hΦ : Φ (posE l)) : cycle_positions_W l 0 Φ := by
  unfold posE at hΦ
  have hd : (decide ((0 : Int) ≤ (l.length : Int) ∧ (l.length : Int) ≤ 8) = true) ↔ ¬ 8 < (l.length : Int) := by rw [decide_eq_true_iff]; omega
  refine ⟨fun q => by rw [if_pos (by rw [hd] at q; exact Classical.not_not.1 q)] at hΦ; exact hΦ, fun q => ?_⟩
  rw [if_neg (hd.1 (Classical.not_not.1 q))] at hΦ
  have e : (fun k : Nat => if ix l (k : Int) < 0 ∨ 1073741824 < ix l (k : Int) then (2 : Int) else 0) = fun k : Nat => if decide (¬ (decide ((0 : Int) ≤ ix l (k : Int) ∧ ix l (k : Int) ≤ 1073741824) = true)) = true then 2 else 0 := by
    funext k
    by_cases h : ix l (k : Int) < 0 ∨ 1073741824 < ix l (k : Int)
    · rw [if_pos h, if_pos (decide_eq_true (by rw [decide_eq_true_iff]; omega))]
    · rw [if_neg h, if_neg (by rw [decide_eq_true_iff, decide_eq_true_iff]; omega)]
  rw [e] at hΦ
  refine LoopW.idxL (Φ := fun v => (decide (0 ≤ v) = true → Φ 2) ∧ (¬ (decide (0 ≤ v) = true) → Φ 0)) l.length _ (contains_ok (by omega) hΦ) (fun k rec hk h1 h2 => ⟨fun _ => ⟨iX (by omega) (by omega), h1, fun q => ⟨iI (by omega) (by omega), h2 (by simpa using q)⟩⟩, fun q => absurd (by omega) q⟩) fun rec h1 => ⟨fun q => absurd q (by omega), fun _ => h1⟩
def zeroIm (sizes : List Int) : List (List Sec) := sizes.map fun n => List.replicate n.toNat sec0
theorem szs_zero {sizes : List Int} (h : ¬ sizesE sizes ≠ 0) : szs (zeroIm sizes) = sizes := by
  have hs := sizes_ok h
  unfold szs zeroIm
  rw [List.map_map]
  apply ext_ix (by simp)
  intro k hk
  rw [List.length_map] at hk
  rw [ix_get (by rw [List.length_map]; exact hk), List.getElem_map]
  have := hs.2.2 k hk
  rw [ix_get hk] at this ⊢
  simp only [Function.comp, List.length_replicate]
  omega
theorem image_New_ok {sizes : List Int} {Φ : List (List Sec) × Int → Prop} (h1 : sizesE sizes ≠ 0 → Φ ([], sizesE sizes)) (h2 : ¬ sizesE sizes ≠ 0 → Φ (zeroIm sizes, 0)) : image_New_W sizes Φ := by
  refine image_checkSizes_ok ⟨fun q => h1 q, fun q => ?_⟩
  have hs := sizes_ok q
  refine ⟨by omega, iL (by omega) (by omega), ?_⟩
  refine LoopW.mapL sizes (fun n => List.replicate n.toNat sec0) (fun k acc rec hk hal _ hrec => ⟨fun _ => ⟨iX (by omega) (by omega), ?_⟩, fun q => absurd (by omega) q⟩) fun rec => ⟨fun q => absurd q (by omega), fun _ => h2 q⟩
  have := hs.2.2 k hk
  exact ⟨by omega, iL (by omega) (by omega), iL (by simp only [List.length_append, List.length_cons, List.length_nil]; omega) (by omega), iI (by omega) (by omega), hrec⟩
theorem image_fits_ok {im : List (List Sec)} {w : api_Write} {Φ : Int → Prop} (hs : ¬ sizesE (szs im) ≠ 0) (hd : w.Data.length ≤ 1000000) (hΦ : Φ (fitE (szs im) w)) : image_fits_W im w Φ := by
  unfold fitE at hΦ
  rw [szs_len] at hΦ
  refine ⟨fun q => by rw [if_pos q] at hΦ; exact hΦ, fun q => ⟨fun q2 => by rw [if_neg q, if_pos q2] at hΦ; exact hΦ, fun q2 => ?_⟩⟩
  rw [if_neg q, if_neg q2] at hΦ
  obtain ⟨v, hv⟩ := Int.eq_ofNat_of_zero_le (show 0 ≤ w.Volume by omega)
  have hz := (sizes_ok hs).2.2 v (by rw [szs_len]; omega)
  rw [hv] at hΦ ⊢
  rw [ix_szs (show v < im.length by omega)] at hΦ hz
  refine ⟨fun q3 => ⟨iX (by omega) (by omega), iI (by omega) (by omega)⟩, fun q3 => ?_, fun q3 => ?_⟩
  · rw [if_pos (by omega)] at hΦ; exact hΦ
  · rw [if_neg (by omega)] at hΦ; exact hΦ
theorem image_Fits_ok {im : List (List Sec)} {w : api_Write} {Φ : Int → Prop} (hs : ¬ sizesE (szs im) ≠ 0) (hd : w.Data.length ≤ 1000000) (hΦ : Φ (fitE (szs im) w)) : image_Fits_W im w Φ := by
  have h8 := (sizes_ok hs).1
  rw [szs_len] at h8
  exact image_Check_ok (by omega) ⟨fun q => absurd q hs, fun _ => image_fits_ok hs hd hΦ⟩
theorem coalesce_check_ok {im : List (List Sec)} {l : List api_Write} {Φ : Int → Prop} (hs : ¬ sizesE (szs im) ≠ 0) (hl : l.length ≤ 1000000) (hd : ∀ w ∈ l, w.Data.length ≤ 1000000) (hΦ : Φ (wrsE (szs im) l)) : coalesce_check__coalesce_Check_1_W l im Φ := by
  refine LoopW.firstL _ _ hΦ (fun k rec hk hz h1 h2 => ⟨fun hlt => ⟨iX (by omega) (by omega), image_Fits_ok hs (hd _ (ix_mem (iX (by omega) hlt))) ⟨fun q => ?_, fun q => ⟨fun h0 => ?_, fun h0 => ?_⟩⟩⟩, fun q => absurd (by omega) q⟩) fun rec h1 _ => ⟨fun q => absurd q (by omega), fun _ => h1⟩
  · have e : wrE (szs im) l k = fitE (szs im) (ix l (k : Int)) := if_pos q
    rw [e] at h1; exact h1 q
  · exact ⟨iI (by omega) (by omega), h2 (by unfold wrE; rw [if_neg q, if_pos (by omega)])⟩
  · have hr := wr_round hs hz (show k ≠ 0 by omega)
    refine ⟨iI (by omega) (by omega), iX (by omega) (by omega), fun _ _ => iI (by omega) (by omega), fun q2 => ?_, fun q2 => ⟨iI (by omega) (by omega), h2 ?_⟩⟩
    · have e : wrE (szs im) l k = 3 := by unfold wrE; rw [if_neg q, if_neg (by omega), if_pos (by unfold orderB; omega)]
      rw [e] at h1; exact h1 (by omega)
    · unfold wrE; rw [if_neg q, if_neg (by omega), if_neg (by unfold orderB; omega)]
theorem coalesce_Check_ok {sizes : List Int} {l : List api_Write} {Φ : Int → Prop} (hs : ¬ sizesE sizes ≠ 0) (hl : l.length ≤ 1000000) (hd : ∀ w ∈ l, w.Data.length ≤ 1000000) (hΦ : Φ (wrsE sizes l)) : coalesce_Check_W l sizes Φ := by
  refine image_New_ok (fun q => absurd q hs) fun _ => ⟨fun q => absurd rfl q, fun _ => ?_⟩
  have e := szs_zero hs
  exact coalesce_check_ok (im := zeroIm sizes) (by rw [e]; exact hs) hl hd (by rw [e]; exact hΦ)
theorem cycle_Check_ok {c : api_Cycle} {sizes : List Int} {Φ : Int → Prop} (hp : c.Positions.length ≤ 1000000) (hl : c.Writes.length ≤ 1000000) (hd : ∀ w ∈ c.Writes, w.Data.length ≤ 1000000) (hΦ : Φ (cycE c sizes)) : cycle_Check_W c sizes Φ := by
  unfold cycE at hΦ
  refine image_New_ok (fun q => ⟨fun _ => by rw [if_pos q] at hΦ; exact hΦ, fun q2 => absurd q q2⟩) fun q => ⟨fun q2 => absurd rfl q2, fun _ => ⟨fun q2 => by rw [if_neg q, if_pos q2] at hΦ; exact hΦ, fun q2 => ?_⟩⟩
  rw [if_neg q, if_neg q2] at hΦ
  have hd3 : (decide ((0 : Int) ≤ c.Time ∧ c.Time ≤ 1073741824) = true) ↔ ¬ (c.Time < 0 ∨ 1073741824 < c.Time) := by rw [decide_eq_true_iff]; omega
  refine ⟨fun q3 => by rw [if_pos (by rw [hd3] at q3; exact Classical.not_not.1 q3)] at hΦ; exact hΦ, fun q3 => ?_⟩
  rw [if_neg (hd3.1 (Classical.not_not.1 q3))] at hΦ
  exact cycle_positions_ok hp ⟨fun q4 => by rw [if_pos q4] at hΦ; exact hΦ, fun q4 => by rw [if_neg q4] at hΦ; exact coalesce_Check_ok q hl hd hΦ⟩
end Go.Proofs.YtahlanamngfkcaaDoor

namespace Go.Proofs.YtahlanamngfkcaaDoor
open Go.RowKit
theorem exts_within {b : api_Bitmap} {n : Nat} (hn : b.Size = (n : Int)) : ∀ i : Nat, i < (exts b).length → 0 ≤ (ix (exts b) (i : Int)).Start ∧ 0 ≤ (ix (exts b) (i : Int)).Count ∧ (ix (exts b) (i : Int)).Start + (ix (exts b) (i : Int)).Count ≤ (n : Int) := by
  intro i hi
  unfold exts at hi ⊢
  rw [List.length_map] at hi
  rw [ix_toX]
  by_cases h : chk b.Size b.Words ≠ 0
  · rw [extR_form h] at hi; exact absurd hi (Nat.not_lt_zero _)
  · rw [extR_ok h (k := n) (by omega)] at hi ⊢
    exact exB_get (extsK_facts b.Words n).1 hi
theorem marks_within {a b : api_Point} (hf : Fit a b) (hi : b.Image.length = a.Image.length) (hz : ∀ k : Nat, k < a.Image.length → (ix b.Image (k : Int)).length = (ix a.Image (k : Int)).length) : Within b.Image (marks a b) := by
  have hml := (marks_len a b).1
  have hda := hf.da
  have hdb := hf.db
  have h8 := hf.n8
  have hk : ∀ v : Nat, v < b.Image.length → ix (marks a b) (v : Int) = markK a b v := by
    intro v hv
    rw [ix_get (by omega)]
    unfold marks
    rw [List.getElem_map, List.getElem_range]
  refine ⟨by omega, by omega, fun v hv => ?_, fun v hv => ?_⟩
  · rw [hk v hv]
    refine ⟨?_, exts_len _⟩
    rw [hz v (by omega)]; exact hf.len (by omega)
  · rw [hk v hv]
    unfold markK
    refine exts_within ?_
    rw [(hf.or (show v < a.Image.length by omega)).1, hz v (by omega)]
    exact (hf.ca v (by omega)).2
def zeroC : api_Cycle := ⟨0, 0, 0, [], []⟩
def cycOf (a b : api_Point) (n t : Int) (ps : List Int) : api_Cycle := ⟨(ancR a.Lineage b.Lineage).1, n, t, ps, cont b.Image (betR a b).1 b.Image.length⟩
def cycR (a b : api_Point) (n t : Int) (ps : List Int) : api_Cycle × Int :=
  if (betR a b).2 ≠ 0 then (zeroC, (betR a b).2) else if n ≤ (ancR a.Lineage b.Lineage).1 ∨ n < lastTo b.Lineage then (zeroC, 2) else if cycE (cycOf a b n t ps) (szs b.Image) ≠ 0 then (zeroC, cycE (cycOf a b n t ps) (szs b.Image)) else (cycOf a b n t ps, 0)
theorem betR_zero {a b : api_Point} (h : ¬ (betR a b).2 ≠ 0) : (betR a b).1 = marks a b ∧ ptE a = 0 ∧ ptE b = 0 ∧ sameSz a.Image b.Image = true ∧ Fit a b ∧ Within b.Image (marks a b) := by
  unfold betR at h ⊢
  by_cases h1 : ptE a ≠ 0
  · rw [if_pos h1] at h; exact absurd h1 h
  by_cases h2 : ptE b ≠ 0
  · rw [if_neg h1, if_pos h2] at h; exact absurd h2 h
  by_cases h3 : sameSz a.Image b.Image = true
  · rw [if_neg h1, if_neg h2, if_neg (fun q => q h3)]
    have hf := fit_of (Classical.not_not.1 h1) (Classical.not_not.1 h2) h3
    have hl : a.Image.length = b.Image.length := by
      have := congrArg List.length (of_decide_eq_true h3)
      rwa [szs_len, szs_len] at this
    refine ⟨rfl, Classical.not_not.1 h1, Classical.not_not.1 h2, h3, hf, marks_within hf hl.symm fun k hk => ?_⟩
    rw [sameSz_allN hl, allN_true] at h3
    have := of_decide_eq_true (h3 k hk)
    omega
  · rw [if_neg h1, if_neg h2, if_pos h3] at h; exact absurd (by simp) h
theorem cont_data {im : List (List Sec)} {l : List (List api_Extent)} (h : Within im l) {n : Nat} (hn : n ≤ im.length) : ∀ w ∈ cont im l n, w.Data.length ≤ 1000000 := by
  intro w hw
  unfold cont at hw
  rw [List.mem_flatMap] at hw
  obtain ⟨v, hv, hw⟩ := hw
  unfold contV at hw
  rw [List.mem_map] at hw
  obtain ⟨i, _, rfl⟩ := hw
  have h1 := (h.small v (by have := List.mem_range.1 hv; omega)).1
  have h2 := sub_le (ix im (v : Int)) (ix (ix l (v : Int)) (i : Int)).Start ((ix (ix l (v : Int)) (i : Int)).Start + (ix (ix l (v : Int)) (i : Int)).Count)
  show (sub _ _ _).length ≤ _
  omega
theorem reverse_Cycle_ok {a b : api_Point} {n t : Int} {ps : List Int} {Φ : api_Cycle × Int → Prop} (ha : a.Lineage.length ≤ 1000000) (hb : b.Lineage.length ≤ 1000000) (ha2 : a.Image.length ≤ 100000) (hb2 : b.Image.length ≤ 100000) (hp : ps.length ≤ 1000000) (hΦ : Φ (cycR a b n t ps)) : reverse_Cycle_W a b n t ps Φ := by
  unfold cycR at hΦ
  refine delta_Between_ok ha hb ha2 hb2 ⟨fun q => by rw [if_pos q] at hΦ; exact hΦ, fun q => delta_Ancestor_ok ha hb ⟨fun q2 => by rw [if_neg q, if_pos (.inl q2)] at hΦ; exact hΦ, fun q2 => reverse_last_ok hb ⟨fun q3 => by rw [if_neg q, if_pos (.inr q3)] at hΦ; exact hΦ, fun q3 => cloneI_ok hp ?_⟩⟩⟩
  rw [if_neg q, if_neg (by omega)] at hΦ
  obtain ⟨e1, _, _, _, _, hw⟩ := betR_zero q
  have hw' : Within b.Image (betR a b).1 := by rw [e1]; exact hw
  have hl := hw'.len
  have h8 := hw'.n8
  have hszl := szs_len b.Image
  refine LoopW.upS b.Image.length (fun s : List api_Write × List Int × Int => s.2.2) (fun k s => s.1 = cont b.Image (betR a b).1 k ∧ s.2.1 = (szs b.Image).take k) ?_ 0 rfl (Nat.zero_le _) ⟨rfl, rfl⟩
  rintro k ⟨ws, sz, i⟩ rec hk hi ⟨hws, hsz⟩ hrec
  simp only at hi hws hsz
  subst hi
  subst hws
  have hsl : sz.length = k := by rw [hsz, List.length_take]; omega
  refine ⟨fun hlt => ?_, fun hge => ?_⟩
  · have hk' : k < b.Image.length := by omega
    have hsm := hw'.small k hk'
    have hcl := cont_len hw' (n := k) (by omega)
    refine ⟨iX (by omega) (by omega), iL (by simp only [List.length_append, List.length_cons, List.length_nil]; omega) (by omega), iX (by omega) (by omega), ?_⟩
    refine LoopW.up2 (ix (betR a b).1 (k : Int)).length (fun m acc => acc = cont b.Image (betR a b).1 k ++ contV b.Image (betR a b).1 k m) ?_ rfl (Nat.zero_le _) (by simp [contV])
    rintro m _ rec2 hm rfl hrec2
    have hvl := contV_len b.Image (betR a b).1 k m
    refine ⟨fun hmlt => ?_, fun hmge => ⟨iI (by omega) (by omega), hrec _ (by omega) rfl ⟨?_, ?_⟩⟩⟩
    · have he := hw'.ext k hk' m (by omega)
      have hsb := sub_le (ix b.Image (k : Int)) (ix (ix (betR a b).1 (k : Int)) (m : Int)).Start ((ix (ix (betR a b).1 (k : Int)) (m : Int)).Start + (ix (ix (betR a b).1 (k : Int)) (m : Int)).Count)
      refine ⟨iX (by omega) (by omega), iI (by omega) (by omega), iS (by omega) (by omega) (by omega), _, cloneS_ok (by omega) rfl, iL (by simp only [List.length_append, List.length_cons, List.length_nil]; omega) (by omega), iI (by omega) (by omega), hrec2 _ (by omega) ?_⟩
      rw [contV_succ, List.append_assoc]; rfl
    · rw [cont_succ, show (ix (betR a b).1 (k : Int)).length = m by omega]
    · simp only
      rw [hsz, take_ix (by rw [szs_len]; exact hk'), ix_szs hk']
  · have hke : k = b.Image.length := by omega
    rw [List.take_of_length_le (by omega)] at hsz
    subst hsz
    subst hke
    refine cycle_Check_ok hp ?_ (cont_data hw' (Nat.le_refl _)) ⟨fun q4 => ?_, fun q4 => ?_⟩
    · have := cont_len hw' (n := b.Image.length) (Nat.le_refl _)
      show (cont b.Image (betR a b).1 b.Image.length).length ≤ 1000000
      omega
    · have q5 : cycE (cycOf a b n t ps) (szs b.Image) ≠ 0 := q4
      rw [if_pos q5] at hΦ; exact hΦ
    · have q5 : ¬ cycE (cycOf a b n t ps) (szs b.Image) ≠ 0 := q4
      rw [if_neg q5] at hΦ; exact hΦ
end Go.Proofs.YtahlanamngfkcaaDoor

namespace Go.Proofs.YtahlanamngfkcaaDoor
open Go.RowKit
theorem ix_put {α : Type} [Dt α] (xs : List α) {i j : Nat} (x : α) (hi : i < xs.length) : ix (put xs (i : Int) x) (j : Int) = if j = i then x else ix xs (j : Int) := by
  show (xs.set i x).getD j default = if j = i then x else xs.getD j default
  rw [List.getD_eq_getElem?_getD, List.getD_eq_getElem?_getD]
  by_cases h : j = i
  · subst h; rw [List.getElem?_set_self hi, if_pos rfl]; rfl
  · rw [List.getElem?_set_ne (by omega), if_neg h]
theorem put_put {α : Type} (xs : List α) (i : Int) (x y : α) : put (put xs i x) i y = put xs i y := by unfold put; rw [List.set_set]
theorem ix_put_self {α : Type} [Dt α] {xs : List α} {i : Int} (x : α) (hi : inX i xs.length) : ix (put xs i x) i = x := by
  obtain ⟨k, rfl⟩ := Int.eq_ofNat_of_zero_le hi.1
  rw [ix_put xs x (by have := hi.2; omega), if_pos rfl]
theorem ix_paste {α : Type} [Dt α] {xs ys : List α} {s i : Nat} (h : s + ys.length ≤ xs.length) : ix (paste xs (s : Int) ys) (i : Int) = if s ≤ i ∧ i < s + ys.length then ix ys ((i : Int) - (s : Int)) else ix xs (i : Int) := by
  show (paste xs (s : Int) ys).getD i default = if _ then ys.getD ((i : Int) - (s : Int)).toNat default else xs.getD i default
  unfold paste
  rw [Int.toNat_natCast, List.getD_eq_getElem?_getD, List.getD_eq_getElem?_getD, List.getD_eq_getElem?_getD]
  have e1 : (xs.take s).length = s := by rw [List.length_take]; omega
  have e2 : ys.take (xs.length - s) = ys := List.take_of_length_le (by omega)
  have e3 : min ys.length (xs.length - s) = ys.length := by omega
  rw [e2, e3]
  by_cases h1 : i < s
  · rw [if_neg (by omega), List.getElem?_append_left (by omega), List.getElem?_take_of_lt h1]
  · by_cases h2 : i < s + ys.length
    · rw [if_pos (by omega), List.getElem?_append_right (by omega), e1, List.getElem?_append_left (by omega), show ((i : Int) - (s : Int)).toNat = i - s by omega]
    · rw [if_neg (by omega), List.getElem?_append_right (by omega), e1, List.getElem?_append_right (by omega), List.getElem?_drop]
      congr 2
      omega
theorem paste_len' {α : Type} {xs ys : List α} {s : Nat} (h : s ≤ xs.length) : (paste xs (s : Int) ys).length = xs.length := paste_len ⟨by omega, by omega, by omega⟩
theorem paste_nil {α : Type} [Dt α] {xs : List α} {s : Nat} (h : s ≤ xs.length) : paste xs (s : Int) [] = xs :=
  ext_ix (paste_len' h) fun k _ => by rw [ix_paste (by simpa using h), if_neg fun q => by have := q.2; rw [List.length_nil] at this; omega]
theorem paste_step {α : Type} [Dt α] {xs ys : List α} {s m : Nat} (h : s + ys.length ≤ xs.length) (hm : m < ys.length) : put (paste xs (s : Int) (ys.take m)) ((s : Int) + (m : Int)) (ix ys (m : Int)) = paste xs (s : Int) (ys.take (m + 1)) := by
  have l1 : (ys.take m).length = m := by rw [List.length_take]; omega
  have l2 : (ys.take (m + 1)).length = m + 1 := by rw [List.length_take]; omega
  have p1 : (paste xs (s : Int) (ys.take m)).length = xs.length := paste_len' (by omega)
  refine ext_ix (by rw [put_len, p1, paste_len' (by omega)]) fun k hk => ?_
  rw [put_len, p1] at hk
  rw [show (s : Int) + (m : Int) = ((s + m : Nat) : Int) by omega, ix_put _ _ (by omega), ix_paste (by omega), ix_paste (by omega), l1, l2]
  have tk : ∀ q j : Nat, j < q → j < ys.length → ix (ys.take q) (j : Int) = ix ys (j : Int) := fun q j h1 h2 => by
    rw [ix_get (by rw [List.length_take]; omega), ix_get h2, List.getElem_take]
  by_cases h1 : k = s + m
  · rw [if_pos h1, if_pos (by omega), show (k : Int) - (s : Int) = (m : Int) by omega, tk _ _ (by omega) hm]
  · rw [if_neg h1]
    by_cases h2 : s ≤ k ∧ k < s + m
    · rw [if_pos h2, if_pos (by omega), show (k : Int) - (s : Int) = ((k - s : Nat) : Int) by omega, tk _ _ (by omega) (by omega), tk _ _ (by omega) (by omega)]
    · rw [if_neg h2, if_neg (by omega)]
def apply1 (im : List (List Sec)) (w : api_Write) : List (List Sec) := put im w.Volume (paste (ix im w.Volume) w.Start w.Data)
def appL (im : List (List Sec)) (l : List api_Write) : List (List Sec) := l.foldl apply1 im
structure FitW (sizes : List Int) (w : api_Write) (v s : Nat) : Prop where
  vol : w.Volume = (v : Int)
  start : w.Start = (s : Int)
  hv : v < sizes.length
  len : 1 ≤ w.Data.length
  le : ((s + w.Data.length : Nat) : Int) ≤ ix sizes (v : Int)
  top : ix sizes (v : Int) ≤ 4096
theorem fitW_of {sizes : List Int} {w : api_Write} (hs : ¬ sizesE sizes ≠ 0) (h : fitE sizes w = 0) : ∃ v s : Nat, FitW sizes w v s := by
  have := fitE_zero hs h
  obtain ⟨v, hv⟩ := Int.eq_ofNat_of_zero_le this.1
  obtain ⟨s, hst⟩ := Int.eq_ofNat_of_zero_le this.2.2.2.1
  rw [hv, hst] at this
  exact ⟨v, s, hv, hst, by omega, by omega, by omega, by omega⟩
theorem fitE_of {sizes : List Int} {w : api_Write} {v s : Nat} (h : FitW sizes w v s) : fitE sizes w = 0 := by
  have h1 := h.hv
  have h2 := h.len
  have h3 := h.le
  unfold fitE
  rw [h.vol, h.start, if_neg (by omega), if_neg (by omega), if_neg (by omega)]
theorem szs_apply1 {im : List (List Sec)} {w : api_Write} {v s : Nat} (h : FitW (szs im) w v s) : szs (apply1 im w) = szs im := by
  have hv := h.hv
  rw [szs_len] at hv
  have hle := h.le
  rw [ix_szs hv] at hle
  unfold apply1
  rw [h.vol, h.start]
  refine ext_ix (by rw [szs_len, szs_len, put_len]) fun k hk => ?_
  rw [szs_len, put_len] at hk
  rw [ix_szs (by rw [put_len]; exact hk), ix_szs hk, ix_put _ _ hv]
  by_cases hkv : k = v
  · rw [if_pos hkv, paste_len' (by omega), hkv]
  · rw [if_neg hkv]
theorem szs_appL {im : List (List Sec)} (hs : ¬ sizesE (szs im) ≠ 0) : ∀ {l : List api_Write}, (∀ w ∈ l, fitE (szs im) w = 0) → szs (appL im l) = szs im := by
  intro l
  induction l generalizing im with
  | nil => intro _; rfl
  | cons w l ih =>
    intro h
    obtain ⟨v, s, hw⟩ := fitW_of hs (h w (List.mem_cons_self ..))
    have e := szs_apply1 hw
    show szs (appL (apply1 im w) l) = _
    rw [ih (by rw [e]; exact hs) fun x hx => by rw [e]; exact h x (List.mem_cons_of_mem _ hx), e]
def sec (im : List (List Sec)) (v i : Nat) : Sec := ix (ix im (v : Int)) (i : Int)
def covW (w : api_Write) (v i : Nat) : Prop := w.Volume = (v : Int) ∧ w.Start ≤ (i : Int) ∧ (i : Int) < w.Start + (w.Data.length : Int)
instance (w : api_Write) (v i : Nat) : Decidable (covW w v i) := by unfold covW; infer_instance
theorem sec_apply1 {im : List (List Sec)} {w : api_Write} {v0 s0 : Nat} (h : FitW (szs im) w v0 s0) (v i : Nat) : sec (apply1 im w) v i = if covW w v i then ix w.Data ((i : Int) - w.Start) else sec im v i := by
  have hv := h.hv
  rw [szs_len] at hv
  have hle := h.le
  rw [ix_szs hv] at hle
  have h1 := h.vol
  have h2 := h.start
  have hc : covW w v i ↔ v = v0 ∧ s0 ≤ i ∧ i < s0 + w.Data.length := by unfold covW; omega
  have e : sec (apply1 im w) v i = ix (if v = v0 then paste (ix im (v0 : Int)) (s0 : Int) w.Data else ix im (v : Int)) (i : Int) := by
    unfold sec apply1
    rw [h1, h2, ix_put _ _ hv]
  rw [e]
  by_cases hkv : v = v0
  · rw [if_pos hkv, ix_paste (by omega)]
    subst hkv
    by_cases hq : s0 ≤ i ∧ i < s0 + w.Data.length
    · rw [if_pos hq, if_pos (hc.2 ⟨rfl, hq⟩), h2]
    · rw [if_neg hq, if_neg (fun q => hq (hc.1 q).2)]; rfl
  · rw [if_neg hkv, if_neg (fun q => hkv (hc.1 q).1)]; rfl
theorem sec_none {v i : Nat} : ∀ {l : List api_Write} {im : List (List Sec)}, ¬ sizesE (szs im) ≠ 0 → (∀ w ∈ l, fitE (szs im) w = 0) → (∀ w ∈ l, ¬ covW w v i) → sec (appL im l) v i = sec im v i := by
  intro l
  induction l with
  | nil => intro im _ _ _; rfl
  | cons w l ih =>
    intro im hs h hn
    obtain ⟨v0, s0, hw⟩ := fitW_of hs (h w (List.mem_cons_self ..))
    have e := szs_apply1 hw
    show sec (appL (apply1 im w) l) v i = _
    rw [ih (by rw [e]; exact hs) (fun x hx => by rw [e]; exact h x (List.mem_cons_of_mem _ hx)) fun x hx => hn x (List.mem_cons_of_mem _ hx), sec_apply1 hw, if_neg (hn w (List.mem_cons_self ..))]
theorem sec_same {b : List (List Sec)} {v i : Nat} : ∀ {l : List api_Write} {im : List (List Sec)}, ¬ sizesE (szs im) ≠ 0 → (∀ w ∈ l, fitE (szs im) w = 0) → (∀ w ∈ l, covW w v i → ix w.Data ((i : Int) - w.Start) = sec b v i) → (∃ w ∈ l, covW w v i) ∨ sec im v i = sec b v i → sec (appL im l) v i = sec b v i := by
  intro l
  induction l with
  | nil =>
    intro im _ _ _ h
    rcases h with ⟨w, hw, _⟩ | h
    · exact absurd hw List.not_mem_nil
    · exact h
  | cons w l ih =>
    intro im hs h hd hc
    obtain ⟨v0, s0, hw⟩ := fitW_of hs (h w (List.mem_cons_self ..))
    have e := szs_apply1 hw
    refine ih (im := apply1 im w) (by rw [e]; exact hs) (fun x hx => by rw [e]; exact h x (List.mem_cons_of_mem _ hx)) (fun x hx => hd x (List.mem_cons_of_mem _ hx)) ?_
    rw [sec_apply1 hw]
    by_cases hcw : covW w v i
    · right; rw [if_pos hcw]; exact hd w (List.mem_cons_self ..) hcw
    · rw [if_neg hcw]
      rcases hc with ⟨x, hx, hcx⟩ | hc
      · rcases List.mem_cons.1 hx with rfl | hx
        · exact absurd hcx hcw
        · exact .inl ⟨x, hx, hcx⟩
      · exact .inr hc
theorem im_ext {a b : List (List Sec)} (hs : szs a = szs b) (h : ∀ v i : Nat, v < a.length → i < (ix a (v : Int)).length → sec a v i = sec b v i) : a = b := by
  have hl : a.length = b.length := by rw [← szs_len a, ← szs_len b, hs]
  refine ext_ix hl fun v hv => ext_ix ?_ fun i hi => h v i hv hi
  have : ix (szs a) (v : Int) = ix (szs b) (v : Int) := by rw [hs]
  rw [ix_szs hv, ix_szs (by omega)] at this
  omega
theorem take_foldl {α β : Type} [Dt β] (f : α → β → α) (x : α) {l : List β} {k : Nat} (h : k < l.length) : (l.take (k + 1)).foldl f x = f ((l.take k).foldl f x) (ix l (k : Int)) := by
  rw [take_ix h, List.foldl_append]; rfl
theorem fit_small {im : List (List Sec)} (hs : ¬ sizesE (szs im) ≠ 0) : im.length ≤ 8 ∧ 1 ≤ im.length ∧ ∀ v : Nat, v < im.length → 1 ≤ (ix im (v : Int)).length ∧ (ix im (v : Int)).length ≤ 4096 := by
  obtain ⟨h1, h2, h3⟩ := sizes_ok hs
  rw [szs_len] at h1 h2 h3
  refine ⟨h1, h2, fun v hv => ?_⟩
  have := h3 v hv
  rw [ix_szs hv] at this
  omega
theorem ref07_Copy_ok {im : List (List Sec)} {Φ : List (List Sec) → Prop} (hs : ¬ sizesE (szs im) ≠ 0) (hΦ : Φ im) : ref07_Copy_W im Φ := by
  have h := fit_small hs
  refine LoopW.mapL im (fun v => v) (fun k acc rec hk hal _ hrec => ⟨fun _ => ⟨iX (by omega) (by omega), iL ?_ (by omega), iL (by simp only [List.length_append, List.length_cons, List.length_nil]; omega) (by omega), iI (by omega) (by omega), hrec⟩, fun q => absurd (by omega) q⟩) fun rec => ⟨fun q => absurd q (by simp), fun _ => by rw [List.map_id']; exact hΦ⟩
  have := (h.2.2 k hk).2
  rw [List.nil_append]; omega
theorem image_copied_ok {im : List (List Sec)} {Φ : List (List Sec) → Prop} (hs : ¬ sizesE (szs im) ≠ 0) (hΦ : Φ im) : image_copied_W im Φ := by
  have h := fit_small hs
  refine ⟨by omega, iL (by omega) (by omega), ?_⟩
  refine LoopW.mapL im (fun v => v) (fun k acc rec hk hal _ hrec => ⟨fun _ => ⟨iX (by omega) (by omega), cloneS_ok ?_ ⟨iL (by simp only [List.length_append, List.length_cons, List.length_nil]; omega) (by omega), iI (by omega) (by omega), hrec⟩⟩, fun q => absurd (by omega) q⟩) fun rec => ⟨fun q => absurd q (by simp), fun _ => by rw [List.map_id']; exact hΦ⟩
  have := (h.2.2 k hk).2
  omega
theorem ref07_Fits_ok {im : List (List Sec)} {w : api_Write} {Φ : Int → Prop} (hs : ¬ sizesE (szs im) ≠ 0) (hΦ : Φ (fitE (szs im) w)) : ref07_Fits_W im w Φ := by
  have h := fit_small hs
  exact ref07_Check_ok (by omega) ⟨fun q => absurd q hs, fun _ => ⟨szs im, ref07_SizesOf_ok (by omega) rfl, _, ref07_FitsSizes_ok hs rfl, hΦ⟩⟩
theorem ref07_Apply_ok {im : List (List Sec)} {l : List api_Write} {Φ : List (List Sec) × Int × Int → Prop} (hs : ¬ sizesE (szs im) ≠ 0) (hl : l.length ≤ 1000000) (hf : ∀ w ∈ l, fitE (szs im) w = 0) (hΦ : Φ (appL im l, 0, 0)) : ref07_Apply_W im l Φ := by
  have h := fit_small hs
  refine ref07_Check_ok (by omega) ⟨fun q => absurd q hs, fun _ => ref07_Copy_ok hs ?_⟩
  refine LoopW.up2 l.length (fun k acc => acc = appL im (l.take k)) ?_ rfl (Nat.zero_le _) rfl
  rintro k _ rec hk rfl hrec
  refine ⟨fun hlt => ⟨iX (by omega) hlt, ref07_Fits_ok hs ?_⟩, fun hge => by rw [List.take_of_length_le (by omega)]; exact hΦ⟩
  have hm := ix_mem (iX (show (0 : Int) ≤ (k : Int) by omega) hlt)
  have h0 := hf _ hm
  refine ⟨fun q => absurd h0 q, fun _ => ?_⟩
  obtain ⟨v, s, hw⟩ := fitW_of hs h0
  have hz := szs_appL hs (l := l.take k) fun w hw' => hf w (List.mem_of_mem_take hw')
  have hvl : v < (appL im (l.take k)).length := by rw [← szs_len, hz]; exact hw.hv
  have hrow : ((ix (appL im (l.take k)) (v : Int)).length : Int) = ix (szs im) (v : Int) := by rw [← ix_szs hvl, hz]
  have hle := hw.le
  have htop := hw.top
  have ev := hw.vol
  have es := hw.start
  have happ : appL im (l.take (k + 1)) = apply1 (appL im (l.take k)) (ix l (k : Int)) := by unfold appL; exact take_foldl _ _ (by omega)
  have hap1 : apply1 (appL im (l.take k)) (ix l (k : Int)) = put (appL im (l.take k)) (v : Int) (paste (ix (appL im (l.take k)) (v : Int)) (s : Int) (ix l (k : Int)).Data) := by unfold apply1; rw [ev, es]
  generalize appL im (l.take k) = X at hvl hrow happ hap1 ⊢
  refine LoopW.up2 (ix l (k : Int)).Data.length (fun m acc => acc = put X (v : Int) (paste (ix X (v : Int)) (s : Int) ((ix l (k : Int)).Data.take m))) ?_ rfl (Nat.zero_le _) ?_
  · rintro m _ rec2 hm2 rfl hrec2
    have hpl : (put X (v : Int) (paste (ix X (v : Int)) (s : Int) ((ix l (k : Int)).Data.take m))).length = X.length := put_len _ _ _
    have hix : ix (put X (v : Int) (paste (ix X (v : Int)) (s : Int) ((ix l (k : Int)).Data.take m))) (v : Int) = paste (ix X (v : Int)) (s : Int) ((ix l (k : Int)).Data.take m) := ix_put_self _ (iX (by omega) (by omega))
    have hpr : (paste (ix X (v : Int)) (s : Int) ((ix l (k : Int)).Data.take m)).length = (ix X (v : Int)).length := paste_len' (by omega)
    unfold ref07_Apply_L2
    rw [ev, es]
    refine ⟨fun hmlt => ⟨iX (by omega) (by omega), iI (by omega) (by omega), iX (by omega) hmlt, iX (by omega) (by rw [hix, hpr]; omega), iI (by omega) (by omega), hrec2 _ (by omega) ?_⟩, fun hmge => ⟨iI (by omega) (by omega), hrec _ (by omega) ?_⟩⟩
    · rw [hix, put_put, paste_step (by omega) (by omega)]
    · rw [List.take_of_length_le (by omega), happ, hap1]
  · rw [show (ix l (k : Int)).Data.take 0 = [] from rfl, paste_nil (by omega), put_ix (iX (by omega) (by omega))]
end Go.Proofs.YtahlanamngfkcaaDoor

namespace Go.Proofs.YtahlanamngfkcaaDoor
open Go.RowKit
theorem ref02_Fits_ok {e : api_Extent} {n : Int} {Φ : Bool → Prop} (h0 : 0 ≤ n) (h1 : n ≤ 4096) (hΦ : Φ (fitsB e.Start e.Count n)) : ref02_Fits_W e n Φ := by
  refine ⟨fun q1 q2 q3 => iI (by omega) (by omega), ?_⟩
  have e1 : decide ((0 ≤ e.Start) ∧ ((0 ≤ e.Count) ∧ ((e.Start ≤ n) ∧ (e.Count ≤ (n - e.Start))))) = fitsB e.Start e.Count n := by
    rw [Bool.eq_iff_iff, decide_eq_true_iff]; exact fitsB_iff.symm
  rw [e1]; exact hΦ
theorem ref02_Copy_ok {b : api_Bitmap} {Φ : api_Bitmap → Prop} (hl : b.Words.length ≤ 1000000) (hΦ : Φ b) : ref02_Copy_W b Φ := ⟨iL (by rw [List.nil_append]; exact hl) (by omega), hΦ⟩
def setB (b : api_Bitmap) (e : api_Extent) : api_Bitmap × Int := bmOf (chR true b.Size b.Words e.Start e.Count)
theorem ref02_Set_ok {b : api_Bitmap} {e : api_Extent} {Φ : api_Bitmap × Int → Prop} (hΦ : Φ (setB b e)) : ref02_Set_W b e Φ := by
  unfold setB at hΦ
  unfold ref02_Set_W ref02_change_W
  refine ref02_Check_ok ⟨fun q => by rw [chR_form q] at hΦ; exact hΦ, fun q => ?_⟩
  have hw := chkB_len q
  refine ref02_Fits_ok hw.1 hw.2.1 ⟨fun q2 => by rw [chR_range q q2] at hΦ; exact hΦ, fun q2 => ?_⟩
  have q3 := Classical.not_not.1 q2
  rw [chR_ok q q3] at hΦ
  have hf := fitsB_iff.1 q3
  refine ref02_Copy_ok (by omega) ?_
  obtain ⟨s, hs⟩ := Int.eq_ofNat_of_zero_le hf.1
  refine LoopW.up2 (e.Start + e.Count).toNat (fun k acc => s ≤ k ∧ acc = chW true b.Words e.Start (k : Int)) ?_ (k0 := s) hs (by omega) ⟨Nat.le_refl _, by rw [chW_none true b.Words (by omega)]⟩
  rintro k _ rec hk ⟨hsk, rfl⟩ hrec
  have hl := chW_length true b.Words e.Start (k : Int)
  refine ⟨iI (by omega) (by omega), fun hlt => ⟨fun _ => ⟨⟨by omega, iI (by omega) (by omega)⟩, iX (by omega) (by omega), by omega, iI (by omega) (by omega), hrec _ (by omega) ⟨by omega, ?_⟩⟩, fun z => absurd rfl z⟩, fun hge => ?_⟩
  · refine chW_step2 true b.Words e.Start (by omega) (by omega) (by omega) ?_
    rw [opW_true, ofInt_mod, show ((k : Int) % 64).toNat = k % 64 by omega]; rfl
  · rw [show e.Start + e.Count = (k : Int) by omega] at hΦ; exact hΦ
def bitB (b : api_Bitmap) (i : Nat) : Bool := bitN b.Words i
theorem setB_ok {b : api_Bitmap} {e : api_Extent} (h : chkB b = 0) (hf : fitsB e.Start e.Count b.Size = true) : (setB b e).2 = 0 ∧ chkB (setB b e).1 = 0 ∧ (setB b e).1.Size = b.Size ∧ ∀ i : Nat, (i : Int) < b.Size → (bitB (setB b e).1 i = true ↔ bitB b i = true ∨ (e.Start ≤ (i : Int) ∧ (i : Int) < e.Start + e.Count)) := by
  have hw := chkB_len (b := b) (by simpa using h)
  have e1 : setB b e = (⟨b.Size, chW true b.Words e.Start (e.Start + e.Count)⟩, 0) := by
    unfold setB; rw [chR_ok (by simpa [chkB] using h) hf]; rfl
  rw [e1]
  refine ⟨rfl, chk_set1 h hf, rfl, fun i hi => ?_⟩
  unfold bitB
  rw [chW_bit _ _ _ _ _ (by omega)]
  by_cases hc : e.Start ≤ (i : Int) ∧ (i : Int) < e.Start + e.Count
  · rw [if_pos hc]; exact ⟨fun _ => .inr hc, fun _ => rfl⟩
  · rw [if_neg hc]; exact ⟨fun z => .inl z, fun z => z.resolve_right hc⟩
def newB (n : Int) : api_Bitmap := ⟨n, List.replicate ((n + 63) / 64).toNat 0#64⟩
theorem ref02_New_ok {n : Int} {Φ : api_Bitmap × Int → Prop} (h0 : 0 ≤ n) (h1 : n ≤ 4096) (hΦ : Φ (newB n, 0)) : ref02_New_W n Φ :=
  ⟨fun q => absurd q (by omega), fun _ => ⟨iI (by omega) (by omega), ⟨by omega, iI (by omega) (by omega)⟩, by omega, iL (by omega) (by omega), hΦ⟩⟩
theorem newB_ok {n : Int} (h0 : 0 ≤ n) (h1 : n ≤ 4096) : chkB (newB n) = 0 ∧ ∀ i, bitB (newB n) i = false := ⟨chk_new h0 h1, fun _ => bit_new⟩
theorem ref43_Clean_ok {sizes : List Int} {Φ : List api_Bitmap → Prop} (hs : ¬ sizesE sizes ≠ 0) (hΦ : Φ (sizes.map newB)) : ref43_Clean_W sizes Φ := by
  have h := sizes_ok hs
  refine LoopW.mapL sizes newB (fun k acc rec hk hal _ hrec => ⟨fun _ => ⟨iX (by omega) (by omega), ?_⟩, fun q => absurd (by omega) q⟩) fun rec => ⟨fun q => absurd q (by omega), fun _ => hΦ⟩
  have := h.2.2 k hk
  exact ref02_New_ok (by omega) (by omega) ⟨iL (by simp only [List.length_append, List.length_cons, List.length_nil]; omega) (by omega), iI (by omega) (by omega), hrec⟩
def mark1 (d : List api_Bitmap) (w : api_Write) : List api_Bitmap := put d w.Volume (setB (ix d w.Volume) ⟨w.Start, (w.Data.length : Int)⟩).1
def markL (d : List api_Bitmap) (l : List api_Write) : List api_Bitmap := l.foldl mark1 d
theorem markL_len (d : List api_Bitmap) (l : List api_Write) : (markL d l).length = d.length := by
  unfold markL
  induction l generalizing d with
  | nil => rfl
  | cons w l ih => rw [List.foldl_cons, ih]; exact put_len _ _ _
theorem ref43_Mark_ok {d : List api_Bitmap} {l : List api_Write} {Φ : List api_Bitmap → Prop} (hd : d.length ≤ 100000) (hw : ∀ b ∈ d, b.Words.length ≤ 1000000) (hl : l.length ≤ 1000000) (hv : ∀ w ∈ l, inX w.Volume d.length) (hΦ : Φ (markL d l)) : ref43_Mark_W d l Φ := by
  refine LoopW.mapL d (fun b => b) (fun k acc rec hk hal _ hrec => ⟨fun hlt => ⟨iX (by omega) hlt, ref02_Copy_ok (hw _ (ix_mem (iX (by omega) hlt))) ⟨iL (by simp only [List.length_append, List.length_cons, List.length_nil]; omega) (by omega), iI (by omega) (by omega), hrec⟩⟩, fun q => absurd (by omega) q⟩) fun rec => ⟨fun q => absurd q (by omega), fun _ => ?_⟩
  rw [List.map_id']
  refine LoopW.up2 l.length (fun k acc => acc = markL d (l.take k)) ?_ rfl (Nat.zero_le _) rfl
  rintro k _ rec hk rfl hrec
  refine ⟨fun hlt => ?_, fun hge => by rw [List.take_of_length_le (by omega)]; exact hΦ⟩
  have hx := hv _ (ix_mem (iX (show (0 : Int) ≤ (k : Int) by omega) hlt))
  refine ⟨iX (by omega) hlt, by rw [markL_len]; exact hx, _, ref02_Set_ok rfl, iI (by omega) (by omega), hrec _ (by omega) ?_⟩
  unfold markL
  rw [take_foldl _ _ (by omega)]; rfl
structure Marked (sizes : List Int) (d : List api_Bitmap) (P : Nat → Nat → Prop) : Prop where
  len : d.length = sizes.length
  chk : ∀ v : Nat, v < sizes.length → chkB (ix d (v : Int)) = 0 ∧ (ix d (v : Int)).Size = ix sizes (v : Int)
  bit : ∀ v i : Nat, v < sizes.length → (i : Int) < ix sizes (v : Int) → (bitB (ix d (v : Int)) i = true ↔ P v i)
theorem marked_clean {sizes : List Int} (hs : ¬ sizesE sizes ≠ 0) : Marked sizes (sizes.map newB) (fun _ _ => False) := by
  have h := sizes_ok hs
  have e : ∀ v : Nat, v < sizes.length → ix (sizes.map newB) (v : Int) = newB (ix sizes (v : Int)) := fun v hv => by
    rw [ix_get (by rw [List.length_map]; exact hv), List.getElem_map, ix_get hv]
  refine ⟨List.length_map _, fun v hv => ?_, fun v i hv _ => ?_⟩
  · have := h.2.2 v hv
    rw [e v hv]; exact ⟨(newB_ok (by omega) (by omega)).1, rfl⟩
  · have := h.2.2 v hv
    rw [e v hv, (newB_ok (by omega) (by omega)).2 i]; simp
theorem marked_step {sizes : List Int} {d : List api_Bitmap} {P : Nat → Nat → Prop} (h : Marked sizes d P) {w : api_Write} {v0 s0 : Nat} (hw : FitW sizes w v0 s0) : Marked sizes (mark1 d w) (fun v i => P v i ∨ covW w v i) := by
  have hv := hw.hv
  have hl := h.len
  obtain ⟨c1, c2⟩ := h.chk v0 hv
  have hle := hw.le
  have hf : fitsB w.Start (w.Data.length : Int) (ix d (v0 : Int)).Size = true := by
    rw [c2, hw.start]; exact fitsB_iff.2 ⟨by omega, by omega, by omega, by omega⟩
  obtain ⟨_, s2, s3, s4⟩ := setB_ok (e := ⟨w.Start, (w.Data.length : Int)⟩) c1 hf
  have e : ∀ v : Nat, ix (mark1 d w) (v : Int) = if v = v0 then (setB (ix d (v0 : Int)) ⟨w.Start, (w.Data.length : Int)⟩).1 else ix d (v : Int) := fun v => by
    unfold mark1; rw [hw.vol, ix_put _ _ (by omega)]
  refine ⟨(put_len _ _ _).trans hl, fun v hv' => ?_, fun v i hv' hi => ?_⟩
  · rw [e v]
    by_cases hc : v = v0
    · subst hc; rw [if_pos rfl]; exact ⟨s2, s3.trans c2⟩
    · rw [if_neg hc]; exact h.chk v hv'
  · rw [e v]
    by_cases hc : v = v0
    · subst hc
      rw [if_pos rfl, s4 i (by rw [c2]; exact hi), h.bit v i hv' hi]
      exact or_congr Iff.rfl ⟨fun q => ⟨hw.vol, q.1, q.2⟩, fun q => ⟨q.2.1, q.2.2⟩⟩
    · rw [if_neg hc, h.bit v i hv' hi]
      exact ⟨fun q => .inl q, fun q => q.resolve_right fun z => hc (by have := z.1; have := hw.vol; omega)⟩
theorem marked_list {sizes : List Int} (hs : ¬ sizesE sizes ≠ 0) : ∀ {l : List api_Write} {d : List api_Bitmap} {P : Nat → Nat → Prop}, Marked sizes d P → (∀ w ∈ l, fitE sizes w = 0) → Marked sizes (markL d l) (fun v i => P v i ∨ ∃ w ∈ l, covW w v i) := by
  intro l
  induction l with
  | nil => intro d P h _; exact ⟨h.len, h.chk, fun v i hv hi => (h.bit v i hv hi).trans ⟨.inl, fun q => q.resolve_right fun ⟨w, hw, _⟩ => absurd hw List.not_mem_nil⟩⟩
  | cons w l ih =>
    intro d P h hf
    obtain ⟨v0, s0, hw⟩ := fitW_of hs (hf w (List.mem_cons_self ..))
    have := ih (marked_step h hw) fun x hx => hf x (List.mem_cons_of_mem _ hx)
    refine ⟨this.len, this.chk, fun v i hv hi => (this.bit v i hv hi).trans ?_⟩
    constructor
    · rintro ((q | q) | ⟨x, hx, q⟩)
      · exact .inl q
      · exact .inr ⟨w, List.mem_cons_self .., q⟩
      · exact .inr ⟨x, List.mem_cons_of_mem _ hx, q⟩
    · rintro (q | ⟨x, hx, q⟩)
      · exact .inl (.inl q)
      · rcases List.mem_cons.1 hx with rfl | hx
        · exact .inl (.inr q)
        · exact .inr ⟨x, hx, q⟩
theorem image_Apply_ok {im : List (List Sec)} {l : List api_Write} {Φ : List (List Sec) × Int × Int → Prop} (hs : ¬ sizesE (szs im) ≠ 0) (hl : l.length ≤ 1000000) (hf : ∀ w ∈ l, fitE (szs im) w = 0) (hΦ : Φ (appL im l, 0, 0)) : image_Apply_W im l Φ := by
  have h := fit_small hs
  refine image_Check_ok (by omega) ⟨fun q => absurd q hs, fun _ => image_copied_ok hs ?_⟩
  refine LoopW.up2 l.length (fun k acc => acc = appL im (l.take k)) ?_ rfl (Nat.zero_le _) rfl
  rintro k _ rec hk rfl hrec
  have hz := szs_appL hs (l := l.take k) fun w hw' => hf w (List.mem_of_mem_take hw')
  refine ⟨fun hlt => ?_, fun hge => by rw [List.take_of_length_le (by omega)]; exact hΦ⟩
  have h0 := hf _ (ix_mem (iX (show (0 : Int) ≤ (k : Int) by omega) hlt))
  obtain ⟨v, s, hw⟩ := fitW_of hs h0
  have hvl : v < (appL im (l.take k)).length := by rw [← szs_len, hz]; exact hw.hv
  have hrow : ((ix (appL im (l.take k)) (v : Int)).length : Int) = ix (szs im) (v : Int) := by rw [← ix_szs hvl, hz]
  have hle := hw.le
  have htop := hw.top
  have ev := hw.vol
  have es := hw.start
  refine ⟨iX (by omega) hlt, image_fits_ok (by rw [hz]; exact hs) (by omega) ⟨fun q => ?_, fun _ => ⟨iX (by omega) (by omega), ?_, iI (by omega) (by omega), hrec _ (by omega) ?_⟩⟩⟩
  · rw [hz] at q; exact absurd h0 q
  · rw [ev]; exact iS (by omega) (by omega) (by omega)
  · unfold appL; rw [take_foldl _ _ (by omega)]; rfl
theorem cycle_Apply_ok {im : List (List Sec)} {c : api_Cycle} {Φ : List (List Sec) × Int → Prop} (hs : ¬ sizesE (szs im) ≠ 0) (hp : c.Positions.length ≤ 1000000) (hl : c.Writes.length ≤ 1000000) (hd : ∀ w ∈ c.Writes, w.Data.length ≤ 1000000) (hc : cycE c (szs im) = 0) (hf : ∀ w ∈ c.Writes, fitE (szs im) w = 0) (hΦ : Φ (appL im c.Writes, 0)) : cycle_Apply_W im c Φ := by
  have h := fit_small hs
  refine image_Check_ok (by omega) ⟨fun q => absurd q hs, fun _ => ?_⟩
  refine LoopW.mapL im (fun v => (v.length : Int)) (fun k acc rec hk hal _ hrec => ⟨fun _ => ⟨iX (by omega) (by omega), iL (by simp only [List.length_append, List.length_cons, List.length_nil]; omega) (by omega), iI (by omega) (by omega), hrec⟩, fun q => absurd (by omega) q⟩) fun rec => ⟨fun q => absurd q (by omega), fun _ => ?_⟩
  exact cycle_Check_ok hp hl hd ⟨fun q => absurd hc q, fun _ => image_Apply_ok hs hl hf hΦ⟩
end Go.Proofs.YtahlanamngfkcaaDoor

namespace Go.Proofs.YtahlanamngfkcaaDoor
open Go.RowKit
structure Sides (im : List (List Sec)) (A B : List api_Write) (a b : api_Point) : Prop where
  hs : ¬ sizesE (szs im) ≠ 0
  fa : ∀ w ∈ A, fitE (szs im) w = 0
  fb : ∀ w ∈ B, fitE (szs im) w = 0
  ia : a.Image = appL im A
  ib : b.Image = appL im B
  da : a.Dirty = markL ((szs im).map newB) A
  db : b.Dirty = markL ((szs im).map newB) B
  sa : 0 ≤ a.Site ∧ a.Site ≤ 1073741824
  sb : 0 ≤ b.Site ∧ b.Site ≤ 1073741824
  la : linB a.Lineage = true
  lb : linB b.Lineage = true
theorem pt_zero {im : List (List Sec)} {A : List api_Write} {p : api_Point} (hs : ¬ sizesE (szs im) ≠ 0) (fa : ∀ w ∈ A, fitE (szs im) w = 0) (ia : p.Image = appL im A) (da : p.Dirty = markL ((szs im).map newB) A) (sa : 0 ≤ p.Site ∧ p.Site ≤ 1073741824) (la : linB p.Lineage = true) :
    ptE p = 0 ∧ szs p.Image = szs im ∧ Marked (szs im) p.Dirty (fun v i => ∃ w ∈ A, covW w v i) := by
  have hz : szs p.Image = szs im := by rw [ia]; exact szs_appL hs fa
  have hm0 := marked_list hs (marked_clean hs) fa
  rw [← da] at hm0
  have hm : Marked (szs im) p.Dirty (fun v i => ∃ w ∈ A, covW w v i) := ⟨hm0.len, hm0.chk, fun v i hv hi => (hm0.bit v i hv hi).trans ⟨fun q => q.resolve_left fun z => z, .inr⟩⟩
  refine ⟨?_, hz, hm⟩
  have hl : p.Image.length = im.length := by rw [← szs_len, hz, szs_len]
  have hdl := hm.len
  rw [szs_len] at hdl
  unfold ptE
  rw [if_neg (by omega), if_neg (by rw [la]; simp), if_neg (by unfold imgE; rw [hz]; exact hs), if_neg (by omega)]
  refine firstN_zero.2 fun k hk => ?_
  have hc := hm.chk k (by rw [szs_len]; omega)
  unfold dirtyE
  rw [if_neg (by rw [hc.1]; simp), if_neg]
  rw [hc.2, ← hz, ix_szs (by omega)]; simp
section
variable {im : List (List Sec)} {A B : List api_Write} {a b : api_Point}
theorem Sides.pa (h : Sides im A B a b) : ptE a = 0 ∧ szs a.Image = szs im ∧ Marked (szs im) a.Dirty (fun v i => ∃ w ∈ A, covW w v i) := pt_zero h.hs h.fa h.ia h.da h.sa h.la
theorem Sides.pb (h : Sides im A B a b) : ptE b = 0 ∧ szs b.Image = szs im ∧ Marked (szs im) b.Dirty (fun v i => ∃ w ∈ B, covW w v i) := pt_zero h.hs h.fb h.ib h.db h.sb h.lb
theorem Sides.bet (h : Sides im A B a b) : betR a b = (marks a b, 0) := by
  unfold betR
  rw [if_neg (by rw [h.pa.1]; simp), if_neg (by rw [h.pb.1]; simp), if_neg]
  exact fun q => q (decide_eq_true (by rw [h.pa.2.1, h.pb.2.1]))
theorem Sides.fit (h : Sides im A B a b) : Fit a b := fit_of h.pa.1 h.pb.1 (decide_eq_true (by rw [h.pa.2.1, h.pb.2.1]))
theorem Sides.len (h : Sides im A B a b) : a.Image.length = im.length ∧ b.Image.length = im.length := by
  rw [← szs_len a.Image, ← szs_len b.Image, h.pa.2.1, h.pb.2.1, szs_len]; exact ⟨rfl, rfl⟩
theorem Sides.within (h : Sides im A B a b) : Within b.Image (marks a b) := (betR_zero (a := a) (b := b) (by rw [h.bet]; simp)).2.2.2.2.2
def orW (a b : api_Point) (v : Nat) : List (BitVec 64) := List.zipWith (fun x y => x ||| y) (ix a.Dirty (v : Int)).Words (ix b.Dirty (v : Int)).Words
def esV (a b : api_Point) (v : Nat) : List (Int × Int) := extsK (orW a b v) (ix a.Image (v : Int)).length
theorem Sides.marksV (h : Sides im A B a b) {v : Nat} (hv : v < im.length) : ix (marks a b) (v : Int) = (esV a b v).map toX := by
  have hl := h.len
  have hf := h.fit
  have hda := hf.da
  rw [ix_get (by rw [(marks_len a b).1]; omega)]
  unfold marks
  rw [List.getElem_map, List.getElem_range]
  unfold markK exts
  obtain ⟨h1, h2⟩ := hf.or (show v < a.Image.length by omega)
  rw [h1, extR_ok (k := (ix a.Image (v : Int)).length) (by simpa using h2) (by have := (hf.ca v (by omega)).2; simp only; omega)]; rfl
theorem Sides.bits (h : Sides im A B a b) {v i : Nat} (hv : v < im.length) (hi : i < (ix im (v : Int)).length) : bitN (orW a b v) i = true ↔ (∃ w ∈ A, covW w v i) ∨ ∃ w ∈ B, covW w v i := by
  have ha := h.pa.2.2
  have hb := h.pb.2.2
  have hv' : v < (szs im).length := by rw [szs_len]; exact hv
  have hi' : (i : Int) < ix (szs im) (v : Int) := by rw [ix_szs hv]; omega
  have ca := chkB_len (b := ix a.Dirty (v : Int)) (by rw [(ha.chk v hv').1]; simp)
  have cb := chkB_len (b := ix b.Dirty (v : Int)) (by rw [(hb.chk v hv').1]; simp)
  have za := (ha.chk v hv').2
  have zb := (hb.chk v hv').2
  unfold orW
  rw [bit_or (by omega) (by omega), Bool.or_eq_true]
  exact or_congr (ha.bit v i hv' hi') (hb.bit v i hv' hi')
theorem Sides.size (h : Sides im A B a b) {v : Nat} (hv : v < im.length) : (ix a.Image (v : Int)).length = (ix im (v : Int)).length ∧ (ix b.Image (v : Int)).length = (ix im (v : Int)).length := by
  have hl := h.len
  have e1 := ix_szs (a := a.Image) (k := v) (by omega)
  have e2 := ix_szs (a := b.Image) (k := v) (by omega)
  have e3 := ix_szs (a := im) hv
  rw [h.pa.2.1] at e1
  rw [h.pb.2.1] at e2
  omega
theorem Sides.mem (h : Sides im A B a b) {w : api_Write} : w ∈ cont b.Image (marks a b) b.Image.length ↔ ∃ v, v < im.length ∧ ∃ e ∈ esV a b v, w = ⟨(v : Int), e.1, sub (ix b.Image (v : Int)) e.1 (e.1 + e.2)⟩ := by
  have hl := h.len
  unfold cont contV
  rw [List.mem_flatMap]
  constructor
  · rintro ⟨v, hv, hw⟩
    have hv' : v < im.length := by have := List.mem_range.1 hv; omega
    obtain ⟨i, hi, rfl⟩ := List.mem_map.1 hw
    have hi' := List.mem_range.1 hi
    rw [h.marksV hv', List.length_map] at hi'
    refine ⟨v, hv', (esV a b v)[i], List.getElem_mem hi', ?_⟩
    unfold wrK
    rw [h.marksV hv', ix_toX, List.getD_eq_getElem?_getD, List.getElem?_eq_getElem hi']
    rfl
  · rintro ⟨v, hv, e, he, rfl⟩
    obtain ⟨i, hi, rfl⟩ := List.getElem_of_mem he
    refine ⟨v, List.mem_range.2 (by omega), List.mem_map.2 ⟨i, List.mem_range.2 (by rw [h.marksV hv, List.length_map]; exact hi), ?_⟩⟩
    unfold wrK
    rw [h.marksV hv, ix_toX, List.getD_eq_getElem?_getD, List.getElem?_eq_getElem hi]
    rfl
theorem Sides.ex (h : Sides im A B a b) {v : Nat} (hv : v < im.length) : ExOk (esV a b v) ((ix im (v : Int)).length : Int) ∧ ∀ j : Nat, cov (esV a b v) (j : Int) ↔ j < (ix im (v : Int)).length ∧ bitN (orW a b v) j = true := by
  have := extsK_ok (orW a b v) (ix a.Image (v : Int)).length
  rw [(h.size hv).1] at this
  unfold esV
  rw [(h.size hv).1]
  exact this
theorem Sides.dlen (h : Sides im A B a b) {v : Nat} (hv : v < im.length) {e : Int × Int} (he : e ∈ esV a b v) : ((sub (ix b.Image (v : Int)) e.1 (e.1 + e.2)).length : Int) = e.2 ∧ 0 ≤ e.1 ∧ 1 ≤ e.2 ∧ e.1 + e.2 ≤ ((ix im (v : Int)).length : Int) := by
  have := (h.ex hv).1.each e he
  have hz := (h.size hv).2
  rw [sub_len (iS (by omega) (by omega) (by omega))]
  omega
theorem Sides.fits (h : Sides im A B a b) : ∀ w ∈ cont b.Image (marks a b) b.Image.length, fitE (szs im) w = 0 := by
  intro w hw
  obtain ⟨v, hv, e, he, rfl⟩ := h.mem.1 hw
  obtain ⟨d1, d2, d3, d4⟩ := h.dlen hv he
  have h4 := (fit_small h.hs).2.2 v hv
  obtain ⟨s, hs⟩ := Int.eq_ofNat_of_zero_le d2
  exact fitE_of (v := v) (s := s) ⟨rfl, hs, by rw [szs_len]; exact hv, by simp only; omega, by rw [ix_szs hv]; simp only; omega, by rw [ix_szs hv]; omega⟩
theorem Sides.covers (h : Sides im A B a b) {v i : Nat} (hv : v < im.length) (hi : i < (ix im (v : Int)).length) : (∃ w ∈ cont b.Image (marks a b) b.Image.length, covW w v i) ↔ (∃ w ∈ A, covW w v i) ∨ ∃ w ∈ B, covW w v i := by
  rw [← h.bits hv hi]
  constructor
  · rintro ⟨w, hw, hc⟩
    obtain ⟨v', hv', e, he, rfl⟩ := h.mem.1 hw
    have e1 : v' = v := by have := hc.1; simp only at this; omega
    subst e1
    have hd := (h.dlen hv he).1
    exact (((h.ex hv).2 i).1 ⟨e, he, hc.2.1, by have := hc.2.2; simp only at this; omega⟩).2
  · intro hb
    obtain ⟨e, he, h1, h2⟩ := ((h.ex hv).2 i).2 ⟨hi, hb⟩
    have hd := (h.dlen hv he).1
    exact ⟨_, h.mem.2 ⟨v, hv, e, he, rfl⟩, rfl, h1, by simp only; omega⟩
theorem ix_sub {α : Type} [Dt α] {xs : List α} {lo hi i : Nat} (h1 : lo ≤ i) (h2 : i < hi) : ix (sub xs (lo : Int) (hi : Int)) ((i : Int) - (lo : Int)) = ix xs (i : Int) := by
  show (sub xs (lo : Int) (hi : Int)).getD ((i : Int) - (lo : Int)).toNat default = xs.getD i default
  unfold sub
  rw [List.getD_eq_getElem?_getD, List.getD_eq_getElem?_getD, List.getElem?_take_of_lt (by omega), List.getElem?_drop]
  congr 2
  omega
theorem Sides.agree (h : Sides im A B a b) {v i : Nat} (hv : v < im.length) : ∀ w ∈ cont b.Image (marks a b) b.Image.length, covW w v i → ix w.Data ((i : Int) - w.Start) = sec b.Image v i := by
  intro w hw hc
  obtain ⟨v', hv', e, he, rfl⟩ := h.mem.1 hw
  have e1 : v' = v := by have := hc.1; simp only at this; omega
  subst e1
  obtain ⟨d1, d2, d3, d4⟩ := h.dlen hv he
  have hz := (h.size hv).2
  have c1 := hc.2.1
  have c2 := hc.2.2
  simp only at c1 c2 ⊢
  obtain ⟨s, hs⟩ := Int.eq_ofNat_of_zero_le d2
  obtain ⟨t, ht⟩ := Int.eq_ofNat_of_zero_le (show 0 ≤ e.1 + e.2 by omega)
  rw [ht, hs]
  exact ix_sub (by omega) (by omega)
def befW (x y : api_Write) : Prop := x.Volume < y.Volume ∨ (x.Volume = y.Volume ∧ x.Start + (x.Data.length : Int) < y.Start)
theorem Sides.rise (h : Sides im A B a b) : (cont b.Image (marks a b) b.Image.length).Pairwise befW := by
  have hl := h.len
  have wrk : ∀ v : Nat, v < im.length → ∀ (i : Nat) (hi : i < (esV a b v).length), wrK b.Image (marks a b) v i = ⟨(v : Int), (esV a b v)[i].1, sub (ix b.Image (v : Int)) (esV a b v)[i].1 ((esV a b v)[i].1 + (esV a b v)[i].2)⟩ := by
    intro v hv i hi
    unfold wrK
    rw [h.marksV hv, ix_toX, List.getD_eq_getElem?_getD, List.getElem?_eq_getElem hi]; rfl
  unfold cont
  rw [List.pairwise_flatMap]
  refine ⟨fun v hv => ?_, ?_⟩
  · have hv' : v < im.length := by have := List.mem_range.1 hv; omega
    unfold contV
    rw [List.pairwise_map]
    refine (List.pairwise_lt_range (n := (ix (marks a b) (v : Int)).length)).imp_of_mem fun {i j} hi hj hij => ?_
    have hi' := List.mem_range.1 hi
    have hj' := List.mem_range.1 hj
    rw [h.marksV hv', List.length_map] at hi' hj'
    rw [wrk v hv' i hi', wrk v hv' j hj']
    have := List.pairwise_iff_getElem.1 (h.ex hv').1.apart i j hi' hj' hij
    have hd := (h.dlen hv' (List.getElem_mem hi')).1
    exact .inr ⟨rfl, by simp only; omega⟩
  · refine (List.pairwise_lt_range (n := b.Image.length)).imp_of_mem fun {v u} _ _ hvu x hx y hy => ?_
    unfold contV at hx hy
    obtain ⟨i, _, rfl⟩ := List.mem_map.1 hx
    obtain ⟨j, _, rfl⟩ := List.mem_map.1 hy
    exact .inl (by show (v : Int) < (u : Int); omega)
theorem wrs_zero {sizes : List Int} {l : List api_Write} (hf : ∀ w ∈ l, fitE sizes w = 0) (hr : l.Pairwise befW) : wrsE sizes l = 0 := by
  refine firstN_zero.2 fun k hk => ?_
  have h0 := hf _ (ix_mem (iX (show (0 : Int) ≤ (k : Int) by omega) (by omega)))
  unfold wrE
  rw [if_neg (by rw [h0]; simp)]
  by_cases hz : k = 0
  · rw [if_pos hz]
  · rw [if_neg hz, if_neg]
    have := List.pairwise_iff_getElem.1 hr (k - 1) k (by omega) hk (by omega)
    unfold orderB
    rw [show (k : Int) - 1 = ((k - 1 : Nat) : Int) by omega, ix_get hk, ix_get (show k - 1 < l.length by omega)]
    unfold befW at this
    omega
theorem Sides.cyc (h : Sides im A B a b) {n t : Int} {ps : List Int} (hn : (ancR a.Lineage b.Lineage).1 < n) (h0 : 0 ≤ (ancR a.Lineage b.Lineage).1) (hn2 : lastTo b.Lineage ≤ n) (hn3 : n ≤ 1073741824) (ht : 0 ≤ t ∧ t ≤ 1073741824) (hp : posE ps = 0) :
    cycR a b n t ps = (⟨(ancR a.Lineage b.Lineage).1, n, t, ps, cont b.Image (marks a b) b.Image.length⟩, 0) ∧ cycE ⟨(ancR a.Lineage b.Lineage).1, n, t, ps, cont b.Image (marks a b) b.Image.length⟩ (szs im) = 0 := by
  have e : cycE ⟨(ancR a.Lineage b.Lineage).1, n, t, ps, cont b.Image (marks a b) b.Image.length⟩ (szs im) = 0 := by
    unfold cycE
    rw [if_neg h.hs, if_neg (by simp only; omega), if_neg (by simp only; omega), if_neg (by rw [hp]; simp)]
    exact wrs_zero h.fits h.rise
  refine ⟨?_, e⟩
  have hc : cycOf a b n t ps = ⟨(ancR a.Lineage b.Lineage).1, n, t, ps, cont b.Image (marks a b) b.Image.length⟩ := by unfold cycOf; rw [h.bet]
  unfold cycR
  rw [h.bet, if_neg (by simp), if_neg (by omega), hc, h.pb.2.1, if_neg (by rw [e]; simp)]
theorem Sides.app (h : Sides im A B a b) {x : List (List Sec)} (hx : szs x = szs im) (hu : ∀ v i : Nat, v < im.length → i < (ix im (v : Int)).length → ¬ ((∃ w ∈ A, covW w v i) ∨ ∃ w ∈ B, covW w v i) → sec x v i = sec im v i) : appL x (cont b.Image (marks a b) b.Image.length) = b.Image := by
  have hfx : ∀ w ∈ cont b.Image (marks a b) b.Image.length, fitE (szs x) w = 0 := by rw [hx]; exact h.fits
  have hsx : ¬ sizesE (szs x) ≠ 0 := by rw [hx]; exact h.hs
  have hz := szs_appL hsx hfx
  have hxl : x.length = im.length := by rw [← szs_len, hx, szs_len]
  have hal : (appL x (cont b.Image (marks a b) b.Image.length)).length = im.length := by rw [← szs_len, hz, szs_len, hxl]
  refine im_ext (by rw [hz, hx, h.pb.2.1]) fun v i hv hi => ?_
  rw [hal] at hv
  have hrow : (ix (appL x (cont b.Image (marks a b) b.Image.length)) (v : Int)).length = (ix im (v : Int)).length := by
    have e1 := ix_szs (a := appL x (cont b.Image (marks a b) b.Image.length)) (k := v) (by omega)
    have e2 := ix_szs (a := im) hv
    rw [hz, hx] at e1
    omega
  rw [hrow] at hi
  refine sec_same hsx hfx (h.agree hv) ?_
  by_cases hm : (∃ w ∈ A, covW w v i) ∨ ∃ w ∈ B, covW w v i
  · exact .inl ((h.covers hv hi).2 hm)
  · right
    rw [hu v i hv hi hm, h.ib, sec_none h.hs h.fb fun w hw hc => hm (.inr ⟨w, hw, hc⟩)]
end
end Go.Proofs.YtahlanamngfkcaaDoor

namespace Go.Proofs.YtahlanamngfkcaaDoor
open Go.RowKit
theorem law47_small_ok {l : List api_Write} {Φ : Bool → Prop} (hF : Φ false) (hT : l.length ≤ 12 → (∀ w ∈ l, w.Data.length ≤ 20) → Φ true) (hl : l.length ≤ maxLen) : law47_small_W l Φ := by
  simp only [maxLen] at hl
  refine LoopW.up l.length (fun k => ∀ j : Nat, j < k → (ix l (j : Int)).Data.length ≤ 20) ?_ (k0 := 0) rfl (Nat.zero_le _) (fun j hj => absurd hj (Nat.not_lt_zero j))
  intro k rec hk hI hrec
  refine ⟨fun hlt => ⟨iX (by omega) hlt, fun _ => hF, fun q => ⟨iI (by omega) (by omega), hrec (by omega) fun j hj => ?_⟩⟩, fun hge => ?_⟩
  · rcases Nat.lt_or_ge j k with h | h
    · exact hI j h
    · have : j = k := by omega
      subst this; omega
  · by_cases h12 : (l.length : Int) ≤ 12
    · rw [decide_eq_true h12]
      refine hT (by omega) fun w hw => ?_
      obtain ⟨i, hi, rfl⟩ := List.getElem_of_mem hw
      have := hI i (by omega)
      rwa [ix_get hi] at this
    · rw [decide_eq_false h12]; exact hF
def fitL (im : List (List Sec)) (l : List api_Write) : List api_Write := (l.take 8).filter fun w => decide (fitE (szs im) w = 0)
theorem fitL_ok (im : List (List Sec)) (l : List api_Write) : (fitL im l).length ≤ 8 ∧ ∀ w ∈ fitL im l, fitE (szs im) w = 0 := by
  refine ⟨?_, fun w hw => of_decide_eq_true (List.mem_filter.1 hw).2⟩
  have h1 := List.length_filter_le (fun w => decide (fitE (szs im) w = 0)) (l.take 8)
  have h2 : (l.take 8).length ≤ 8 := by rw [List.length_take]; omega
  exact Nat.le_trans h1 h2
theorem law47_fitting_ok {im : List (List Sec)} {l : List api_Write} {Φ : List api_Write → Prop} (hs : ¬ sizesE (szs im) ≠ 0) (hΦ : Φ (fitL im l)) : law47_fitting_W im l Φ := by
  refine LoopW.up2 (min l.length 8) (fun k r => r = (l.take k).filter fun w => decide (fitE (szs im) w = 0)) ?_ rfl (Nat.zero_le _) rfl
  rintro k _ rec hk rfl hrec
  have hle : ((l.take k).filter fun w => decide (fitE (szs im) w = 0)).length ≤ k := by
    have h1 := List.length_filter_le (fun w => decide (fitE (szs im) w = 0)) (l.take k)
    rw [List.length_take] at h1; omega
  refine ⟨fun hlt => ⟨iX (by omega) hlt.1, ref07_Fits_ok hs ⟨fun q => ⟨iL (by simp only [List.length_append, List.length_cons, List.length_nil]; omega) (by omega), iI (by omega) (by omega), hrec _ (by omega) ?_⟩, fun q => ⟨iI (by omega) (by omega), hrec _ (by omega) ?_⟩⟩⟩, fun hge => ?_⟩
  · rw [take_ix (show k < l.length by omega), List.filter_append]; simp [q]
  · rw [take_ix (show k < l.length by omega), List.filter_append]; simp [q]
  · have e : l.take k = l.take 8 := by
      rcases Nat.lt_or_ge l.length 8 with h | h
      · rw [List.take_of_length_le (by omega), List.take_of_length_le (by omega)]
      · rw [show k = 8 by omega]
    rw [e]; exact hΦ
theorem ref07_New_ok {sizes : List Int} {Φ : List (List Sec) × Int → Prop} (hs : ¬ sizesE sizes ≠ 0) (hΦ : Φ (zeroIm sizes, 0)) : ref07_New_W sizes Φ := by
  have h := sizes_ok hs
  refine ref07_Sizes_ok ⟨fun q => absurd q hs, fun _ => LoopW.mapL sizes (fun n => List.replicate n.toNat sec0) (fun k acc rec hk hal _ hrec => ⟨fun _ => ?_, fun q => absurd (by omega) q⟩) fun rec => ⟨fun q => absurd q (by omega), fun _ => hΦ⟩⟩
  have := h.2.2 k hk
  exact ⟨iX (by omega) (by omega), by omega, iL (by omega) (by omega), iL (by simp only [List.length_append, List.length_cons, List.length_nil]; omega) (by omega), iI (by omega) (by omega), hrec⟩
theorem sizes2_ok {m : Int} (h1 : 1 ≤ m) (h2 : m ≤ 4096) : ¬ sizesE [m, 4] ≠ 0 := by
  intro h
  apply h
  unfold sizesE
  rw [if_neg (by simp)]
  refine firstN_zero.2 fun k hk => if_neg ?_
  have hk2 : k < 2 := hk
  rcases (show k = 0 ∨ k = 1 by omega) with rfl | rfl
  · show ¬ (m < 1 ∨ 4096 < m); omega
  · show ¬ ((4 : Int) < 1 ∨ (4096 : Int) < 4); omega
def imOf (x : BitVec 8) : List (List Sec) := zeroIm [1 + ((x.toNat : Int) % 12), 4]
theorem imOf_ok (x : BitVec 8) : ¬ sizesE (szs (imOf x)) ≠ 0 := by
  have hs := sizes2_ok (m := 1 + ((x.toNat : Int) % 12)) (by omega) (by omega)
  unfold imOf
  rw [szs_zero hs]; exact hs
theorem law47_image_ok {x : BitVec 8} {Φ : List (List Sec) → Prop} (hΦ : Φ (imOf x)) : law47_image_W x Φ := by
  have hs := sizes2_ok (m := 1 + ((x.toNat : Int) % 12)) (by omega) (by omega)
  refine ⟨by omega, iI (by omega) (by omega), ref07_New_ok hs hΦ⟩
def ptOf (site : Int) (lin : List api_Span) (im : List (List Sec)) (l : List api_Write) : api_Point := ⟨site, lin, markL ((szs im).map newB) l, appL im l⟩
theorem law47_point_ok {im : List (List Sec)} {site : Int} {lin : List api_Span} {l : List api_Write} {Φ : api_Point → Prop} (hs : ¬ sizesE (szs im) ≠ 0) (hl : l.length ≤ 1000000) (hf : ∀ w ∈ l, fitE (szs im) w = 0) (hΦ : Φ (ptOf site lin im l)) : law47_point_W site im lin l Φ := by
  have h := fit_small hs
  refine ref07_Apply_ok hs hl hf (ref07_SizesOf_ok (by omega) (ref43_Clean_ok hs (ref43_Mark_ok ?_ ?_ hl ?_ hΦ)))
  · rw [List.length_map, szs_len]; omega
  · intro b hb
    obtain ⟨n, hn, rfl⟩ := List.mem_map.1 hb
    obtain ⟨i, hi, rfl⟩ := List.getElem_of_mem hn
    have := (sizes_ok hs).2.2 i hi
    rw [ix_get hi] at this
    show (List.replicate _ _).length ≤ _
    rw [List.length_replicate]; omega
  · intro w hw
    obtain ⟨v, s, hfw⟩ := fitW_of hs (hf w hw)
    rw [List.length_map, hfw.vol]
    exact iX (by omega) (by have := hfw.hv; omega)
theorem lin_one {n : Nat} (h : n < 5) : linB [⟨1, 1, 1 + (n : Int) + 1⟩] = true ∧ linB [⟨1, 1, 1 + (n : Int)⟩, ⟨3, 1 + (n : Int) + 1, 1 + (n : Int) + 2⟩] = true ∧ ancR [⟨1, 1, 1 + (n : Int) + 1⟩] [⟨1, 1, 1 + (n : Int)⟩, ⟨3, 1 + (n : Int) + 1, 1 + (n : Int) + 2⟩] = (1 + (n : Int), 1) ∧ lastTo [⟨1, 1, 1 + (n : Int)⟩, ⟨3, 1 + (n : Int) + 1, 1 + (n : Int) + 2⟩] = 1 + (n : Int) + 2 := by
  rcases (show n = 0 ∨ n = 1 ∨ n = 2 ∨ n = 3 ∨ n = 4 by omega) with rfl | rfl | rfl | rfl | rfl <;> decide
def linA (n : Int) : List api_Span := [⟨1, 1, n + 1⟩]
def linC (n : Int) : List api_Span := [⟨1, 1, n⟩, ⟨3, n + 1, n + 2⟩]
def nOf (x : BitVec 8) : Int := 1 + ((x % (5#8)).toNat : Int)
def sideA (im : List (List Sec)) (l : List api_Write) (x : BitVec 8) : api_Point := ptOf 0 (linA (nOf x)) im (fitL im l)
def sideB (im : List (List Sec)) (l : List api_Write) (x : BitVec 8) : api_Point := ptOf 1 (linC (nOf x)) im (fitL im l)
theorem lins (x : BitVec 8) : linB (linA (nOf x)) = true ∧ linB (linC (nOf x)) = true ∧ ancR (linA (nOf x)) (linC (nOf x)) = (nOf x, 1) ∧ lastTo (linC (nOf x)) = nOf x + 2 ∧ 1 ≤ nOf x ∧ nOf x ≤ 5 := by
  have hx : (x % (5#8)).toNat < 5 := by rw [BitVec.toNat_umod]; exact Nat.mod_lt _ (by decide)
  obtain ⟨l1, l2, l3, l4⟩ := lin_one hx
  exact ⟨l1, l2, l3, l4, by unfold nOf; omega, by unfold nOf; omega⟩
theorem law47_sides_ok {im : List (List Sec)} {A B : List api_Write} {x : BitVec 8} {Φ : api_Point × api_Point → Prop} (hs : ¬ sizesE (szs im) ≠ 0) (hΦ : Φ (sideA im A x, sideB im B x)) : law47_sides_W im A B x Φ := by
  have hx : (x % (5#8)).toNat < 5 := by rw [BitVec.toNat_umod]; exact Nat.mod_lt _ (by decide)
  have fa := fitL_ok im A
  have fb := fitL_ok im B
  exact ⟨iI (by omega) (by omega), iI (by omega) (by omega), law47_fitting_ok hs (law47_point_ok hs (by omega) fa.2 ⟨iI (by omega) (by omega), law47_fitting_ok hs (law47_point_ok hs (by omega) fb.2 hΦ)⟩)⟩
theorem sides_of {im : List (List Sec)} (A B : List api_Write) (x : BitVec 8) (hs : ¬ sizesE (szs im) ≠ 0) : Sides im (fitL im A) (fitL im B) (sideA im A x) (sideB im B x) := by
  obtain ⟨l1, l2, _⟩ := lins x
  exact ⟨hs, (fitL_ok im A).2, (fitL_ok im B).2, rfl, rfl, rfl, rfl, ⟨show (0 : Int) ≤ 0 by omega, show (0 : Int) ≤ 1073741824 by omega⟩, ⟨show (0 : Int) ≤ 1 by omega, show (1 : Int) ≤ 1073741824 by omega⟩, l1, l2⟩
theorem ref07_Same_refl {a : List (List Sec)} {Φ : Bool → Prop} (hs : ¬ sizesE (szs a) ≠ 0) (hΦ : Φ true) : ref07_Same_W a a Φ := by
  have h := fit_small hs
  have hv : ∀ {r : List Sec} {Ψ : Bool → Prop}, r.length ≤ 1000000 → Ψ true → ref07_SameVolume_W r r Ψ := fun {r Ψ} hr hΨ => by
    refine ⟨fun q => absurd rfl q, fun _ => LoopW.up r.length (fun _ => True) ?_ (k0 := 0) rfl (Nat.zero_le _) trivial⟩
    intro k rec hk _ hrec
    exact ⟨fun hlt => ⟨iX (by omega) hlt, iX (by omega) hlt, fun q => absurd rfl q, fun _ => ⟨iI (by omega) (by omega), hrec (by omega) trivial⟩⟩, fun _ => hΨ⟩
  refine ⟨fun q => absurd rfl q, fun _ => LoopW.up a.length (fun _ => True) ?_ (k0 := 0) rfl (Nat.zero_le _) trivial⟩
  intro k rec hk _ hrec
  refine ⟨fun hlt => ⟨iX (by omega) hlt, iX (by omega) hlt, true, hv ?_ rfl, fun q => absurd rfl q, fun _ => ⟨iI (by omega) (by omega), hrec (by omega) trivial⟩⟩, fun _ => hΦ⟩
  have := (h.2.2 k (by omega)).2
  omega
theorem Sides.small {im : List (List Sec)} {A B : List api_Write} {a b : api_Point} (h : Sides im A B a b) : (cont b.Image (marks a b) b.Image.length).length ≤ 1000000 ∧ (∀ w ∈ cont b.Image (marks a b) b.Image.length, w.Data.length ≤ 1000000) ∧ a.Image.length ≤ 100000 ∧ b.Image.length ≤ 100000 ∧ ¬ sizesE (szs a.Image) ≠ 0 ∧ ¬ sizesE (szs b.Image) ≠ 0 := by
  have hl := h.len
  have h8 := (fit_small h.hs).1
  have := cont_len h.within (n := b.Image.length) (Nat.le_refl _)
  exact ⟨by omega, cont_data h.within (Nat.le_refl _), by omega, by omega, by rw [h.pa.2.1]; exact h.hs, by rw [h.pb.2.1]; exact h.hs⟩
end Go.Proofs.YtahlanamngfkcaaDoor

namespace Go.Proofs.YtahlanamngfkcaaDoor
open Go.RowKit
theorem ref02_FromExtents_ok {n : Int} {ps : List (Int × Int)} {Φ : api_Bitmap × Int → Prop} (h0 : 0 ≤ n) (h1 : n ≤ 4096) (hl : ps.length ≤ 1000000) (hΦ : Φ (bmOf (fromR (newR n) ps))) : ref02_FromExtents_W n (ps.map toX) Φ := by
  have hml : (ps.map toX).length = ps.length := List.length_map _
  rw [newR_ok h0 h1] at hΦ
  refine ref02_New_ok h0 h1 (LoopW.upS ps.length (fun s : Int × List (BitVec 64) × Int × Int => s.2.2.2) (fun k s => Φ (bmOf (fromR ⟨s.1, s.2.1, s.2.2.1⟩ (ps.drop k)))) ?_ 0 rfl (Nat.zero_le _) hΦ)
  rintro k ⟨sz, ws, er, i⟩ rec hk hi hI hrec
  simp only at hi hI
  subst hi
  refine ⟨fun h => ?_, fun h => ?_⟩
  · have hlt : k < ps.length := by omega
    refine ⟨iX (by omega) (by omega), _, ref02_Set_ok rfl, iI (by omega) (by omega), hrec _ hlt rfl ?_⟩
    rw [fromR_drop h.2 hlt] at hI
    rw [ix_toX]
    exact hI
  · by_cases he : er = 0
    · rw [fromR_end (show ps.length ≤ k by omega)] at hI; exact hI
    · rw [fromR_err (r := ⟨sz, ws, er⟩) he] at hI; exact hI
section
variable {im : List (List Sec)} {A B : List api_Write} {a b : api_Point}
def Near (im : List (List Sec)) (A B : List api_Write) (x : List (List Sec)) : Prop :=
  szs x = szs im ∧ ∀ v i : Nat, v < im.length → i < (ix im (v : Int)).length → ¬ ((∃ w ∈ A, covW w v i) ∨ ∃ w ∈ B, covW w v i) → sec x v i = sec im v i
theorem Near.len {x : List (List Sec)} (h : Near im A B x) : x.length = im.length ∧ ∀ v : Nat, v < im.length → (ix x (v : Int)).length = (ix im (v : Int)).length := by
  have hl : x.length = im.length := by rw [← szs_len, h.1, szs_len]
  refine ⟨hl, fun v hv => ?_⟩
  have e1 := ix_szs (a := x) (k := v) (by omega)
  have e2 := ix_szs (a := im) hv
  rw [h.1] at e1
  omega
theorem Near.put {x : List (List Sec)} (h : Near im A B x) {v i : Nat} (hv : v < im.length) (hi : i < (ix im (v : Int)).length) (hm : (∃ w ∈ A, covW w v i) ∨ ∃ w ∈ B, covW w v i) (s : Sec) : Near im A B (put x (v : Int) (put (ix x (v : Int)) (i : Int) s)) := by
  obtain ⟨hl, hr⟩ := h.len
  refine ⟨?_, fun u j hu hj hn => ?_⟩
  · rw [← h.1]
    refine ext_ix (by rw [szs_len, szs_len, put_len]) fun k hk => ?_
    rw [szs_len, put_len] at hk
    rw [ix_szs (by rw [put_len]; exact hk), ix_szs hk, ix_put _ _ (by omega)]
    by_cases hkv : k = v
    · rw [if_pos hkv, put_len, hkv]
    · rw [if_neg hkv]
  · rw [← h.2 u j hu hj hn]
    unfold sec
    rw [ix_put _ _ (by omega)]
    by_cases huv : u = v
    · subst huv
      rw [if_pos rfl, ix_put _ _ (by rw [hr u hu]; exact hi), if_neg]
      rintro rfl; exact hn hm
    · rw [if_neg huv]
theorem Sides.near (h : Sides im A B a b) : Near im A B a.Image := ⟨h.pa.2.1, fun v i _ _ hm => by rw [h.ia]; exact sec_none h.hs h.fa fun u hu hc => hm (.inl ⟨u, hu, hc⟩)⟩
theorem Sides.back (h : Sides im A B a b) {v : Nat} (hv : v < im.length) : bmOf (fromR (newR ((ix im (v : Int)).length : Int)) (esV a b v)) = (⟨((ix im (v : Int)).length : Int), orW a b v⟩, 0) ∧ chk ((ix im (v : Int)).length : Int) (orW a b v) = 0 := by
  have hf := h.fit
  have hl := h.len
  obtain ⟨_, h2⟩ := hf.or (show v < a.Image.length by omega)
  have hsz := (hf.ca v (by omega)).2
  rw [(h.size hv).1] at hsz
  rw [hsz] at h2
  have hb := exts_back h2
  rw [extR_ok (k := (ix im (v : Int)).length) (by simpa using h2) (by omega)] at hb
  have e : esV a b v = extsK (List.zipWith (fun x y => x ||| y) (ix a.Dirty (v : Int)).Words (ix b.Dirty (v : Int)).Words) (ix im (v : Int)).length := by unfold esV orW; rw [(h.size hv).1]
  rw [e, hb]
  exact ⟨rfl, h2⟩
end
theorem reverseSettles_law (x : BitVec 8) (w : Arr2_api_Write) (o : List Sec) (hw : Rg.rg w) (_ : Rg.rg o) : law47_ReverseSettles_W x w o fun v => v = true := by
  refine law47_small_ok ⟨fun _ => law47_awake_ok rfl, fun q => absurd (by simp) q⟩ (fun _ _ => ⟨fun q => absurd rfl q, fun _ => law47_small_ok ⟨fun _ => law47_awake_ok rfl, fun q => absurd (by simp) q⟩ (fun _ _ => ⟨fun q => absurd rfl q, fun _ => ⟨fun _ => law47_awake_ok rfl, fun ho => ?_⟩⟩) hw.2.1⟩) hw.1.1
  have hs := imOf_ok x
  refine ⟨imOf x, law47_image_ok rfl, (sideA (imOf x) w.e0 (2#8), sideB (imOf x) w.e1 (2#8)), law47_sides_ok hs rfl, ?_⟩
  have h := sides_of w.e0 w.e1 (2#8) hs
  obtain ⟨l1, l2, l3, l4, n1, n2⟩ := lins (2#8)
  have hn3 : nOf (2#8) = 3 := by decide
  obtain ⟨s1, s2, s3, s4, s5, s6⟩ := h.small
  have hla : (sideA (imOf x) w.e0 (2#8)).Lineage.length ≤ 1000000 := by show (linA (nOf (2#8))).length ≤ _; exact Nat.le_of_ble_eq_true rfl
  have hlb : (sideB (imOf x) w.e1 (2#8)).Lineage.length ≤ 1000000 := by show (linC (nOf (2#8))).length ≤ _; exact Nat.le_of_ble_eq_true rfl
  obtain ⟨c1, c2⟩ := h.cyc (n := 5) (t := 9) (ps := []) (by show (ancR (linA (nOf (2#8))) (linC (nOf (2#8)))).1 < _; rw [l3]; simp only; omega) (by show 0 ≤ (ancR (linA (nOf (2#8))) (linC (nOf (2#8)))).1; rw [l3]; simp only; omega) (by show lastTo (linC (nOf (2#8))) ≤ _; rw [l4]; omega) (by omega) ⟨by omega, by omega⟩ (by decide)
  have hbet := h.bet
  have hfit := h.fit
  have hnear := h.near
  have happ := fun y hy => h.app (x := y) hy
  have hmark := fun v (hv : v < (imOf x).length) => h.marksV hv
  have hback := fun v (hv : v < (imOf x).length) => h.back hv
  have hbits := fun v i (hv : v < (imOf x).length) (hi : i < (ix (imOf x) (v : Int)).length) => h.bits hv hi
  have hfits := h.fits
  have hml := (marks_len (sideA (imOf x) w.e0 (2#8)) (sideB (imOf x) w.e1 (2#8))).1
  have hal := h.len
  have hex := fun v (hv : v < (imOf x).length) => (h.within.small v (by omega)).2
  generalize sideA (imOf x) w.e0 (2#8) = a at *
  generalize sideB (imOf x) w.e1 (2#8) = b at *
  generalize fitL (imOf x) w.e0 = A at *
  generalize fitL (imOf x) w.e1 = B at *
  generalize imOf x = im at *
  have hsm := fit_small hs
  have hda := hfit.da
  refine delta_Between_ok hla hlb s3 s4 ?_
  rw [hbet]
  refine reverse_Cycle_ok hla hlb s3 s4 (by decide) ?_
  rw [c1]
  refine ⟨fun q => absurd q ?_, fun _ => ref07_Copy_ok s5 ?_⟩
  · rintro (q | q | q)
    · exact q rfl
    · exact q rfl
    · exact q (by simp only; omega)
  refine LoopW.upS im.length (fun s : List (List Sec) × Int × Int => s.2.2) (fun _ s => Near im A B s.1 ∧ 0 ≤ s.2.1 ∧ s.2.1 ≤ (o.length : Int)) ?_ 0 rfl (Nat.zero_le _) ⟨hnear, Int.le_refl 0, by simp only; omega⟩
  rintro v ⟨y, k, i⟩ rec hv hi ⟨hy, hk0, hk1⟩ hrec
  simp only at hi hk0 hk1 hy
  subst hi
  obtain ⟨hyl, hyr⟩ := hy.len
  refine ⟨fun hlt => ?_, fun hge => ?_⟩
  · have hv' : v < im.length := by omega
    have hz := hsm.2.2 v hv'
    obtain ⟨e1, e2⟩ := hback v hv'
    have hel := hex v hv'
    refine ⟨iX (by omega) hlt, iX (by omega) (by simp only; omega), ((⟨((ix im (v : Int)).length : Int), orW a b v⟩ : api_Bitmap), 0), ?_, ?_⟩
    · simp only
      rw [hmark v hv', hyr v hv']
      rw [hmark v hv', List.length_map] at hel
      exact ref02_FromExtents_ok (by omega) (by omega) (by omega) (by rw [e1])
    · refine LoopW.upS (ix im (v : Int)).length (fun s : List (List Sec) × Int × Int => s.2.2) (fun _ s => Near im A B s.1 ∧ 0 ≤ s.2.1 ∧ s.2.1 ≤ (o.length : Int)) ?_ 0 rfl (Nat.zero_le _) ⟨hy, hk0, hk1⟩
      rintro m ⟨z, q, j⟩ rec2 hm hj ⟨hzn, hq0, hq1⟩ hrec2
      simp only at hj hzn hq0 hq1
      subst hj
      obtain ⟨hzl, hzr⟩ := hzn.len
      have hrow := hzr v hv'
      refine ⟨iX (by omega) (by omega), fun hmlt => ⟨fun _ => ref02_Get_ok ⟨fun hg => ?_, fun hg => ⟨fun q => absurd q (by simp), fun _ => ⟨iI (by omega) (by omega), hrec2 _ (by omega) rfl ⟨hzn, hq0, hq1⟩⟩⟩⟩, fun q => absurd rfl q⟩, fun hmge => ⟨iI (by omega) (by omega), hrec _ hv' rfl ⟨hzn, hq0, hq1⟩⟩⟩
      have hbm := (hbits v m hv' (by omega)).1 (by have := (getB_iff.1 hg).2.2.2; simpa using this)
      refine ⟨fun hd => ?_, fun _ => ⟨iI (by omega) (by omega), hrec2 _ (by omega) rfl ⟨hzn, hq0, hq1⟩⟩⟩
      have hd' : q < (o.length : Int) := of_decide_eq_true hd
      exact ⟨iX (by omega) (by omega), iX hq0 hd', iX (by omega) (by omega), iI (by omega) (by omega), iI (by omega) (by omega), hrec2 _ (by omega) rfl ⟨hzn.put hv' (by omega) hbm _, by simp only; omega, by simp only; omega⟩⟩
  · refine cycle_Apply_ok (by rw [hy.1]; exact hs) (show ([] : List Int).length ≤ 1000000 by decide) s1 s2 (by rw [hy.1]; exact c2) (by rw [hy.1]; exact hfits) (law47_awake_ok ⟨fun _ => ⟨fun _ => ?_, fun q => absurd rfl q⟩, fun q => absurd rfl q⟩)
    show ref07_Same_W (appL y (cont _ _ _)) _ _
    rw [happ y hy.1 hy.2]
    exact ref07_Same_refl s6 rfl
end Go.Proofs.YtahlanamngfkcaaDoor

namespace Go.Proofs.YtahlanamngfkcaaDoor
open Go.RowKit Go.ChangeShapes Go.WideShapes Go.ChangeAt
set_option maxRecDepth 100000 in
theorem reverseSettles_lifted (os : Os) (started : os.Started) (H : Type) (enc : TypeId × Value → H) :
    ReturnsInHanded {} Tryd.checked os 6 .any (fun w args => (Rows.reverseSettlesSpec.pre enc Tryd.prog Tryd.f6 [] false w args ∧ laidMetH Tryd.prog [("math/bits.deBruijn64tab", Rows.laid_math_bits_deBruijn64tab)] w) ∧ sizedMet enc Tryd.prog Tryd.f6 (OpenSpec.ofChange Rows.reverseSettlesSpec) false w args)
      (Rows.reverseSettlesSpec.post enc Tryd.prog Tryd.f6 false true false false) := by
  refine returnsInHanded_of_change_and (C := Tryd.checked) (X := fun w _ => laidMetH Tryd.prog [("math/bits.deBruijn64tab", Rows.laid_math_bits_deBruijn64tab)] w) (fun _ _ _ hh h => h.of_heap hh) Tryd.own started (by kernel_rfl) Tryd.func6
    (ChangeSpec.witness_shaped (enc := enc) (C := Tryd.checked) (os := os) (X := fun w _ => laidMetH Tryd.prog [("math/bits.deBruijn64tab", Rows.laid_math_bits_deBruijn64tab)] w) false (World.doorLaid Tryd.prog 14 os) #[.int .u8 0, .agg #[.slice none 0 0, .slice none 0 0], .slice none 0 0] 8 rfl (World.shaped_of_RefB (by kernel_rfl) (by kernel_rfl)) (by kernel_rfl) (by kernel_rfl) (by kernel_rfl) (Tryd.doorMet os _)) ?_
  intro W base args ds gs before hval0 hW _ _ hL _
  have hval : ∀ (j : Nat) t v, Tryd.f6.params[j]? = some t → args[j]? = some v → Value.okWide Tryd.prog W .any base t v := hval0
  have hW' := hW
  obtain ⟨p, q, hA0, hV, hpq, _, _⟩ := hW
  have hA : DataW.TrodAll enc Tryd.prog W 0 (fun _ => true) true Tryd.f6.params.toList args.toList ds p := hA0
  rw [Tryd.params6] at hA hval
  obtain ⟨v0, v1, v2, d0, d1, d2, p0, p1, p2, rfl, rfl, rfl, h0, h1, h2⟩ := trodAll_three hA
  obtain ⟨rfl, rfl⟩ := trodVars_none hV
  have hT := tabHolds hL
  obtain ⟨x0, rfl⟩ := open_u8D Tryd.underlying5 (hval 0 5 v0 rfl rfl) h0
  obtain ⟨_, x1, rfl, hr1, hg1⟩ := open_arrD Tryd.underlying52 rd52 (hval 1 52 v1 rfl rfl) h1
  obtain ⟨A48, n48, c48, s48, A49, n49, c49, s49, rfl, hF48, hF49⟩ := hr1
  obtain ⟨Az2, nz2, cz2, sz2, x2, rfl, hz2, hg2⟩ := open_slD Tryd.underlying61 rd61 (hval 2 61 v2 rfl rfl) h2
  refine Calls.mono ((RetP.toV (y := true) (F := fun z => .bool z) (law47_ReverseSettles_lift hT x0 x1 x2 hF48 hF49 hz2 (reverseSettles_law x0 x1 x2 hg1 hg2))) W fun b o e => e) ?_
  rintro e W' ⟨v, _, rfl, _, _, _, hb, rfl⟩
  exact ⟨_, rfl, post_law Tryd.laidOut Tryd.underlying4 rfl (by kernel_rfl) hW' rfl rfl hb⟩
theorem reverseSettles_holds : Rows.ReverseSettlesSaid :=
  OpenClaim.holds_of_wide 6 Tryd.f6 rfl rfl rfl rfl rfl rfl rfl ⟨rfl, rfl, rfl, rfl, rfl⟩ rfl rfl rfl rfl rfl (by kernel_rfl) Tryd.func6 (by kernel_rfl)
    (of_decide_eq_true (by kernel_rfl)) (by unfold Func.isWrapper; first | (rw [if_pos (by decide +kernel)]; kernel_rfl) | (rw [if_neg (by decide +kernel)]; exact ⟨rfl, rfl⟩))
    (fun os started H enc _ => reverseSettles_lifted os started H enc)
theorem reverseSettles_card : Rows.ReverseSettlesCardSaid :=
  Claim7.holds_tied_plain_at .later [] [.data] true (true, "0fbea9f7a9363770ef7d7c442e923654834488058ca280ed95a31cbd94370fd7") false
    reverseSettles_holds (fun _ h => by cases h) (by kernel_rfl) (fun _ h => by cases h) reverseSettles_row_tie rfl ⟨rfl, rfl⟩ (by kernel_rfl) rfl
    (fun f fn hf hfn => by
      obtain rfl : f = 6 := Option.some.inj ((show Tryd.prog.funcNamed "standby/standbylaw47.ReverseSettles" = some 6 by kernel_rfl).symm.trans hf) |>.symm
      obtain rfl : fn = Tryd.f6 := (Option.some.inj (Tryd.func6.symm.trans hfn)).symm
      exact ⟨by kernel_rfl, fun j t ht => by
        rw [Tryd.params6] at ht
        have hm : t ∈ [5, 52, 61] := by
          have := Array.mem_of_getElem? ht
          simpa using this
        have hall : ([5, 52, 61].all fun u => !Tryd.prog.wantsStandIn u) = true := by kernel_rfl
        exact (show Tryd.prog.wantsStandIn t = false by simpa using List.all_eq_true.1 hall t hm)⟩)
    (by kernel_rfl)
end Go.Proofs.YtahlanamngfkcaaDoor
