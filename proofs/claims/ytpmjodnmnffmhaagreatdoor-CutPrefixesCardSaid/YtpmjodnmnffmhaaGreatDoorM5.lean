/- Proved: the tied card of the statement CutPrefixes: for every argument that can be read the law returns true and leaves its arguments as they were. Conditions: the row's own alone. -/
import Derived.Lib.TrailingZeros
import Derived.Test.YtpmjodnmnffmhaaGreatDoorM4
namespace Go.Proofs.YtpmjodnmnffmhaaGreatDoor
open Go.RowKit
def sizesE (l : List Int) : Int := if (l.length : Int) < 1 ∨ 8 < (l.length : Int) then 6 else firstN (fun k => if ix l (k : Int) < 1 ∨ 4096 < ix l (k : Int) then 2 else 0) l.length
def szs (im : List (List Sec)) : List Int := im.map fun v => (v.length : Int)
def imgE (im : List (List Sec)) : Int := sizesE (szs im)
theorem szs_len (im : List (List Sec)) : (szs im).length = im.length := by unfold szs; rw [List.length_map]
theorem ix_szs {im : List (List Sec)} {k : Nat} (h : k < im.length) : ix (szs im) (k : Int) = ((ix im (k : Int)).length : Int) := by
  rw [ix_get (by rw [szs_len]; exact h), ix_get h]; unfold szs; rw [List.getElem_map]
theorem sizesE_len {l : List Int} (h : sizesE l = 0) : 1 ≤ l.length ∧ l.length ≤ 8 := by
  unfold sizesE at h
  by_cases hl : (l.length : Int) < 1 ∨ 8 < (l.length : Int)
  · rw [if_pos hl] at h; cases h
  · omega
theorem sizesE_ix {l : List Int} (h : sizesE l = 0) {k : Nat} (hk : k < l.length) : 1 ≤ ix l (k : Int) ∧ ix l (k : Int) ≤ 4096 := by
  unfold sizesE at h
  by_cases hl : (l.length : Int) < 1 ∨ 8 < (l.length : Int)
  · rw [if_pos hl] at h; cases h
  · rw [if_neg hl] at h
    have := firstN_zero.1 h k hk
    by_cases q : ix l (k : Int) < 1 ∨ 4096 < ix l (k : Int)
    · rw [if_pos q] at this; cases this
    · omega
theorem image_checkSizes_ok {l : List Int} {Φ : Int → Prop} (hΦ : Φ (sizesE l)) : image_checkSizes_W l Φ := by
  unfold sizesE at hΦ
  by_cases h : (l.length : Int) < 1 ∨ 8 < (l.length : Int)
  · rw [if_pos h] at hΦ
    exact ⟨fun _ => hΦ, fun _ => ⟨fun _ => hΦ, fun _ => by omega⟩⟩
  · rw [if_neg h] at hΦ
    refine ⟨fun _ => by omega, fun _ => ⟨fun _ => by omega, fun _ => ?_⟩⟩
    refine LoopW.errI l.length (fun k => (k : Int)) _ rfl hΦ (fun k rec hk _ h1 h2 => ?_) fun rec _ h0 => ⟨fun _ => by omega, fun _ => ⟨fun _ => by omega, fun _ => h0⟩⟩
    have go : ∀ q : ix l (k : Int) < 1 ∨ 4096 < ix l (k : Int), Φ 2 := fun q => by
      have := h1 (by rw [if_pos q]; omega)
      rw [if_pos q] at this; exact this
    refine ⟨fun _ => ⟨iX (by omega) (by omega), fun q => ⟨fun _ => ⟨fun _ => go (.inl q), fun _ => by omega⟩, fun r => absurd rfl r⟩, fun q => ⟨fun r => ⟨fun _ => go (.inr (of_decide_eq_true r)), fun _ => by omega⟩, fun r => ⟨iI (by omega) (by omega), h2 (if_neg (by have := of_decide_eq_false (Bool.eq_false_iff.2 r); omega)) _ rfl⟩⟩⟩, fun _ => by omega⟩
theorem image_sizes_ok {im : List (List Sec)} {Φ : List Int → Prop} (hl : im.length ≤ 100000) (hΦ : Φ (szs im)) : image_sizes_W im Φ := by
  refine ⟨by omega, iL (by omega) (by omega), ?_⟩
  refine LoopW.upT im.length (fun k => ((k : Int), (im.take k).map fun v => (v.length : Int))) rfl (fun k rec hk hr => ?_) fun rec => ⟨fun _ => by omega, fun _ => by rw [take_all]; exact hΦ⟩
  refine ⟨fun _ => ⟨iX (by omega) (by omega), iL (by rw [len_snoc, List.length_map, lenT (by omega)]; omega) (by omega), iI (by omega) (by omega), hr _ (by rw [map_take_snoc _ hk]; rfl)⟩, fun _ => by omega⟩
theorem image_Check_ok {im : List (List Sec)} {Φ : Int → Prop} (hl : im.length ≤ 100000) (hΦ : Φ (imgE im)) : image_Check_W im Φ := image_sizes_ok hl (image_checkSizes_ok hΦ)
def zeroI (l : List Int) : List (List Sec) := l.map fun n => List.replicate n.toNat sec0
theorem zeroI_len (l : List Int) : (zeroI l).length = l.length := by unfold zeroI; rw [List.length_map]
theorem ix_zeroI {l : List Int} {k : Nat} (h : k < l.length) : ix (zeroI l) (k : Int) = List.replicate (ix l (k : Int)).toNat sec0 := by
  rw [ix_get (by rw [zeroI_len]; exact h), ix_get h]; unfold zeroI; rw [List.getElem_map]
theorem szs_zeroI {l : List Int} (h : sizesE l = 0) : szs (zeroI l) = l := by
  refine ext_ix (by rw [szs_len, zeroI_len]) fun k hk => ?_
  rw [szs_len, zeroI_len] at hk
  have := sizesE_ix h hk
  rw [ix_szs (by rw [zeroI_len]; exact hk), ix_zeroI hk, List.length_replicate]; omega
theorem image_New_ok {l : List Int} {Φ : List (List Sec) × Int → Prop} (h0 : sizesE l = 0 → Φ (zeroI l, 0)) (h1 : sizesE l ≠ 0 → Φ ([], sizesE l)) : image_New_W l Φ := by
  refine image_checkSizes_ok ⟨fun q => h1 q, fun q => ?_⟩
  have q : sizesE l = 0 := Classical.not_not.1 q
  have hl := sizesE_len q
  refine ⟨by omega, iL (by omega) (by omega), ?_⟩
  refine LoopW.upT l.length (fun k => ((k : Int), (l.take k).map fun n => List.replicate n.toNat sec0)) rfl (fun k rec hk hr => ?_) fun rec => ⟨fun _ => by omega, fun _ => by rw [take_all]; exact h0 q⟩
  have := sizesE_ix q hk
  refine ⟨fun _ => ⟨iX (by omega) (by omega), by omega, iL (by omega) (by omega), iL (by rw [len_snoc, List.length_map, lenT (by omega)]; omega) (by omega), iI (by omega) (by omega), hr _ (by rw [map_take_snoc _ hk]; rfl)⟩, fun _ => by omega⟩
def fitW (l : List Int) (w : api_Write) : Int := if w.Volume < 0 ∨ (l.length : Int) ≤ w.Volume then 7 else if (w.Data.length : Int) = 0 then 1 else if w.Start < 0 ∨ ix l w.Volume - w.Start < (w.Data.length : Int) then 2 else 0
theorem image_fits_ok {im : List (List Sec)} {w : api_Write} {Φ : Int → Prop} (hd : w.Data.length ≤ 1000000) (hv : ∀ k : Nat, k < im.length → (ix im (k : Int)).length ≤ 1000000) (hΦ : Φ (fitW (szs im) w)) : image_fits_W im w Φ := by
  unfold fitW at hΦ
  rw [szs_len] at hΦ
  show (_ → image_fits_J1 _ _ _ _) ∧ _
  have tail : ¬ (w.Volume < 0 ∨ (im.length : Int) ≤ w.Volume) → image_fits_J1 im w Φ false := fun q => by
    rw [if_neg q] at hΦ
    refine ⟨fun r => (Bool.noConfusion r), fun _ => ⟨fun r => by rw [if_pos (by omega)] at hΦ; exact hΦ, fun r => ?_⟩⟩
    rw [if_neg (by omega)] at hΦ
    obtain ⟨v, hw⟩ := Int.eq_ofNat_of_zero_le (show 0 ≤ w.Volume by omega)
    have hvl : v < im.length := by omega
    rw [hw, ix_szs hvl] at hΦ
    have := hv v hvl
    refine ⟨fun s => by rw [if_pos (.inl s)] at hΦ; exact hΦ, fun s => ⟨iX (by omega) (by omega), ?_⟩⟩
    rw [hw]
    exact ⟨iI (by omega) (by omega), fun t => by rw [if_pos (by omega)] at hΦ; exact hΦ, fun t => by rw [if_neg (by omega)] at hΦ; exact hΦ⟩
  refine ⟨fun q => ⟨fun _ => by rw [if_pos (.inl q)] at hΦ; exact hΦ, fun r => absurd rfl r⟩, fun q => ?_⟩
  by_cases r : (im.length : Int) ≤ w.Volume
  · rw [decide_eq_true r]
    exact ⟨fun _ => by rw [if_pos (.inr r)] at hΦ; exact hΦ, fun r => absurd rfl r⟩
  · rw [decide_eq_false r]; exact tail (by omega)
theorem szs_small {im : List (List Sec)} (h : imgE im = 0) (k : Nat) (hk : k < im.length) : (ix im (k : Int)).length ≤ 4096 := by
  have := sizesE_ix h (k := k) (by rw [szs_len]; exact hk)
  rw [ix_szs hk] at this; omega
theorem image_Fits_ok {im : List (List Sec)} {w : api_Write} {Φ : Int → Prop} (hd : w.Data.length ≤ 1000000) (h : imgE im = 0) (hΦ : Φ (fitW (szs im) w)) : image_Fits_W im w Φ := by
  have hl := sizesE_len h
  rw [szs_len] at hl
  exact image_Check_ok (by omega) ⟨fun q => absurd h q, fun _ => image_fits_ok hd (fun k hk => Nat.le_trans (szs_small h k hk) (by omega)) hΦ⟩
theorem ix_put {α : Type} [Dt α] (xs : List α) {i j : Nat} (x : α) (hi : i < xs.length) : ix (put xs (i : Int) x) (j : Int) = if j = i then x else ix xs (j : Int) := by
  show (xs.set i x).getD j default = if j = i then x else xs.getD j default
  rw [List.getD_eq_getElem?_getD, List.getD_eq_getElem?_getD]
  by_cases h : j = i
  · subst h; rw [List.getElem?_set_self hi, if_pos rfl]; rfl
  · rw [List.getElem?_set_ne (by omega), if_neg h]
def sec (im : List (List Sec)) (v i : Nat) : Sec := ix (ix im (v : Int)) (i : Int)
def idxN (p : Nat → Bool) (n : Nat) : Int := match (List.range n).find? p with
  | some k => (k : Int)
  | none => -1
theorem idxN_hit {p : Nat → Bool} {n k : Nat} (hk : k < n) (h0 : ∀ j, j < k → p j = false) (h1 : p k = true) : idxN p n = (k : Int) := by
  unfold idxN
  have : (List.range n).find? p = some k := by
    rw [List.find?_range_eq_some]
    exact ⟨h1, List.mem_range.2 hk, fun j hj => by rw [h0 j hj]; rfl⟩
  rw [this]
theorem idxN_none {p : Nat → Bool} {n : Nat} (h0 : ∀ j, j < n → p j = false) : idxN p n = -1 := by
  unfold idxN
  have : (List.range n).find? p = none := by
    rw [List.find?_eq_none]
    intro j hj
    rw [h0 j (List.mem_range.1 hj)]; simp
  rw [this]
theorem idxN_nonneg {p : Nat → Bool} {n : Nat} : 0 ≤ idxN p n ↔ ∃ k, k < n ∧ p k = true := by
  unfold idxN
  cases h : (List.range n).find? p with
  | some k => exact ⟨fun _ => ⟨k, List.mem_range.1 (List.mem_of_find?_eq_some h), List.find?_some h⟩, fun _ => by simp⟩
  | none =>
    rw [List.find?_eq_none] at h
    exact ⟨fun q => absurd q (by simp), fun ⟨k, hk, hp⟩ => absurd hp (h k (List.mem_range.2 hk))⟩
theorem idxN_cases (p : Nat → Bool) (n : Nat) : (idxN p n = -1 ∧ ∀ k, k < n → p k = false) ∨ ∃ k, k < n ∧ idxN p n = (k : Int) ∧ p k = true ∧ ∀ j, j < k → p j = false := by
  unfold idxN
  cases h : (List.range n).find? p with
  | none => exact .inl ⟨rfl, fun k hk => by rw [List.find?_eq_none] at h; have := h k (List.mem_range.2 hk); simpa using this⟩
  | some k =>
    rw [List.find?_range_eq_some] at h
    exact .inr ⟨k, List.mem_range.1 h.2.1, rfl, h.1, fun j hj => by have := h.2.2 j hj; simpa using this⟩
theorem idxN_succ (p : Nat → Bool) (n : Nat) : idxN p (n + 1) = if 0 ≤ idxN p n then idxN p n else if p n = true then (n : Int) else -1 := by
  rcases idxN_cases p n with ⟨h, h0⟩ | ⟨k, hk, h, h1, h0⟩
  · rw [h, if_neg (by omega)]
    by_cases hp : p n = true
    · rw [if_pos hp]; exact idxN_hit (Nat.lt_succ_self n) h0 hp
    · rw [if_neg hp]
      refine idxN_none fun j hj => ?_
      rcases Nat.lt_or_ge j n with h2 | h2
      · exact h0 j h2
      · obtain rfl : j = n := by omega
        simpa using hp
  · rw [h, if_pos (by omega)]; exact idxN_hit (by omega) h0 h1
theorem idxN_lt (p : Nat → Bool) (n : Nat) : -1 ≤ idxN p n ∧ idxN p n < (n : Int) ∨ n = 0 ∧ idxN p n = -1 := by
  rcases idxN_cases p n with ⟨h, _⟩ | ⟨k, hk, h, _⟩
  · rw [h]
    rcases Nat.eq_zero_or_pos n with h0 | h0
    · exact .inr ⟨h0, rfl⟩
    · exact .inl ⟨by omega, by omega⟩
  · rw [h]; exact .inl ⟨by omega, by omega⟩
def atN (l : List api_HistoryEvent) (n : Nat) (e : api_HistoryEvent) : Int := idxN (fun k => decide (ix l (k : Int) = e)) n
theorem atN_succ (l : List api_HistoryEvent) (n : Nat) (e : api_HistoryEvent) : atN l (n + 1) e = if 0 ≤ atN l n e then atN l n e else if ix l (n : Int) = e then (n : Int) else -1 := by
  unfold atN; rw [idxN_succ]; simp
theorem atN_keep {l : List api_HistoryEvent} {n : Nat} {e : api_HistoryEvent} (h : ix l (n : Int) ≠ e) : atN l (n + 1) e = atN l n e := by
  rw [atN_succ, if_neg h]
  rcases idxN_cases (fun k => decide (ix l (k : Int) = e)) n with ⟨q, _⟩ | ⟨k, _, q, _⟩
  · have q : atN l n e = -1 := q
    rw [q, if_neg (by omega)]
  · have q : atN l n e = (k : Int) := q
    rw [q, if_pos (by omega)]
theorem atN_here {l : List api_HistoryEvent} {n : Nat} (h : atN l n (ix l (n : Int)) < 0) : atN l (n + 1) (ix l (n : Int)) = (n : Int) := by rw [atN_succ, if_neg (by omega), if_pos rfl]
theorem atN_old {l : List api_HistoryEvent} {n : Nat} {e : api_HistoryEvent} (h : 0 ≤ atN l n e) : atN l (n + 1) e = atN l n e := by rw [atN_succ, if_pos h]
theorem atN_nn {l : List api_HistoryEvent} {n : Nat} {e : api_HistoryEvent} : 0 ≤ atN l (n + 1) e ↔ 0 ≤ atN l n e ∨ ix l (n : Int) = e := by
  rw [atN_succ]
  by_cases h : 0 ≤ atN l n e
  · rw [if_pos h]; exact ⟨fun q => .inl q, fun _ => h⟩
  · rw [if_neg h]
    by_cases q : ix l (n : Int) = e
    · rw [if_pos q]; exact ⟨fun _ => .inr q, fun _ => by omega⟩
    · rw [if_neg q]; exact ⟨fun r => by omega, fun r => (r.elim (fun r => absurd r h) fun r => absurd r q)⟩
theorem atN_lt (l : List api_HistoryEvent) (n : Nat) (e : api_HistoryEvent) : -1 ≤ atN l n e ∧ atN l n e < (n : Int) ∨ atN l n e = -1 := by
  rcases idxN_lt (fun k => decide (ix l (k : Int) = e)) n with h | h
  · exact .inl h
  · exact .inr h.2
theorem atN_neg {l : List api_HistoryEvent} {n : Nat} {e : api_HistoryEvent} (h : ¬ 0 ≤ atN l n e) : atN l n e = -1 := by
  rcases atN_lt l n e with q | q <;> omega
def cntI (l : List api_HistoryEvent) : Nat → Nat
  | 0 => 0
  | k + 1 => cntI l k + if (ix l (k : Int)).Kind = 0 then 1 else 0
theorem cntI_le (l : List api_HistoryEvent) : ∀ k, cntI l k ≤ k
  | 0 => Nat.le_refl _
  | k + 1 => by have := cntI_le l k; unfold cntI; split <;> omega
def evErr (l : List api_HistoryEvent) (n : Nat) (k : Nat) : Int :=
  if (ix l (k : Int)).Kind = 0 then (if (ix l (k : Int)).Write ≠ (cntI l k : Int) ∨ n ≤ cntI l k then 3 else 0)
  else if (ix l (k : Int)).Kind ≠ 1 then 3 else if (ix l (k : Int)).Write < 0 ∨ (cntI l k : Int) ≤ (ix l (k : Int)).Write then 7 else if 0 ≤ atN l k (ix l (k : Int)) then 8 else 0
theorem evErr_issue {l : List api_HistoryEvent} {n k : Nat} (h : evErr l n k = 0) (hk : (ix l (k : Int)).Kind = 0) : ix l (k : Int) = ⟨0, (cntI l k : Int)⟩ ∧ cntI l k < n := by
  unfold evErr at h
  rw [if_pos hk] at h
  by_cases q : (ix l (k : Int)).Write ≠ (cntI l k : Int) ∨ n ≤ cntI l k
  · rw [if_pos q] at h; cases h
  · refine ⟨?_, by omega⟩
    cases hx : ix l (k : Int) with
    | mk a b => rw [hx] at hk q; simp only at hk q; rw [hk, show b = (cntI l k : Int) by omega]
theorem evErr_ack {l : List api_HistoryEvent} {n k : Nat} (h : evErr l n k = 0) (hk : ¬ (ix l (k : Int)).Kind = 0) : ix l (k : Int) = ⟨1, (ix l (k : Int)).Write⟩ ∧ 0 ≤ (ix l (k : Int)).Write ∧ (ix l (k : Int)).Write < (cntI l k : Int) ∧ atN l k (ix l (k : Int)) = -1 := by
  unfold evErr at h
  rw [if_neg hk] at h
  by_cases q : (ix l (k : Int)).Kind ≠ 1
  · rw [if_pos q] at h; cases h
  rw [if_neg q] at h
  by_cases r : (ix l (k : Int)).Write < 0 ∨ (cntI l k : Int) ≤ (ix l (k : Int)).Write
  · rw [if_pos r] at h; cases h
  rw [if_neg r] at h
  by_cases s : 0 ≤ atN l k (ix l (k : Int))
  · rw [if_pos s] at h; cases h
  refine ⟨?_, by omega, by omega, atN_neg s⟩
  cases hx : ix l (k : Int) with
  | mk a b => rw [hx] at q; simp only at q; rw [Classical.not_not.1 q]
theorem cnt_issue {l : List api_HistoryEvent} {k : Nat} (h : (ix l (k : Int)).Kind = 0) : cntI l (k + 1) = cntI l k + 1 := by rw [cntI, if_pos h]
theorem cnt_ack {l : List api_HistoryEvent} {k : Nat} (h : ¬ (ix l (k : Int)).Kind = 0) : cntI l (k + 1) = cntI l k := by rw [cntI, if_neg h]; rfl
theorem at_issue {l : List api_HistoryEvent} {n : Nat} : ∀ {k : Nat}, (∀ j, j < k → evErr l n j = 0) → ∀ w : Int, 0 ≤ atN l k ⟨0, w⟩ ↔ 0 ≤ w ∧ w < (cntI l k : Int)
  | 0, _, w => ⟨fun h => absurd (show (0 : Int) ≤ -1 from h) (by decide), fun h => by unfold cntI at h; omega⟩
  | k + 1, hz, w => by
    rw [atN_nn, at_issue (fun j hj => hz j (by omega)) w]
    by_cases hk : (ix l (k : Int)).Kind = 0
    · have := (evErr_issue (hz k (Nat.lt_succ_self k)) hk).1
      rw [this, cnt_issue hk, api_HistoryEvent.mk.injEq]; omega
    · rw [cnt_ack hk]
      refine ⟨fun h => h.elim id fun q => absurd (by rw [q]) hk, .inl⟩
theorem at_ack {l : List api_HistoryEvent} {n : Nat} : ∀ {k : Nat}, (∀ j, j < k → evErr l n j = 0) → ∀ w : Int, 0 ≤ atN l k ⟨1, w⟩ → 0 ≤ w ∧ w < (cntI l k : Int)
  | 0, _, w => fun h => absurd (show (0 : Int) ≤ -1 from h) (by decide)
  | k + 1, hz, w => by
    rw [atN_nn]
    have ih := at_ack (k := k) (fun j hj => hz j (by omega)) w
    by_cases hk : (ix l (k : Int)).Kind = 0
    · rw [cnt_issue hk]
      rintro (h | h)
      · have := ih h; omega
      · rw [h] at hk; cases hk
    · rw [cnt_ack hk]
      rintro (h | h)
      · exact ih h
      · have := evErr_ack (hz k (Nat.lt_succ_self k)) hk
        rw [h] at this; exact ⟨this.2.1, this.2.2.1⟩
theorem cnt_le {l : List api_HistoryEvent} {n : Nat} : ∀ {k : Nat}, (∀ j, j < k → evErr l n j = 0) → cntI l k ≤ n
  | 0, _ => Nat.zero_le _
  | k + 1, hz => by
    by_cases hk : (ix l (k : Int)).Kind = 0
    · have := (evErr_issue (hz k (Nat.lt_succ_self k)) hk).2
      rw [cnt_issue hk]; omega
    · rw [cnt_ack hk]; exact cnt_le fun j hj => hz j (by omega)
def issL (l : List api_HistoryEvent) (k : Nat) : List Int := (List.range (cntI l k)).map fun w : Nat => atN l k ⟨0, (w : Int)⟩
def ackL (l : List api_HistoryEvent) (k : Nat) : List Int := (List.range (cntI l k)).map fun w : Nat => atN l k ⟨1, (w : Int)⟩
theorem issL_len (l : List api_HistoryEvent) (k : Nat) : (issL l k).length = cntI l k := by unfold issL; rw [List.length_map, List.length_range]
theorem ackL_len (l : List api_HistoryEvent) (k : Nat) : (ackL l k).length = cntI l k := by unfold ackL; rw [List.length_map, List.length_range]
theorem ix_ackL {l : List api_HistoryEvent} {k w : Nat} (h : w < cntI l k) : ix (ackL l k) (w : Int) = atN l k ⟨1, (w : Int)⟩ := by
  rw [ix_get (by rw [ackL_len]; exact h)]; unfold ackL; rw [List.getElem_map, List.getElem_range]
theorem issL_issue {l : List api_HistoryEvent} {n k : Nat} (hz : ∀ j, j < k + 1 → evErr l n j = 0) (hk : (ix l (k : Int)).Kind = 0) : issL l (k + 1) = issL l k ++ [(k : Int)] := by
  have h0 : ∀ j, j < k → evErr l n j = 0 := fun j hj => hz j (by omega)
  have hx := (evErr_issue (hz k (Nat.lt_succ_self k)) hk).1
  unfold issL
  rw [cnt_issue hk, List.range_succ, List.map_append]
  congr 1
  · refine List.map_congr_left fun w hw => atN_old ((at_issue h0 _).2 ⟨by omega, by have := List.mem_range.1 hw; omega⟩)
  · simp only [List.map_cons, List.map_nil]
    rw [← hx, atN_here (by rw [hx]; have := mt (at_issue h0 (cntI l k : Int)).1 (by omega); omega)]
theorem ackL_issue {l : List api_HistoryEvent} {n k : Nat} (hz : ∀ j, j < k + 1 → evErr l n j = 0) (hk : (ix l (k : Int)).Kind = 0) : ackL l (k + 1) = ackL l k ++ [-1] := by
  have h0 : ∀ j, j < k → evErr l n j = 0 := fun j hj => hz j (by omega)
  have hx := (evErr_issue (hz k (Nat.lt_succ_self k)) hk).1
  have hne : ∀ w : Int, ix l (k : Int) ≠ ⟨1, w⟩ := fun w q => by rw [q] at hk; cases hk
  unfold ackL
  rw [cnt_issue hk, List.range_succ, List.map_append]
  congr 1
  · exact List.map_congr_left fun w _ => atN_keep (hne _)
  · simp only [List.map_cons, List.map_nil]
    rw [atN_keep (hne _), atN_neg (fun q => by have := at_ack h0 _ q; omega)]
theorem issL_ack {l : List api_HistoryEvent} {k : Nat} (hk : ¬ (ix l (k : Int)).Kind = 0) : issL l (k + 1) = issL l k := by
  unfold issL
  rw [cnt_ack hk]
  exact List.map_congr_left fun w _ => atN_keep fun q => hk (by rw [q])
theorem ackL_ack {l : List api_HistoryEvent} {n k : Nat} (hz : ∀ j, j < k + 1 → evErr l n j = 0) (hk : ¬ (ix l (k : Int)).Kind = 0) : ackL l (k + 1) = put (ackL l k) (ix l (k : Int)).Write (k : Int) := by
  obtain ⟨hx, h1, h2, h3⟩ := evErr_ack (hz k (Nat.lt_succ_self k)) hk
  obtain ⟨w, hw⟩ := Int.eq_ofNat_of_zero_le h1
  rw [hw] at hx h2 ⊢
  refine ext_ix (by rw [put_len, ackL_len, ackL_len, cnt_ack hk]) fun j hj => ?_
  rw [ackL_len, cnt_ack hk] at hj
  rw [ix_put _ _ (by rw [ackL_len]; omega), ix_ackL (by rw [cnt_ack hk]; exact hj), ix_ackL hj]
  by_cases hjw : j = w
  · rw [if_pos hjw, hjw, ← hx, atN_here (by rw [h3]; omega)]
  · rw [if_neg hjw, atN_keep (by rw [hx]; intro q; rw [api_HistoryEvent.mk.injEq] at q; omega)]
def evE (h : api_History) : Int := if firstN (evErr h.Events h.Writes.length) h.Events.length ≠ 0 then firstN (evErr h.Events h.Writes.length) h.Events.length else if cntI h.Events h.Events.length < h.Writes.length then 3 else 0
def histE (h : api_History) : Int := if sizesE h.Sizes ≠ 0 then sizesE h.Sizes else if 4096 < (h.Writes.length : Int) then 6 else if firstN (fun k => fitW h.Sizes (ix h.Writes (k : Int))) h.Writes.length ≠ 0 then firstN (fun k => fitW h.Sizes (ix h.Writes (k : Int))) h.Writes.length else evE h
def tlH (h : api_History) : history_timeline := ⟨issL h.Events h.Events.length, ackL h.Events h.Events.length⟩
def noH : history_checked := ⟨⟨[], [], []⟩, ⟨[], []⟩⟩
structure SmallH (h : api_History) : Prop where
  ev : h.Events.length ≤ 100000
  wr : h.Writes.length ≤ 100000
  data : ∀ k : Nat, k < h.Writes.length → (ix h.Writes (k : Int)).Data.length ≤ 100000
theorem history_check_ok {h : api_History} {Φ : history_checked × Int → Prop} (hh : SmallH h) (k0 : histE h = 0 → Φ (⟨h, tlH h⟩, 0)) (k1 : histE h ≠ 0 → Φ (noH, histE h)) : history_check_W h Φ := by
  unfold histE at k0 k1
  refine image_New_ok (fun hs => ⟨fun q => absurd rfl q, fun _ => ?_⟩) fun hs => ⟨fun _ => ?_, fun q => absurd hs q⟩
  · rw [if_neg (by omega)] at k0 k1
    refine ⟨fun q => ?_, fun q => ?_⟩
    · rw [if_pos q] at k1; exact k1 (by omega)
    rw [if_neg q] at k0 k1
    have hi : imgE (zeroI h.Sizes) = 0 := by unfold imgE; rw [szs_zeroI hs, hs]
    refine LoopW.errI (Ψ := fun e => (e = 0 → LoopW (history_check_L2 h Φ) (0, [], [])) ∧ (e ≠ 0 → Φ (noH, e))) h.Writes.length (fun k => (k : Int)) (fun k => fitW h.Sizes (ix h.Writes (k : Int))) rfl ⟨fun hf => ?_, fun hf => ?_⟩
      (fun k rec hk _ h1 h2 => ⟨fun _ => ⟨iX (by omega) (by omega), image_Fits_ok (by have := hh.data k hk; omega) hi ?_⟩, fun _ => by omega⟩) fun rec _ h0 => ⟨fun _ => by omega, fun _ => h0.1 rfl⟩
    · rw [if_neg (by omega)] at k0 k1
      unfold evE at k0 k1
      refine LoopW.errI (Ψ := fun e => (e = 0 → (cntI h.Events h.Events.length < h.Writes.length → Φ (noH, 3)) ∧ (¬ cntI h.Events h.Events.length < h.Writes.length → Φ (⟨h, tlH h⟩, 0))) ∧ (e ≠ 0 → Φ (noH, e))) h.Events.length (fun k => ((k : Int), issL h.Events k, ackL h.Events k))
        (evErr h.Events h.Writes.length) rfl ⟨fun hf => ⟨fun hc => ?_, fun hc => ?_⟩, fun hf => ?_⟩ (fun k rec hk h0 h1 h2 => ⟨fun _ => ⟨iX (by omega) (by omega), ?_⟩, fun _ => by omega⟩) fun rec _ h0 => ⟨fun _ => by omega, fun _ => ⟨fun q => ?_, fun q => ?_⟩⟩
      · rw [if_neg (by omega), if_pos hc] at k1; exact k1 (by omega)
      · rw [if_neg (by omega), if_neg hc] at k0; exact k0 rfl
      · rw [if_pos hf] at k1; exact k1 hf
      · have hev := hh.ev
        have hcl := cntI_le h.Events k
        have fail : ∀ e : Int, e ≠ 0 → evErr h.Events h.Writes.length k = e → history_check_J3 (k : Int) rec Φ (e, issL h.Events k, ackL h.Events k) := fun e he hq => ⟨fun _ => (by have := (h1 (by rw [hq]; exact he)).2 (by rw [hq]; exact he); rw [hq] at this; exact this), fun q => absurd he q⟩
        have good : evErr h.Events h.Writes.length k = 0 → history_check_J3 (k : Int) rec Φ (0, issL h.Events (k + 1), ackL h.Events (k + 1)) := fun hq => ⟨fun q => absurd rfl q, fun _ => ⟨iI (by omega) (by omega), h2 hq _ rfl⟩⟩
        have hz : evErr h.Events h.Writes.length k = 0 → ∀ j, j < k + 1 → evErr h.Events h.Writes.length j = 0 := fun hq j hj => by
          rcases Nat.lt_or_ge j k with h3 | h3
          · exact h0 j h3
          · obtain rfl : j = k := by omega
            exact hq
        show (_ → _) ∧ _
        refine ⟨fun hk0 => ⟨fun q => ?_, fun q => ⟨fun r => ?_, fun r => ?_⟩⟩, fun hk0 => ⟨fun hk1 => ⟨fun q => ?_, fun q => ⟨fun r => ?_, fun r => ?_⟩⟩, fun hk1 => ?_⟩⟩
        · rw [issL_len] at q
          exact fail 3 (by omega) (by unfold evErr; rw [if_pos hk0, if_pos (.inl q)])
        · rw [issL_len] at q
          exact fail 3 (by omega) (by unfold evErr; rw [if_pos hk0, if_pos (by omega)])
        · rw [issL_len] at q
          have e0 : evErr h.Events h.Writes.length k = 0 := by unfold evErr; rw [if_pos hk0, if_neg (by omega)]
          refine ⟨iL (by rw [len_snoc, issL_len]; omega) (by omega), iL (by rw [len_snoc, ackL_len]; omega) (by omega), ?_⟩
          have := good e0
          rw [issL_issue (hz e0) hk0, ackL_issue (hz e0) hk0] at this; exact this
        · exact fail 7 (by omega) (by unfold evErr; rw [if_neg hk0, if_neg (by omega), if_pos (.inl q)])
        · rw [issL_len] at r
          exact fail 7 (by omega) (by unfold evErr; rw [if_neg hk0, if_neg (by omega), if_pos (.inr r)])
        · rw [issL_len] at r
          obtain ⟨w, hw⟩ := Int.eq_ofNat_of_zero_le (show 0 ≤ (ix h.Events (k : Int)).Write by omega)
          have hwl : w < cntI h.Events k := by omega
          have ha : ix (ackL h.Events k) (ix h.Events (k : Int)).Write = atN h.Events k (ix h.Events (k : Int)) := by
            rw [hw, ix_ackL hwl]
            congr 1
            cases hx : ix h.Events (k : Int) with
            | mk a b => rw [hx] at hw hk1; simp only at hw hk1; rw [hw, hk1]
          have hX : inX (ix h.Events (k : Int)).Write (ackL h.Events k).length := iX (by omega) (by rw [ackL_len]; omega)
          refine ⟨hX, fun s => ?_, fun s => ⟨hX, ?_⟩⟩
          · rw [ha] at s
            exact fail 8 (by omega) (by unfold evErr; rw [if_neg hk0, if_neg (by omega), if_neg (by omega), if_pos s])
          · rw [ha] at s
            have e0 : evErr h.Events h.Writes.length k = 0 := by unfold evErr; rw [if_neg hk0, if_neg (by omega), if_neg (by omega), if_neg s]
            have := good e0
            rw [issL_ack hk0, ackL_ack (hz e0) hk0] at this; exact this
        · exact fail 3 (by omega) (by unfold evErr; rw [if_neg hk0, if_pos hk1])
      · rw [issL_len] at q; exact (h0.1 rfl).1 (by omega)
      · rw [issL_len] at q; exact (h0.1 rfl).2 (by omega)
    · rw [if_pos hf] at k1; exact k1 hf
    · rw [szs_zeroI hs]
      exact ⟨fun q => (h1 q).2 q, fun q => ⟨iI (by have := hh.wr; omega) (by have := hh.wr; omega), h2 (Classical.not_not.1 q) _ rfl⟩⟩
  · rw [if_pos hs] at k1; exact k1 hs
theorem LoopW.lst {α S : Type} {step : (List α × S) → ((List α × S) → Prop) → Prop} (L : List α) (acc : Nat → S) {s0 : S} (hs : s0 = acc 0)
    (h : ∀ (k : Nat) (hk : k < L.length) rec, (∀ s, s = acc (k + 1) → rec (L.drop (k + 1), s)) → step (L[k] :: L.drop (k + 1), acc k) rec) (he : ∀ rec, step ([], acc L.length) rec) : LoopW step (L, s0) :=
  LoopW.upT L.length (fun k => (L.drop k, acc k)) (by rw [hs]; rfl) (fun k rec hk hr => by rw [List.drop_eq_getElem_cons hk]; exact h k hk rec fun s e => hr _ (by rw [e])) fun rec => by rw [List.drop_length]; exact he rec
theorem sub0 {α : Type} (xs : List α) (k : Nat) : sub xs 0 (k : Int) = xs.take k := by unfold sub; simp
theorem histE_zero {h : api_History} (hz : histE h = 0) : sizesE h.Sizes = 0 ∧ h.Writes.length ≤ 4096 ∧ (∀ w ∈ h.Writes, fitW h.Sizes w = 0) ∧ evE h = 0 := by
  unfold histE at hz
  by_cases q : sizesE h.Sizes ≠ 0
  · rw [if_pos q] at hz; exact absurd hz q
  rw [if_neg q] at hz
  by_cases r : 4096 < (h.Writes.length : Int)
  · rw [if_pos r] at hz; cases hz
  rw [if_neg r] at hz
  by_cases s : firstN (fun k => fitW h.Sizes (ix h.Writes (k : Int))) h.Writes.length ≠ 0
  · rw [if_pos s] at hz; exact absurd hz s
  rw [if_neg s] at hz
  refine ⟨Classical.not_not.1 q, by omega, fun w hw => ?_, hz⟩
  obtain ⟨k, hk, rfl⟩ := List.getElem_of_mem hw
  have := firstN_zero.1 (Classical.not_not.1 s) k hk
  rw [ix_get hk] at this; exact this
def isSetP (l : List Int) (n : Int) (k : Nat) : Bool := decide (0 ≤ ix l (k : Int) ∧ ix l (k : Int) < n ∧ (0 < k → ix l ((k : Int) - 1) < ix l (k : Int)))
def isSetB (l : List Int) (n : Int) : Bool := allN (isSetP l n) l.length
theorem isSetB_at {l : List Int} {n : Int} (h : isSetB l n = true) {k : Nat} (hk : k < l.length) : 0 ≤ ix l (k : Int) ∧ ix l (k : Int) < n ∧ (0 < k → ix l ((k : Int) - 1) < ix l (k : Int)) := of_decide_eq_true (allN_true.1 h k hk)
theorem isSetB_lt {l : List Int} {n : Int} (h : isSetB l n = true) {i j : Nat} (hij : i < j) (hj : j < l.length) : ix l (i : Int) < ix l (j : Int) := by
  induction j with
  | zero => omega
  | succ j ih =>
    have := (isSetB_at h hj).2.2 (by omega)
    rw [show ((j + 1 : Nat) : Int) - 1 = (j : Int) by omega] at this
    rcases Nat.lt_or_ge i j with q | q
    · have := ih q (by omega); omega
    · obtain rfl : i = j := by omega
      exact this
theorem isSetB_len {l : List Int} {n : Int} (h : isSetB l n = true) : ∀ {k : Nat}, k < l.length → (k : Int) ≤ ix l (k : Int)
  | 0, hk => (isSetB_at h hk).1
  | k + 1, hk => by have h1 := isSetB_len h (k := k) (by omega); have h2 : ix l (k : Int) < ix l ((k + 1 : Nat) : Int) := isSetB_lt h (Nat.lt_succ_self k) hk; omega
theorem isSetB_le {l : List Int} {n : Int} (h : isSetB l n = true) (hn : 0 ≤ n) : (l.length : Int) ≤ n := by
  rcases Nat.eq_zero_or_pos l.length with q | q
  · omega
  · have := isSetB_len h (k := l.length - 1) (by omega); have := (isSetB_at h (k := l.length - 1) (by omega)).2.1; omega
theorem isSetB_mem {l : List Int} {n : Int} (h : isSetB l n = true) {x : Int} (hx : x ∈ l) : 0 ≤ x ∧ x < n := by
  obtain ⟨k, hk, rfl⟩ := List.getElem_of_mem hx
  have := isSetB_at h hk
  rw [ix_get hk] at this; exact ⟨this.1, this.2.1⟩
theorem mem_ix {α : Type} [Dt α] {xs : List α} {i : Int} (h0 : 0 ≤ i) (h1 : i < (xs.length : Int)) : ix xs i ∈ xs := ix_mem ⟨h0, h1⟩
def fewH (h : api_History) : Bool := decide (h.Sizes.length ≤ 9 ∧ h.Writes.length ≤ 40 ∧ h.Events.length ≤ 90) && (h.Sizes.all (fun n => decide (n ≤ 24)) && h.Writes.all fun w => decide (w.Data.length ≤ 30))
theorem ref15_Few_ok {h : api_History} {Φ : Bool → Prop} (hΦ : Φ (fewH h)) : ref15_Few_W h Φ := by
  unfold fewH at hΦ
  refine ⟨fun q => by rw [decide_eq_false (by omega)] at hΦ; exact hΦ, fun q => ⟨fun r => by rw [decide_eq_false (by omega)] at hΦ; exact hΦ, fun r => ⟨fun s => by rw [decide_eq_false (by omega)] at hΦ; exact hΦ, fun s => ?_⟩⟩⟩
  rw [decide_eq_true (by omega), Bool.true_and] at hΦ
  refine LoopW.findI h.Sizes.length (fun k => !decide (ix h.Sizes (k : Int) ≤ 24)) (fun k rec hk _ hr => ⟨fun _ => ⟨iX (by omega) (by omega), fun t => ?_, fun t => ⟨iI (by omega) (by omega), hr (by simp; omega)⟩⟩, fun _ => by omega⟩) fun rec hn => ⟨fun _ => by omega, fun _ => ?_⟩
  · rw [show h.Sizes.all (fun n => decide (n ≤ 24)) = false from by
      rw [List.all_eq_not_any_not, any_true_ix hk (by simp; omega)]; rfl] at hΦ
    exact hΦ
  · rw [show h.Sizes.all (fun n => decide (n ≤ 24)) = true from by
      rw [List.all_eq_not_any_not, any_false_ix fun k hk => by simpa using hn k hk]; rfl, Bool.true_and] at hΦ
    exact LoopW.allE h.Writes (fun w => decide (w.Data.length ≤ 30)) hΦ (fun k rec hk h1 h2 => ⟨fun _ => ⟨iX (by omega) (by omega), fun t => h1 (decide_eq_false (by omega)), fun t => ⟨iI (by omega) (by omega), h2 (decide_eq_true (by omega))⟩⟩, fun _ => by omega⟩) fun rec h0 => ⟨fun _ => by omega, fun _ => h0⟩
theorem fewH_small {h : api_History} (hf : fewH h = true) : SmallH h ∧ h.Writes.length ≤ 40 := by
  unfold fewH at hf
  rw [Bool.and_eq_true, Bool.and_eq_true, decide_eq_true_iff] at hf
  refine ⟨⟨by omega, by omega, fun k hk => ?_⟩, by omega⟩
  have := List.all_eq_true.1 hf.2.2 (ix h.Writes (k : Int)) (mem_ix (by omega) (by omega))
  have := of_decide_eq_true this
  omega
def wr (h : api_History) (i : Nat) : api_Write := ix h.Writes (i : Int)
theorem hist_wr {h : api_History} (hz : histE h = 0) : h.Writes.length ≤ 4096 := by
  unfold histE at hz
  split at hz
  · rename_i q; exact absurd hz q
  · split at hz
    · omega
    · omega
theorem history_Check_ok {h : api_History} {Φ : Int → Prop} (hh : SmallH h) (hΦ : Φ (histE h)) : history_Check_W h Φ :=
  history_check_ok hh (fun q => by rw [q] at hΦ; exact hΦ) fun _ => hΦ
theorem paste_rep {a z : Int} {c m : Nat} : paste (List.replicate c a ++ List.replicate m z) (c : Int) (List.replicate c a) = List.replicate (c + min c m) a ++ List.replicate (m - min c m) z := by
  unfold paste
  rw [Int.toNat_natCast, List.length_append, List.length_replicate, List.length_replicate, Nat.add_sub_cancel_left, List.take_left' List.length_replicate, List.take_replicate, ← List.append_assoc, List.replicate_append_replicate, List.drop_append, List.length_replicate, List.drop_replicate, List.drop_replicate,
    show c - (c + min c m) = 0 by omega, show m - (c + min c m - c) = m - min c m by omega, show min m c = min c m by omega]
  rfl
theorem repeat_loop {a : Int} {n c : Nat} {Φ : List Int → Prop} (hn : n ≤ 100000) (hc : c ≤ n) (h0 : 0 < c ∨ n = 0) (hΦ : Φ (List.replicate n a)) : LoopW (slices_Repeat_int_int_L2 Φ) ((c : Int), List.replicate c a ++ List.replicate (n - c) 0) := by
  refine LoopW.of_inv (fun s => ∃ c : Nat, s = ((c : Int), List.replicate c a ++ List.replicate (n - c) 0) ∧ c ≤ n ∧ (0 < c ∨ n = 0)) (fun s => (n : Int).toNat - s.1.toNat) ?_ ⟨c, rfl, hc, h0⟩
  rintro _ rec ⟨c, rfl, hc, h0⟩ hrec
  have hl : (List.replicate c a ++ List.replicate (n - c) (0 : Int)).length = n := by rw [List.length_append, List.length_replicate, List.length_replicate]; omega
  have hs : sub (List.replicate c a ++ List.replicate (n - c) (0 : Int)) 0 (c : Int) = List.replicate c a := by
    rw [sub0, List.take_left' List.length_replicate]
  refine ⟨fun q => ?_, fun q => ?_⟩
  · rw [hs, hl, paste_rep, List.length_replicate, Int.toNat_natCast]
    rw [hl] at q
    refine ⟨⟨by omega, by omega, by omega⟩, ⟨by omega, by omega, by omega⟩, iI (by omega) (by omega), hrec _ ⟨c + min c (n - c), ?_, by omega, .inl (by omega)⟩ ?_⟩
    · rw [show n - (c + min c (n - c)) = n - c - min c (n - c) by omega]; rfl
    · show (n : Int).toNat - ((c : Int) + ((min c (n - c) : Nat) : Int)).toNat < (n : Int).toNat - ((c : Int)).toNat
      omega
  · rw [hl] at q
    obtain rfl : c = n := by omega
    rw [Nat.sub_self, List.replicate_zero, List.append_nil]
    exact hΦ
theorem shr32 {n : Nat} (hn : n ≤ 100000) : (BitVec.ofNat 64 n) >>> 32 = 0#64 := by
  apply BitVec.eq_of_toNat_eq
  rw [BitVec.toNat_ushiftRight, BitVec.toNat_ofNat, Nat.mod_eq_of_lt (by omega), Nat.shiftRight_eq_div_pow]
  show n / 4294967296 = 0
  omega
theorem and32 {n : Nat} (hn : n ≤ 100000) : (BitVec.ofNat 64 n) &&& 4294967295#64 = BitVec.ofNat 64 n := by
  apply BitVec.eq_of_toNat_eq
  rw [BitVec.toNat_and, BitVec.toNat_ofNat, Nat.mod_eq_of_lt (by omega)]
  show n &&& (2 ^ 32 - 1) = n
  rw [Nat.and_two_pow_sub_one_eq_mod]
  omega
theorem mul_one_ok {n : Nat} {Φ : BitVec 64 × BitVec 64 → Prop} (hn : n ≤ 100000) (hΦ : Φ (0#64, BitVec.ofNat 64 n)) : math_bits_Mul_W (BitVec.ofInt 64 ((1 : Nat) : Int)) (BitVec.ofInt 64 (n : Int)) Φ := by
  have e1 : BitVec.ofInt 64 ((1 : Nat) : Int) = 1#64 := rfl
  have e2 : BitVec.ofInt 64 (n : Int) = BitVec.ofNat 64 n := BitVec.ofInt_natCast ..
  have e3 : ((32#64).toNat : Int).toNat = 32 := rfl
  have e4 : (1#64) >>> 32 = 0#64 := rfl
  have e5 : (1#64) &&& 4294967295#64 = 1#64 := rfl
  show Φ _
  rw [e1, e2]
  simp only [e3, e4, e5, shr32 hn, and32 hn, BitVec.zero_mul, BitVec.mul_zero, BitVec.one_mul, BitVec.zero_add, BitVec.add_zero, BitVec.zero_and]
  exact hΦ
theorem slices_Repeat_int_ok {a : Int} {n : Nat} {Φ : List Int → Prop} (hn : n ≤ 100000) (hΦ : Φ (List.replicate n a)) : slices_Repeat_int_int_W [a] (n : Int) Φ := by
  have e : (BitVec.ofNat 64 n).toInt = (n : Int) := by rw [BitVec.toInt_eq_toNat_cond, BitVec.toNat_ofNat, Nat.mod_eq_of_lt (by omega), if_pos (by omega)]
  have no : slices_Repeat_int_int_J1 [a] (0#64, BitVec.ofNat 64 n) Φ false := by
    refine ⟨fun q => Bool.noConfusion q, fun _ => ⟨by show 0 ≤ (BitVec.ofNat 64 n).toInt; rw [e]; omega, ?_, ?_⟩⟩
    · show lenOk (BitVec.ofNat 64 n).toInt.toNat 8
      rw [e]
      exact ⟨by show n * 8 ≤ _; omega, by show n ≤ maxLen; unfold maxLen; omega⟩
    · show LoopW (slices_Repeat_int_int_L2 Φ) (((min 1 ((List.replicate (BitVec.ofNat 64 n).toInt.toNat (0 : Int)).length - 0) : Nat) : Int), paste (List.replicate (BitVec.ofNat 64 n).toInt.toNat (0 : Int)) 0 [a])
      rw [e, Int.toNat_natCast, List.length_replicate, Nat.sub_zero]
      have h := repeat_loop (a := a) (n := n) (c := min 1 n) hn (by omega) (by omega) hΦ
      have p : paste (List.replicate n (0 : Int)) 0 [a] = List.replicate (min 1 n) a ++ List.replicate (n - min 1 n) 0 := by
        cases n with
        | zero => rfl
        | succ n => rw [show min 1 (n + 1) = 1 by omega, Nat.add_sub_cancel, List.replicate_succ]; unfold paste; simp
      rw [p]; exact h
  refine ⟨fun q => by omega, fun _ => mul_one_ok hn ⟨fun q => ?_, fun _ => ?_⟩⟩
  · exact absurd (show (0#64) < (0#64) from q) (by decide)
  · rw [show decide ((9223372036854775807#64) < (BitVec.ofNat 64 n)) = false from ?_]
    · exact no
    · rw [decide_eq_false_iff_not, BitVec.lt_def]
      have : (BitVec.ofNat 64 n).toNat = n := by rw [BitVec.toNat_ofNat, Nat.mod_eq_of_lt (by omega)]
      rw [this]
      show ¬ (9223372036854775807 < n)
      omega
def relL (l : List api_HistoryEvent) (t : Int) (n : Nat) (N : Int) (k : Nat) : List Int := (List.range n).map fun w : Nat => if 0 ≤ atN l k ⟨t, (w : Int)⟩ then atN l k ⟨t, (w : Int)⟩ else N
theorem relL_len {l : List api_HistoryEvent} {t : Int} {n k : Nat} {N : Int} : (relL l t n N k).length = n := by unfold relL; rw [List.length_map, List.length_range]
theorem ix_relL {l : List api_HistoryEvent} {t : Int} {n k w : Nat} {N : Int} (h : w < n) : ix (relL l t n N k) (w : Int) = if 0 ≤ atN l k ⟨t, (w : Int)⟩ then atN l k ⟨t, (w : Int)⟩ else N := by
  rw [ix_get (by rw [relL_len]; exact h)]
  unfold relL
  rw [List.getElem_map, List.getElem_range]
theorem relL_zero {l : List api_HistoryEvent} {t : Int} {n : Nat} {N : Int} : relL l t n N 0 = List.replicate n N := by
  unfold relL
  rw [List.eq_replicate_iff]
  refine ⟨by rw [List.length_map, List.length_range], fun x hx => ?_⟩
  obtain ⟨w, _, rfl⟩ := List.mem_map.1 hx
  rw [if_neg (by show ¬ (0 : Int) ≤ -1; omega)]
theorem relL_miss {l : List api_HistoryEvent} {t : Int} {n k : Nat} {N : Int} (h : (ix l (k : Int)).Kind ≠ t) : relL l t n N (k + 1) = relL l t n N k := by
  unfold relL
  refine List.map_congr_left fun w _ => ?_
  rw [atN_keep fun e => h (by rw [e])]
theorem relL_hit {l : List api_HistoryEvent} {t : Int} {n k w : Nat} {N : Int} (hw : w < n) (h : ix l (k : Int) = ⟨t, (w : Int)⟩) (hn : ¬ 0 ≤ atN l k ⟨t, (w : Int)⟩) : relL l t n N (k + 1) = put (relL l t n N k) (w : Int) (k : Int) := by
  have hp : ∀ j : Nat, j < n → ix (relL l t n N (k + 1)) (j : Int) = ix (put (relL l t n N k) (w : Int) (k : Int)) (j : Int) := by
    intro j hj
    rw [ix_relL hj, ix_put _ _ (by rw [relL_len]; exact hw)]
    by_cases q : j = w
    · subst q
      rw [if_pos rfl, atN_succ, if_neg hn, if_pos h, if_pos (by omega)]
    · rw [if_neg q, ix_relL hj, atN_keep fun e => q ?_]
      rw [h] at e
      exact (Int.ofNat.inj (congrArg api_HistoryEvent.Write e)).symm
  exact ext_ix (by rw [put_len, relL_len, relL_len]) fun j hj => hp j (by rw [relL_len] at hj; exact hj)
theorem hist_ev {h : api_History} (hz : histE h = 0) {k : Nat} (hk : k < h.Events.length) : evErr h.Events h.Writes.length k = 0 := by
  unfold histE at hz
  split at hz
  · rename_i q; exact absurd hz q
  · split at hz
    · omega
    · split at hz
      · rename_i q; exact absurd hz q
      · unfold evE at hz
        by_cases r : firstN (evErr h.Events h.Writes.length) h.Events.length ≠ 0
        · rw [if_pos r] at hz; exact absurd hz r
        · exact firstN_zero.1 (Classical.not_not.1 r) k hk
theorem ev_put {h : api_History} (hz : histE h = 0) {N : Int} {k : Nat} (hk : k < h.Events.length) :
    ((ix h.Events (k : Int)).Kind = 0 → ∃ w : Nat, (ix h.Events (k : Int)).Write = (w : Int) ∧ w < h.Writes.length ∧ relL h.Events 0 h.Writes.length N (k + 1) = put (relL h.Events 0 h.Writes.length N k) (w : Int) (k : Int) ∧ relL h.Events 1 h.Writes.length N (k + 1) = relL h.Events 1 h.Writes.length N k) ∧
    ((ix h.Events (k : Int)).Kind ≠ 0 → ∃ w : Nat, (ix h.Events (k : Int)).Write = (w : Int) ∧ w < h.Writes.length ∧ relL h.Events 1 h.Writes.length N (k + 1) = put (relL h.Events 1 h.Writes.length N k) (w : Int) (k : Int) ∧ relL h.Events 0 h.Writes.length N (k + 1) = relL h.Events 0 h.Writes.length N k) := by
  have h0 : ∀ j, j < k → evErr h.Events h.Writes.length j = 0 := fun j hj => hist_ev hz (by omega)
  refine ⟨fun q => ?_, fun q => ?_⟩
  · have e := evErr_issue (hist_ev hz hk) q
    refine ⟨cntI h.Events k, by rw [e.1], e.2, relL_hit e.2 e.1 (fun t => by have := (at_issue h0 _).1 t; omega), relL_miss (by rw [q]; decide)⟩
  · have e := evErr_ack (hist_ev hz hk) q
    have c := cnt_le h0
    have w : (((ix h.Events (k : Int)).Write.toNat : Nat) : Int) = (ix h.Events (k : Int)).Write := Int.toNat_of_nonneg e.2.1
    refine ⟨(ix h.Events (k : Int)).Write.toNat, w.symm, by omega, relL_hit (by omega) (by rw [w]; exact e.1) (by rw [w, ← e.1, e.2.2.2]; omega), relL_miss q⟩
def issW (h : api_History) : List Int := relL h.Events 0 h.Writes.length h.Events.length h.Events.length
def ackW (h : api_History) : List Int := relL h.Events 1 h.Writes.length h.Events.length h.Events.length
def markL (n : Nat) (l : List Int) : List Bool := (List.range n).map fun w : Nat => decide ((w : Int) ∈ l)
theorem markL_len {n : Nat} {l : List Int} : (markL n l).length = n := by unfold markL; rw [List.length_map, List.length_range]
theorem ix_markL {n w : Nat} {l : List Int} (h : w < n) : ix (markL n l) (w : Int) = decide ((w : Int) ∈ l) := by
  rw [ix_get (by rw [markL_len]; exact h)]
  unfold markL
  rw [List.getElem_map, List.getElem_range]
theorem markL_put {n k w : Nat} {l : List Int} (hk : k < l.length) (hw : w < n) (e : ix l (k : Int) = (w : Int)) : markL n (l.take (k + 1)) = put (markL n (l.take k)) (w : Int) true := by
  refine ext_ix (by rw [put_len, markL_len, markL_len]) fun j hj => ?_
  rw [markL_len] at hj
  rw [ix_markL hj, ix_put _ _ (by rw [markL_len]; exact hw), ix_markL hj, take_ix hk, e]
  by_cases q : j = w
  · rw [if_pos q, q, decide_eq_true_iff]; simp
  · rw [if_neg q]
    have : (j : Int) ≠ (w : Int) := by omega
    simp [this]
theorem cut_relation_mark_ok {r : Ptr cut_relation} {n : Nat} {l : List Int} {Φ : List Bool × Bool → Prop} (hr : r.val.n = (n : Int)) (hn : n ≤ 100000) (hl : l.length ≤ 1000000) (h1 : isSetB l (n : Int) = true → Φ (markL n l, true)) (h0 : isSetB l (n : Int) = false → Φ ([], false)) : cut_relation_mark_W r l Φ := by
  unfold cut_relation_mark_W
  rw [hr]
  have z : List.replicate n false = markL n (l.take 0) := by
    refine ext_ix (by rw [markL_len, List.length_replicate]) fun j hj => ?_
    rw [List.length_replicate] at hj
    rw [ix_markL hj, ix_get (by rw [List.length_replicate]; exact hj), List.getElem_replicate]; simp
  refine ⟨by omega, ⟨by rw [Int.toNat_natCast]; omega, by rw [Int.toNat_natCast]; unfold maxLen; omega⟩, ?_⟩
  rw [Int.toNat_natCast, z]
  refine LoopW.upI l.length (fun k => ((k : Int), markL n (l.take k))) (fun k => ∀ j, j < k → isSetP l (n : Int) j = true) rfl (fun j hj => absurd hj (Nat.not_lt_zero j)) (fun k rec hk hI hrec => ⟨fun _ => ⟨iX (by omega) (by omega), ?_⟩, fun q => by omega⟩) fun rec hI => ⟨fun q => by omega, fun _ => ?_⟩
  · have bad : isSetP l (n : Int) k = false → cut_relation_mark_J2 l (k : Int) (markL n (l.take k)) rec Φ true := fun t => ⟨fun _ => h0 (allN_false hk t), fun u => absurd rfl u⟩
    have good : isSetP l (n : Int) k = true → 0 ≤ ix l (k : Int) → ix l (k : Int) < (n : Int) → cut_relation_mark_J2 l (k : Int) (markL n (l.take k)) rec Φ false := fun t a b => ⟨fun u => Bool.noConfusion u, fun _ => ⟨iX a (by rw [markL_len]; exact b), iI (by omega) (by omega), hrec (fun j hj => by
      rcases Nat.lt_or_ge j k with c | c
      · exact hI j c
      · obtain rfl : j = k := by omega
        exact t) _ (by
      have w : (((ix l (k : Int)).toNat : Nat) : Int) = ix l (k : Int) := Int.toNat_of_nonneg a
      rw [markL_put hk (w := (ix l (k : Int)).toNat) (by omega) w.symm, w]; rfl)⟩⟩
    unfold isSetP at bad good
    refine ⟨fun q => bad (decide_eq_false (by omega)), fun q => ⟨fun s => bad (decide_eq_false (by rw [hr] at s; omega)), fun s => ?_⟩⟩
    rw [hr] at s
    refine ⟨fun t => ⟨iI (by omega) (by omega), iX (by omega) (by omega), ?_⟩, fun t => good (decide_eq_true ⟨by omega, by omega, fun u => by omega⟩) (by omega) (by omega)⟩
    by_cases u : ix l (k : Int) ≤ ix l ((k : Int) - 1)
    · rw [decide_eq_true u]; exact bad (decide_eq_false (by omega))
    · rw [decide_eq_false u]; exact good (decide_eq_true ⟨by omega, by omega, fun _ => by omega⟩) (by omega) (by omega)
  · have := h1 (allN_true.2 hI)
    rw [List.take_length]; exact this
def memL (ms : List Bool) (k : Nat) : List (Int × Unit) := ((List.range' k (ms.length - k)).filter fun w : Nat => ix ms (w : Int)).map fun w : Nat => ((w : Int), ())
theorem memL_step {ms : List Bool} {k : Nat} (h : k < ms.length) : memL ms k = if ix ms (k : Int) = true then ((k : Int), ()) :: memL ms (k + 1) else memL ms (k + 1) := by
  unfold memL
  rw [show ms.length - k = (ms.length - (k + 1)) + 1 by omega, List.range'_succ, List.filter_cons]
  by_cases q : ix ms (k : Int) = true
  · rw [if_pos q, if_pos q]; rfl
  · rw [if_neg q, if_neg q]
theorem marks_members_ok {ms : List Bool} (hl : ms.length ≤ 1000000) : cut_marks_members_1_I ms (memL ms 0) := by
  refine LoopW.upT ms.length (fun k => (memL ms k, (k : Int))) rfl (fun k rec hk hr => ⟨fun _ => ⟨iX (by omega) (by omega), fun q => ?_, fun q => ⟨iI (by omega) (by omega), hr _ (by rw [memL_step hk, if_neg q]; rfl)⟩⟩, fun q => by omega⟩) fun rec => ⟨fun q => by omega, fun _ => by show memL ms ms.length = []; unfold memL; rw [Nat.sub_self]; rfl⟩
  rw [memL_step hk, if_pos q]
  exact ⟨rfl, ⟨iI (by omega) (by omega), hr _ rfl⟩, trivial⟩
def befC (h : api_History) (a b : Nat) : Bool := decide (ix (ackW h) (a : Int) < ix (issW h) (b : Int))
theorem cut_before_ok {h : api_History} {n e : Int} {a b : Nat} {Φ : Bool → Prop} (ha : a < h.Writes.length) (hb : b < h.Writes.length) (hΦ : Φ (befC h a b)) : cut_relation_before_W (Ptr.mk (cut_relation.mk n e (issW h) (ackW h))) (a : Int) (b : Int) Φ :=
  ⟨iX (by omega) (by show (a : Int) < ((ackW h).length : Int); unfold ackW; rw [relL_len]; omega), iX (by omega) (by show (b : Int) < ((issW h).length : Int); unfold issW; rw [relL_len]; omega), hΦ⟩
def selL (n : Nat) (p : Nat → Bool) : List Int := ((List.range n).filter p).map fun w : Nat => (w : Int)
theorem mem_selL {n : Nat} {p : Nat → Bool} {x : Int} : x ∈ selL n p ↔ ∃ w : Nat, x = (w : Int) ∧ w < n ∧ p w = true := by
  unfold selL
  rw [List.mem_map]
  constructor
  · rintro ⟨w, hw, rfl⟩
    have := List.mem_filter.1 hw
    exact ⟨w, rfl, List.mem_range.1 this.1, this.2⟩
  · rintro ⟨w, rfl, h1, h2⟩
    exact ⟨w, List.mem_filter.2 ⟨List.mem_range.2 h1, h2⟩, rfl⟩
theorem mem_selN {n : Nat} {p : Nat → Bool} {w : Nat} : (w : Int) ∈ selL n p ↔ w < n ∧ p w = true := by
  rw [mem_selL]
  exact ⟨fun ⟨v, e, a⟩ => by obtain rfl := Int.ofNat.inj e; exact a, fun a => ⟨w, rfl, a⟩⟩
theorem selL_len {n : Nat} {p : Nat → Bool} : (selL n p).length ≤ n := by
  unfold selL
  rw [List.length_map]
  have := List.length_filter_le p (List.range n)
  rw [List.length_range] at this; exact this
theorem selL_succ {n : Nat} {p : Nat → Bool} : selL (n + 1) p = selL n p ++ (if p n = true then [(n : Int)] else []) := by
  unfold selL
  rw [filter_range_snoc, List.map_append]
  by_cases q : p n = true
  · rw [if_pos q, if_pos q]; rfl
  · rw [if_neg q, if_neg q]; rfl
theorem selL_lt {n : Nat} {p : Nat → Bool} : ∀ {k : Nat}, k < (selL n p).length → 0 ≤ ix (selL n p) (k : Int) ∧ ix (selL n p) (k : Int) < (n : Int) := by
  intro k hk
  obtain ⟨w, e, h1, _⟩ := mem_selL.1 (mem_ix (xs := selL n p) (i := (k : Int)) (by omega) (by omega))
  omega
theorem ix_app_l {xs ys : List Int} {k : Nat} (h : k < xs.length) : ix (xs ++ ys) (k : Int) = ix xs (k : Int) := by
  rw [ix_get (by rw [List.length_append]; omega), ix_get h, List.getElem_append_left h]
theorem selL_set {n : Nat} {p : Nat → Bool} {N : Int} : ∀ {m : Nat}, m ≤ n → (n : Int) ≤ N → isSetB (selL m p) N = true := by
  intro m
  induction m with
  | zero => intro _ _; exact allN_true.2 fun k hk => absurd hk (Nat.not_lt_zero k)
  | succ m ih =>
    intro hm hN
    have h0 := allN_true.1 (ih (by omega) hN)
    rw [selL_succ]
    by_cases q : p m = true
    · rw [if_pos q]
      refine allN_true.2 fun k hk => ?_
      rw [List.length_append, List.length_singleton] at hk
      rcases Nat.lt_or_ge k (selL m p).length with c | c
      · have := of_decide_eq_true (h0 k c)
        refine decide_eq_true ?_
        rw [ix_app_l c]
        refine ⟨this.1, this.2.1, fun u => ?_⟩
        have e : ((k : Int) - 1) = ((k - 1 : Nat) : Int) := by omega
        rw [e, ix_app_l (by omega), ← e]; exact this.2.2 u
      · obtain rfl : k = (selL m p).length := by omega
        have hx : ix (selL m p ++ [(m : Int)]) ((selL m p).length : Int) = (m : Int) := by
          rw [ix_get (by rw [List.length_append, List.length_singleton]; omega), List.getElem_append_right (Nat.le_refl _)]
          simp
        refine decide_eq_true ?_
        rw [hx]
        refine ⟨by omega, by omega, fun u => ?_⟩
        have e : (((selL m p).length : Int) - 1) = (((selL m p).length - 1 : Nat) : Int) := by omega
        rw [e, ix_app_l (by omega)]
        exact (selL_lt (n := m) (p := p) (k := (selL m p).length - 1) (by omega)).2
    · rw [if_neg q, List.append_nil]; exact ih (by omega) hN
theorem mem_members {n : Nat} {l : List Int} {p : Int × Unit} : p ∈ memL (markL n l) 0 ↔ p.1 ∈ l ∧ 0 ≤ p.1 ∧ p.1 < (n : Int) := by
  unfold memL
  rw [List.mem_map, markL_len]
  constructor
  · rintro ⟨w, hw, rfl⟩
    have h2 := List.mem_filter.1 hw
    have h3 := List.mem_range'_1.1 h2.1
    have h4 : ix (markL n l) (w : Int) = true := h2.2
    rw [ix_markL (by omega), decide_eq_true_iff] at h4
    exact ⟨h4, by show (0 : Int) ≤ (w : Int); omega, by show (w : Int) < (n : Int); omega⟩
  · obtain ⟨x, u⟩ := p
    rintro ⟨h1, h2, h3⟩
    have h1 : x ∈ l := h1
    have h2 : 0 ≤ x := h2
    have h3 : x < (n : Int) := h3
    have e : ((x.toNat : Nat) : Int) = x := Int.toNat_of_nonneg h2
    refine ⟨x.toNat, List.mem_filter.2 ⟨List.mem_range'_1.2 ⟨by omega, by omega⟩, ?_⟩, by rw [e]⟩
    show ix (markL n l) ((x.toNat : Nat) : Int) = true
    rw [ix_markL (by omega), decide_eq_true_iff, e]
    exact h1
def befP (h : api_History) (a b : Nat) : Bool := decide (0 ≤ atN h.Events h.Events.length ⟨1, (a : Int)⟩ ∧ atN h.Events h.Events.length ⟨1, (a : Int)⟩ < atN h.Events h.Events.length ⟨0, (b : Int)⟩)
theorem evE_cnt {h : api_History} (hz : histE h = 0) : cntI h.Events h.Events.length = h.Writes.length := by
  have h1 := (histE_zero hz).2.2.2
  have h2 := cnt_le (l := h.Events) (n := h.Writes.length) (k := h.Events.length) fun j hj => hist_ev hz hj
  unfold evE at h1
  split at h1
  · rename_i q; exact absurd h1 q
  · split at h1
    · omega
    · omega
theorem iss_nn {h : api_History} (hz : histE h = 0) {b : Nat} (hb : b < h.Writes.length) : 0 ≤ atN h.Events h.Events.length ⟨0, (b : Int)⟩ :=
  (at_issue (n := h.Writes.length) (fun j hj => hist_ev hz hj) _).2 ⟨by omega, by rw [evE_cnt hz]; omega⟩
theorem atN_top (l : List api_HistoryEvent) (n : Nat) (e : api_HistoryEvent) : atN l n e < (n : Int) := by
  rcases atN_lt l n e with h | h <;> omega
theorem befC_eq {h : api_History} (hz : histE h = 0) {a b : Nat} (ha : a < h.Writes.length) (hb : b < h.Writes.length) : befC h a b = befP h a b := by
  unfold befC befP ackW issW
  rw [ix_relL ha, ix_relL hb]
  have h1 := iss_nn hz hb
  rw [if_pos h1]
  refine decide_eq_decide.2 ?_
  by_cases q : 0 ≤ atN h.Events h.Events.length ⟨1, (a : Int)⟩
  · rw [if_pos q]; exact ⟨fun t => ⟨q, t⟩, fun t => t.2⟩
  · rw [if_neg q]
    have := atN_top h.Events h.Events.length ⟨0, (b : Int)⟩
    exact ⟨fun t => by omega, fun t => absurd t.1 q⟩
theorem sel_room {n k : Nat} {p : Nat → Bool} (hk : k < n) (hn : n ≤ 4096) : lenOk (selL k p ++ ([(k : Int)] : List Int)).length 8 := by
  have := selL_len (n := k) (p := p)
  refine ⟨?_, ?_⟩
  · rw [List.length_append, List.length_singleton]; omega
  · rw [List.length_append, List.length_singleton]; unfold maxLen; omega
def clsF (h : api_History) (l : List Int) (b : Nat) : Bool := allN (fun a => !befC h a b || decide ((a : Int) ∈ l)) h.Writes.length
def closB (h : api_History) (l : List Int) : Bool := l.all fun b => clsF h l b.toNat
def relP (h : api_History) : Ptr cut_relation := Ptr.mk (cut_relation.mk (h.Writes.length : Int) (h.Events.length : Int) (issW h) (ackW h))
theorem members_all {n : Nat} {l : List Int} (hl : isSetB l (n : Int) = true) (f : Nat → Bool) : ((memL (markL n l) 0).all fun p => f p.1.toNat) = l.all fun b => f b.toNat := by
  rw [Bool.eq_iff_iff, List.all_eq_true, List.all_eq_true]
  constructor
  · intro t x hx
    have := isSetB_mem hl hx
    exact t (x, ()) (mem_members.2 ⟨hx, this.1, this.2⟩)
  · intro t p hp
    exact t _ (mem_members.1 hp).1
theorem cut_closed_ok {h : api_History} {l : List Int} {Φ : Bool → Prop} (hw : h.Writes.length ≤ 4096) (hl : isSetB l (h.Writes.length : Int) = true) (hΦ : Φ (closB h l)) : cut_relation_closed_W (relP h) (markL h.Writes.length l) Φ := by
  refine ⟨_, marks_members_ok (by rw [markL_len]; omega), ?_⟩
  have h0 : Φ ((memL (markL h.Writes.length l) 0).all fun p => clsF h l p.1.toNat) := by rw [members_all hl (clsF h l)]; exact hΦ
  refine LoopW.of_inv (fun s => Φ (s.1.all fun p => clsF h l p.1.toNat) ∧ ∀ p ∈ s.1, 0 ≤ p.1 ∧ p.1 < (h.Writes.length : Int)) (fun s => s.1.length) ?_ ⟨h0, fun p hp => (mem_members.1 hp).2⟩
  rintro ⟨ps, _⟩ rec ⟨hp, hr⟩ hrec
  cases ps with
  | nil => exact hp
  | cons p ps =>
    obtain ⟨b, u⟩ := p
    have hb := hr (b, u) List.mem_cons_self
    have e : ((b.toNat : Nat) : Int) = b := Int.toNat_of_nonneg hb.1
    have hb2 : b < (h.Writes.length : Int) := hb.2
    have cons : (((b, u) :: ps).all fun p => clsF h l p.1.toNat) = (clsF h l b.toNat && ps.all fun p => clsF h l p.1.toNat) := rfl
    refine LoopW.allL (Φ := fun c => (c = true → rec (ps, ())) ∧ (c = false → Φ false)) h.Writes.length (fun a => !befC h a b.toNat || decide ((a : Int) ∈ l)) ⟨fun t => ?_, fun t => ?_⟩ (fun a rec2 ha _ hf ht => ⟨fun _ => ?_, fun r => absurd (show (a : Int) < (h.Writes.length : Int) by omega) r⟩) fun rec2 h1 _ => ⟨fun r => absurd r (by show ¬ ((h.Writes.length : Int) < (h.Writes.length : Int)); omega), fun _ => h1.1 rfl⟩
    · have t : clsF h l b.toNat = true := t
      have hp : Φ (((b, u) :: ps).all fun p => clsF h l p.1.toNat) := hp
      rw [cons, t, Bool.true_and] at hp
      exact hrec _ ⟨hp, fun q hq => hr q (List.mem_cons_of_mem _ hq)⟩ (by show ps.length < ps.length + 1; omega)
    · have t : clsF h l b.toNat = false := t
      have hp : Φ (((b, u) :: ps).all fun p => clsF h l p.1.toNat) := hp
      rw [cons, t, Bool.false_and] at hp
      exact hp
    · have hx : ix (markL h.Writes.length l) (a : Int) = decide ((a : Int) ∈ l) := ix_markL ha
      have go : cut_relation_before_W (relP h) (a : Int) ((b.toNat : Nat) : Int) fun v4 => (v4 = true → inX (a : Int) (markL h.Writes.length l).length ∧ (¬ (ix (markL h.Writes.length l) (a : Int) = true) → Φ false) ∧ (¬ (¬ (ix (markL h.Writes.length l) (a : Int) = true)) → inI ((a : Int) + 1) ∧ rec2 ((a : Int) + 1))) ∧ (¬ (v4 = true) → inI ((a : Int) + 1) ∧ rec2 ((a : Int) + 1)) := by
        refine cut_before_ok ha (by omega) ⟨fun t => ⟨iX (by omega) (by rw [markL_len]; omega), fun q => (hf ?_).2 rfl, fun q => ⟨iI (by omega) (by omega), ht ?_⟩⟩, fun t => ⟨iI (by omega) (by omega), ht ?_⟩⟩
        · rw [hx] at q
          show (!befC h a b.toNat || decide ((a : Int) ∈ l)) = false
          rw [t, Bool.eq_false_iff.2 q]; rfl
        · rw [hx] at q
          show (!befC h a b.toNat || decide ((a : Int) ∈ l)) = true
          rw [Classical.not_not.1 q, Bool.or_true]
        · show (!befC h a b.toNat || decide ((a : Int) ∈ l)) = true
          rw [Bool.eq_false_iff.2 t]; rfl
      rw [e] at go
      exact go
theorem cutCheck_rel {h : api_History} {l : List Int} {Φ : Int → Prop} (hh : SmallH h) (hz : histE h = 0) (he : LoopW (cut_Check_L4 h l (issW h) (ackW h) Φ) (0, [])) :
    LoopW (cut_Check_L3 h l Φ) (0, List.replicate h.Writes.length (h.Events.length : Int), List.replicate h.Writes.length (h.Events.length : Int)) := by
  have hev := hh.ev
  refine LoopW.upT h.Events.length (fun k => ((k : Int), relL h.Events 0 h.Writes.length h.Events.length k, relL h.Events 1 h.Writes.length h.Events.length k)) (by rw [relL_zero, relL_zero]; rfl) (fun k rec hk hr => ⟨fun _ => ⟨iX (by omega) (by omega), fun q => ?_, fun q => ?_⟩, fun r => by omega⟩) fun rec => ⟨fun r => by omega, fun _ => ⟨fun r => absurd rfl r, fun _ => he⟩⟩
  · obtain ⟨w, e1, e2, e3, e4⟩ := (ev_put hz (N := (h.Events.length : Int)) hk).1 q
    refine ⟨iX (by rw [e1]; omega) (by rw [e1, relL_len]; omega), iI (by omega) (by omega), hr _ ?_⟩
    rw [e1, e3, e4]; rfl
  · obtain ⟨w, e1, e2, e3, e4⟩ := (ev_put hz (N := (h.Events.length : Int)) hk).2 q
    refine ⟨iX (by rw [e1]; omega) (by rw [e1, relL_len]; omega), iI (by omega) (by omega), hr _ ?_⟩
    rw [e1, e3, e4]; rfl
theorem cutCheck_clo {h : api_History} {l : List Int} {Φ : Int → Prop} (hw : h.Writes.length ≤ 4096) (hs : ∀ j, j < ([l] : List (List Int)).length → isSetB (ix ([l] : List (List Int)) (j : Int)) (h.Writes.length : Int) = true)
    (kF : ∀ j, j < ([l] : List (List Int)).length → closB h (ix ([l] : List (List Int)) (j : Int)) = false → cut_Check_J5  Φ true)
    (kT : (∀ j, j < ([l] : List (List Int)).length → closB h (ix ([l] : List (List Int)) (j : Int)) = true) → cut_Check_J5  Φ false) : LoopW (cut_Check_L6 h (issW h) (ackW h) ([l].map (markL h.Writes.length)) Φ) 0 := by
  have hx : ∀ j, j < ([l] : List (List Int)).length → ix ([l].map (markL h.Writes.length)) (j : Int) = markL h.Writes.length (ix ([l] : List (List Int)) (j : Int)) := fun j hj => by
    rw [ix_get (by rw [List.length_map]; exact hj), List.getElem_map, ix_get hj]
  have ln : ([l].map (markL h.Writes.length)).length = ([l] : List (List Int)).length := List.length_map _
  have sm : ([l] : List (List Int)).length ≤ 2 := by simp
  have t0 : decide (0 ≤ ((-1 : Int))) = false := by decide
  refine LoopW.upI ([l] : List (List Int)).length (fun k => (k : Int)) (fun k => ∀ j, j < k → closB h (ix ([l] : List (List Int)) (j : Int)) = true) rfl (fun j hj => absurd hj (Nat.not_lt_zero j)) (fun k rec hk hI hr => ⟨fun _ => ⟨iX (by omega) (by omega), ?_⟩, fun r => absurd (show (k : Int) < (([l].map (markL h.Writes.length)).length : Int) by omega) r⟩) fun rec hI => ⟨fun r => absurd r (by omega), fun _ => by rw [t0]; exact kT hI⟩
  rw [hx k hk]
  refine cut_closed_ok hw (hs k hk) ⟨fun q => ?_, fun q => ⟨iI (by omega) (by omega), hr (fun j hj => ?_) _ rfl⟩⟩
  · rw [decide_eq_true (show (0 : Int) ≤ (k : Int) by omega)]
    exact kF k hk (Bool.eq_false_iff.2 q)
  · rcases Nat.lt_or_ge j k with c | c
    · exact hI j c
    · obtain rfl : j = k := by omega
      exact Classical.not_not.1 q
theorem cutCheck_mks {h : api_History} {l : List Int} {Φ : Int → Prop} (hw : h.Writes.length ≤ 4096) (hl : ∀ j, j < ([l] : List (List Int)).length → (ix ([l] : List (List Int)) (j : Int)).length ≤ 1000000)
    (k2 : ∀ j, j < ([l] : List (List Int)).length → isSetB (ix ([l] : List (List Int)) (j : Int)) (h.Writes.length : Int) = false → Φ 2)
    (kF : (∀ j, j < ([l] : List (List Int)).length → isSetB (ix ([l] : List (List Int)) (j : Int)) (h.Writes.length : Int) = true) → ∀ j, j < ([l] : List (List Int)).length → closB h (ix ([l] : List (List Int)) (j : Int)) = false → cut_Check_J5  Φ true)
    (kT : (∀ j, j < ([l] : List (List Int)).length → isSetB (ix ([l] : List (List Int)) (j : Int)) (h.Writes.length : Int) = true) → (∀ j, j < ([l] : List (List Int)).length → closB h (ix ([l] : List (List Int)) (j : Int)) = true) → cut_Check_J5  Φ false) : LoopW (cut_Check_L4 h l (issW h) (ackW h) Φ) (0, []) := by
  have sm : ([l] : List (List Int)).length ≤ 2 := by simp
  have l1 : ∀ x : List Bool, [x].length = 1 := fun _ => rfl
  refine LoopW.upI ([l] : List (List Int)).length (fun k => ((k : Int), (([l] : List (List Int)).take k).map (markL h.Writes.length))) (fun k => ∀ j, j < k → isSetB (ix ([l] : List (List Int)) (j : Int)) (h.Writes.length : Int) = true) rfl (fun j hj => absurd hj (Nat.not_lt_zero j)) (fun k rec hk hI hr => ⟨fun _ => ⟨iX (by omega) (by omega), ?_⟩, fun r => absurd (show (k : Int) < (([l] : List (List Int)).length : Int) by omega) r⟩) fun rec hI => ⟨fun r => absurd r (by omega), fun _ => by rw [List.take_length]; exact cutCheck_clo hw hI (kF hI) (kT hI)⟩
  refine cut_relation_mark_ok (r := relP h) rfl (by omega) (hl k hk) (fun t => ?_) fun t => ?_
  · refine ⟨fun u => absurd rfl u, fun _ => ⟨⟨?_, ?_⟩, iI (by omega) (by omega), hr (fun j hj => ?_) _ ?_⟩⟩
    · rw [List.length_append, List.length_map, List.length_take, l1]; omega
    · rw [List.length_append, List.length_map, List.length_take, l1]; unfold maxLen; omega
    · rcases Nat.lt_or_ge j k with c | c
      · exact hI j c
      · obtain rfl : j = k := by omega
        exact t
    · rw [take_ix hk, List.map_append]; rfl
  · exact ⟨fun _ => k2 k hk t, fun u => absurd (fun v => Bool.noConfusion v) u⟩
theorem cutCheck_all {h : api_History} {l : List Int} {Φ : Int → Prop} (hh : SmallH h) (hl : ∀ j, j < ([l] : List (List Int)).length → (ix ([l] : List (List Int)) (j : Int)).length ≤ 1000000)
    (k1 : histE h ≠ 0 → Φ (histE h))
    (k2 : histE h = 0 → ∀ j, j < ([l] : List (List Int)).length → isSetB (ix ([l] : List (List Int)) (j : Int)) (h.Writes.length : Int) = false → Φ 2)
    (kF : histE h = 0 → (∀ j, j < ([l] : List (List Int)).length → isSetB (ix ([l] : List (List Int)) (j : Int)) (h.Writes.length : Int) = true) → ∀ j, j < ([l] : List (List Int)).length → closB h (ix ([l] : List (List Int)) (j : Int)) = false → cut_Check_J5  Φ true)
    (kT : histE h = 0 → (∀ j, j < ([l] : List (List Int)).length → isSetB (ix ([l] : List (List Int)) (j : Int)) (h.Writes.length : Int) = true) → (∀ j, j < ([l] : List (List Int)).length → closB h (ix ([l] : List (List Int)) (j : Int)) = true) → cut_Check_J5  Φ false) : cut_Check_W h l Φ := by
  refine history_Check_ok hh ⟨fun q => ⟨fun _ => k1 q, fun r => absurd q r⟩, fun q => ?_⟩
  have hz : histE h = 0 := Classical.not_not.1 q
  have hw := hist_wr hz
  exact ⟨_, slices_Repeat_int_ok (by omega) rfl, _, slices_Repeat_int_ok (by omega) rfl, cutCheck_rel hh hz (cutCheck_mks hw hl (k2 hz) (kF hz) (kT hz))⟩
theorem cutAge_rel {h : api_History} {l : List Int} {Φ : Int × Int → Prop} (hh : SmallH h) (hz : histE h = 0) (he : LoopW (cut_Age_L4 h l (issW h) (ackW h) Φ) (0, [])) :
    LoopW (cut_Age_L3 h l Φ) (0, List.replicate h.Writes.length (h.Events.length : Int), List.replicate h.Writes.length (h.Events.length : Int)) := by
  have hev := hh.ev
  refine LoopW.upT h.Events.length (fun k => ((k : Int), relL h.Events 0 h.Writes.length h.Events.length k, relL h.Events 1 h.Writes.length h.Events.length k)) (by rw [relL_zero, relL_zero]; rfl) (fun k rec hk hr => ⟨fun _ => ⟨iX (by omega) (by omega), fun q => ?_, fun q => ?_⟩, fun r => by omega⟩) fun rec => ⟨fun r => by omega, fun _ => ⟨fun r => absurd rfl r, fun _ => he⟩⟩
  · obtain ⟨w, e1, e2, e3, e4⟩ := (ev_put hz (N := (h.Events.length : Int)) hk).1 q
    refine ⟨iX (by rw [e1]; omega) (by rw [e1, relL_len]; omega), iI (by omega) (by omega), hr _ ?_⟩
    rw [e1, e3, e4]; rfl
  · obtain ⟨w, e1, e2, e3, e4⟩ := (ev_put hz (N := (h.Events.length : Int)) hk).2 q
    refine ⟨iX (by rw [e1]; omega) (by rw [e1, relL_len]; omega), iI (by omega) (by omega), hr _ ?_⟩
    rw [e1, e3, e4]; rfl
theorem cutAge_clo {h : api_History} {l : List Int} {Φ : Int × Int → Prop} (hw : h.Writes.length ≤ 4096) (hs : ∀ j, j < ([l] : List (List Int)).length → isSetB (ix ([l] : List (List Int)) (j : Int)) (h.Writes.length : Int) = true)
    (kF : ∀ j, j < ([l] : List (List Int)).length → closB h (ix ([l] : List (List Int)) (j : Int)) = false → cut_Age_J5 h (ackW h) ([l].map (markL h.Writes.length)) Φ true)
    (kT : (∀ j, j < ([l] : List (List Int)).length → closB h (ix ([l] : List (List Int)) (j : Int)) = true) → cut_Age_J5 h (ackW h) ([l].map (markL h.Writes.length)) Φ false) : LoopW (cut_Age_L8 h (issW h) (ackW h) ([l].map (markL h.Writes.length)) Φ) 0 := by
  have hx : ∀ j, j < ([l] : List (List Int)).length → ix ([l].map (markL h.Writes.length)) (j : Int) = markL h.Writes.length (ix ([l] : List (List Int)) (j : Int)) := fun j hj => by
    rw [ix_get (by rw [List.length_map]; exact hj), List.getElem_map, ix_get hj]
  have ln : ([l].map (markL h.Writes.length)).length = ([l] : List (List Int)).length := List.length_map _
  have sm : ([l] : List (List Int)).length ≤ 2 := by simp
  have t0 : decide (0 ≤ ((-1 : Int))) = false := by decide
  refine LoopW.upI ([l] : List (List Int)).length (fun k => (k : Int)) (fun k => ∀ j, j < k → closB h (ix ([l] : List (List Int)) (j : Int)) = true) rfl (fun j hj => absurd hj (Nat.not_lt_zero j)) (fun k rec hk hI hr => ⟨fun _ => ⟨iX (by omega) (by omega), ?_⟩, fun r => absurd (show (k : Int) < (([l].map (markL h.Writes.length)).length : Int) by omega) r⟩) fun rec hI => ⟨fun r => absurd r (by omega), fun _ => by rw [t0]; exact kT hI⟩
  rw [hx k hk]
  refine cut_closed_ok hw (hs k hk) ⟨fun q => ?_, fun q => ⟨iI (by omega) (by omega), hr (fun j hj => ?_) _ rfl⟩⟩
  · rw [decide_eq_true (show (0 : Int) ≤ (k : Int) by omega)]
    exact kF k hk (Bool.eq_false_iff.2 q)
  · rcases Nat.lt_or_ge j k with c | c
    · exact hI j c
    · obtain rfl : j = k := by omega
      exact Classical.not_not.1 q
theorem cutAge_mks {h : api_History} {l : List Int} {Φ : Int × Int → Prop} (hw : h.Writes.length ≤ 4096) (hl : ∀ j, j < ([l] : List (List Int)).length → (ix ([l] : List (List Int)) (j : Int)).length ≤ 1000000)
    (k2 : ∀ j, j < ([l] : List (List Int)).length → isSetB (ix ([l] : List (List Int)) (j : Int)) (h.Writes.length : Int) = false → Φ (0, 2))
    (kF : (∀ j, j < ([l] : List (List Int)).length → isSetB (ix ([l] : List (List Int)) (j : Int)) (h.Writes.length : Int) = true) → ∀ j, j < ([l] : List (List Int)).length → closB h (ix ([l] : List (List Int)) (j : Int)) = false → cut_Age_J5 h (ackW h) ([l].map (markL h.Writes.length)) Φ true)
    (kT : (∀ j, j < ([l] : List (List Int)).length → isSetB (ix ([l] : List (List Int)) (j : Int)) (h.Writes.length : Int) = true) → (∀ j, j < ([l] : List (List Int)).length → closB h (ix ([l] : List (List Int)) (j : Int)) = true) → cut_Age_J5 h (ackW h) ([l].map (markL h.Writes.length)) Φ false) : LoopW (cut_Age_L4 h l (issW h) (ackW h) Φ) (0, []) := by
  have sm : ([l] : List (List Int)).length ≤ 2 := by simp
  have l1 : ∀ x : List Bool, [x].length = 1 := fun _ => rfl
  refine LoopW.upI ([l] : List (List Int)).length (fun k => ((k : Int), (([l] : List (List Int)).take k).map (markL h.Writes.length))) (fun k => ∀ j, j < k → isSetB (ix ([l] : List (List Int)) (j : Int)) (h.Writes.length : Int) = true) rfl (fun j hj => absurd hj (Nat.not_lt_zero j)) (fun k rec hk hI hr => ⟨fun _ => ⟨iX (by omega) (by omega), ?_⟩, fun r => absurd (show (k : Int) < (([l] : List (List Int)).length : Int) by omega) r⟩) fun rec hI => ⟨fun r => absurd r (by omega), fun _ => by rw [List.take_length]; exact cutAge_clo hw hI (kF hI) (kT hI)⟩
  refine cut_relation_mark_ok (r := relP h) rfl (by omega) (hl k hk) (fun t => ?_) fun t => ?_
  · refine ⟨fun u => absurd rfl u, fun _ => ⟨⟨?_, ?_⟩, iI (by omega) (by omega), hr (fun j hj => ?_) _ ?_⟩⟩
    · rw [List.length_append, List.length_map, List.length_take, l1]; omega
    · rw [List.length_append, List.length_map, List.length_take, l1]; unfold maxLen; omega
    · rcases Nat.lt_or_ge j k with c | c
      · exact hI j c
      · obtain rfl : j = k := by omega
        exact t
    · rw [take_ix hk, List.map_append]; rfl
  · exact ⟨fun _ => ⟨fun _ => k2 k hk t, fun r => absurd (by decide) r⟩, fun u => absurd (fun v => Bool.noConfusion v) u⟩
theorem cutAge_all {h : api_History} {l : List Int} {Φ : Int × Int → Prop} (hh : SmallH h) (hl : ∀ j, j < ([l] : List (List Int)).length → (ix ([l] : List (List Int)) (j : Int)).length ≤ 1000000)
    (k1 : histE h ≠ 0 → Φ (0, histE h))
    (k2 : histE h = 0 → ∀ j, j < ([l] : List (List Int)).length → isSetB (ix ([l] : List (List Int)) (j : Int)) (h.Writes.length : Int) = false → Φ (0, 2))
    (kF : histE h = 0 → (∀ j, j < ([l] : List (List Int)).length → isSetB (ix ([l] : List (List Int)) (j : Int)) (h.Writes.length : Int) = true) → ∀ j, j < ([l] : List (List Int)).length → closB h (ix ([l] : List (List Int)) (j : Int)) = false → cut_Age_J5 h (ackW h) ([l].map (markL h.Writes.length)) Φ true)
    (kT : histE h = 0 → (∀ j, j < ([l] : List (List Int)).length → isSetB (ix ([l] : List (List Int)) (j : Int)) (h.Writes.length : Int) = true) → (∀ j, j < ([l] : List (List Int)).length → closB h (ix ([l] : List (List Int)) (j : Int)) = true) → cut_Age_J5 h (ackW h) ([l].map (markL h.Writes.length)) Φ false) : cut_Age_W h l Φ := by
  refine history_Check_ok hh ⟨fun q => ⟨fun _ => ⟨fun _ => k1 q, fun r => absurd q r⟩, fun r => absurd q r⟩, fun q => ?_⟩
  have hz : histE h = 0 := Classical.not_not.1 q
  have hw := hist_wr hz
  exact ⟨_, slices_Repeat_int_ok (by omega) rfl, _, slices_Repeat_int_ok (by omega) rfl, cutAge_rel hh hz (cutAge_mks hw hl (k2 hz) (kF hz) (kT hz))⟩
def ckcR (h : api_History) (l : List Int) : Int := if histE h ≠ 0 then histE h else if isSetB l (h.Writes.length : Int) = false then 2 else if closB h l = false then 27 else 0
theorem one_lt {l : List Int} {p : Nat → Prop} (h : p 0) : ∀ j, j < ([l] : List (List Int)).length → p j := by
  intro j hj
  have hj : j < 1 := hj
  obtain rfl : j = 0 := by omega
  exact h
theorem cut_Check_ok {h : api_History} {l : List Int} {Φ : Int → Prop} (hh : SmallH h) (hl : l.length ≤ 1000000) (hΦ : Φ (ckcR h l)) : cut_Check_W h l Φ := by
  unfold ckcR at hΦ
  refine cutCheck_all hh (one_lt hl) (fun q => by rw [if_pos q] at hΦ; exact hΦ) (fun hz => one_lt fun q => ?_) (fun hz hs => one_lt fun q => ⟨fun _ => ?_, fun r => absurd rfl r⟩) fun hz hs hc => ⟨fun r => Bool.noConfusion r, fun _ => ?_⟩
  · have q : isSetB l (h.Writes.length : Int) = false := q
    rw [if_neg (fun t => t hz), if_pos q] at hΦ; exact hΦ
  · have q : closB h l = false := q
    have s : isSetB l (h.Writes.length : Int) = true := hs 0 Nat.one_pos
    rw [if_neg (fun t => t hz), if_neg (by rw [s]; simp), if_pos q] at hΦ; exact hΦ
  · have s : isSetB l (h.Writes.length : Int) = true := hs 0 Nat.one_pos
    have c : closB h l = true := hc 0 Nat.one_pos
    rw [if_neg (fun t => t hz), if_neg (by rw [s]; simp), if_neg (by rw [c]; simp)] at hΦ; exact hΦ
def clsP (h : api_History) (l : List Int) (b : Nat) : Bool := allN (fun a => !befP h a b || decide ((a : Int) ∈ l)) h.Writes.length
def closP (h : api_History) (l : List Int) : Bool := l.all fun b => clsP h l b.toNat
theorem closB_eq {h : api_History} (hz : histE h = 0) {l : List Int} (hl : isSetB l (h.Writes.length : Int) = true) : closB h l = closP h l := by
  unfold closB closP
  rw [Bool.eq_iff_iff, List.all_eq_true, List.all_eq_true]
  refine forall_congr' fun x => forall_congr' fun hx => ?_
  have m := isSetB_mem hl hx
  have e : clsF h l x.toNat = clsP h l x.toNat := allN_congr fun a ha => by rw [befC_eq hz ha (by omega)]
  rw [e]
theorem ckcR_1 {h : api_History} {l : List Int} (hz : histE h = 0) {j : Nat} (hj : j < ([l] : List (List Int)).length) (q : isSetB (ix ([l] : List (List Int)) (j : Int)) (h.Writes.length : Int) = false) : ckcR h l = 2 := by
  have hj : j < 1 := hj
  obtain rfl : j = 0 := by omega
  have q : isSetB l (h.Writes.length : Int) = false := q
  unfold ckcR
  rw [if_neg (fun t => t hz), if_pos q]
theorem ckcR_27 {h : api_History} {l : List Int} (hz : histE h = 0) (hs : ∀ j, j < ([l] : List (List Int)).length → isSetB (ix ([l] : List (List Int)) (j : Int)) (h.Writes.length : Int) = true) {j : Nat} (hj : j < ([l] : List (List Int)).length) (q : closB h (ix ([l] : List (List Int)) (j : Int)) = false) : ckcR h l = 27 := by
  have hj : j < 1 := hj
  obtain rfl : j = 0 := by omega
  have q : closB h l = false := q
  have s : isSetB l (h.Writes.length : Int) = true := hs 0 Nat.one_pos
  unfold ckcR
  rw [if_neg (fun t => t hz), if_neg (by rw [s]; simp), if_pos q]
theorem ckcR_0 {h : api_History} {l : List Int} (hz : histE h = 0) (s : isSetB l (h.Writes.length : Int) = true) (c : closB h l = true) : ckcR h l = 0 := by
  unfold ckcR
  rw [if_neg (fun t => t hz), if_neg (by rw [s]; simp), if_neg (by rw [c]; simp)]
def cntL (n : Nat) (p : Nat → Bool) : Nat := ((List.range n).filter p).length
theorem cntL_succ {n : Nat} {p : Nat → Bool} : cntL (n + 1) p = cntL n p + (if p n = true then 1 else 0) := by
  unfold cntL
  rw [filter_range_snoc, List.length_append]
  by_cases q : p n = true
  · rw [if_pos q, if_pos q]; rfl
  · rw [if_neg q, if_neg q]; rfl
theorem cntL_le {n : Nat} {p : Nat → Bool} : cntL n p ≤ n := by
  unfold cntL
  have := List.length_filter_le p (List.range n)
  rw [List.length_range] at this; exact this
theorem cntL_congr {n : Nat} {p q : Nat → Bool} (h : ∀ w, w < n → p w = q w) : cntL n p = cntL n q := by
  unfold cntL
  rw [List.filter_congr fun w hw => h w (List.mem_range.1 hw)]
def akB (h : api_History) (w : Nat) : Bool := decide (0 ≤ atN h.Events h.Events.length ⟨1, (w : Int)⟩)
def ageB (h : api_History) (l : List Int) (w : Nat) : Bool := akB h w && !decide ((w : Int) ∈ l)
def ageR (h : api_History) (l : List Int) : Int × Int := if ckcR h l ≠ 0 then (0, ckcR h l) else ((cntL h.Writes.length (ageB h l) : Int), 0)
theorem ackW_lt {h : api_History} {w : Nat} (hw : w < h.Writes.length) : ix (ackW h) (w : Int) < (h.Events.length : Int) ↔ akB h w = true := by
  unfold ackW akB
  rw [ix_relL hw, decide_eq_true_iff]
  have := atN_top h.Events h.Events.length ⟨1, (w : Int)⟩
  by_cases q : 0 ≤ atN h.Events h.Events.length ⟨1, (w : Int)⟩
  · rw [if_pos q]; exact ⟨fun _ => q, fun _ => this⟩
  · rw [if_neg q]; exact ⟨fun t => by omega, fun t => absurd t q⟩
theorem cut_Age_ok {h : api_History} {l : List Int} {Φ : Int × Int → Prop} (hh : SmallH h) (hl : l.length ≤ 1000000) (hΦ : Φ (ageR h l)) : cut_Age_W h l Φ := by
  have er : ∀ e, e ≠ 0 → ckcR h l = e → Φ (0, e) := fun e n t => by unfold ageR at hΦ; rw [t, if_pos n] at hΦ; exact hΦ
  refine cutAge_all hh (one_lt hl) (fun q => er _ q (by unfold ckcR; rw [if_pos q])) (fun hz j hj q => er 2 (by decide) (ckcR_1 hz hj q)) (fun hz hs j hj q => ⟨fun _ => ⟨fun _ => er 27 (by decide) (ckcR_27 hz hs hj q), fun r => absurd (by decide) r⟩, fun r => absurd rfl r⟩) fun hz hs hc => ⟨fun r => Bool.noConfusion r, fun _ => ⟨fun r => absurd rfl r, fun _ => ?_⟩⟩
  have s : isSetB l (h.Writes.length : Int) = true := hs 0 Nat.one_pos
  have c : closB h l = true := hc 0 Nat.one_pos
  have hw := hist_wr hz
  unfold ageR at hΦ
  rw [ckcR_0 hz s c, if_neg (fun t => t rfl)] at hΦ
  refine LoopW.upT h.Writes.length (fun k => ((cntL k (ageB h l) : Int), (k : Int))) rfl (fun k rec hk hr => ⟨fun _ => ?_, fun r => absurd (show (k : Int) < (h.Writes.length : Int) by omega) r⟩) fun rec => ⟨fun r => absurd r (by show ¬ ((h.Writes.length : Int) < (h.Writes.length : Int)); omega), fun _ => hΦ⟩
  have cl := cntL_le (n := k) (p := ageB h l)
  have go : ∀ b, ageB h l k = b → cut_Age_J7 (cntL k (ageB h l) : Int) (k : Int) rec Φ b := fun b e => by
    refine ⟨fun t => ⟨iI (by omega) (by omega), iI (by omega) (by omega), hr _ ?_⟩, fun t => ⟨iI (by omega) (by omega), hr _ ?_⟩⟩
    · rw [cntL_succ, if_pos (e.trans t)]; rfl
    · rw [cntL_succ, if_neg (by rw [e]; exact t)]; rfl
  have xm : ix (markL h.Writes.length l) (k : Int) = decide ((k : Int) ∈ l) := ix_markL hk
  refine ⟨iX (by omega) (by show (k : Int) < ((ackW h).length : Int); unfold ackW; rw [relL_len]; omega), fun q => ⟨iX (by omega) (by show (0 : Int) < ((1 : Nat) : Int); omega), iX (by omega) (by show (k : Int) < ((markL h.Writes.length l).length : Int); rw [markL_len]; omega), ?_⟩, fun q => go false ?_⟩
  · show cut_Age_J7 _ _ _ _ (decide (¬ (ix (markL h.Writes.length l) (k : Int) = true)))
    refine go _ ?_
    unfold ageB
    rw [(ackW_lt hk).1 q, Bool.true_and, xm]
    cases decide ((k : Int) ∈ l) <;> rfl
  · unfold ageB
    rw [Bool.eq_false_iff.2 fun t => q ((ackW_lt hk).2 t), Bool.false_and]
theorem atN_mono {l : List api_HistoryEvent} {e : api_HistoryEvent} {k : Nat} (h : 0 ≤ atN l k e) : ∀ m, atN l (k + m) e = atN l k e
  | 0 => rfl
  | m + 1 => by
    have ih := atN_mono h m
    rw [show k + (m + 1) = (k + m) + 1 by omega, atN_old (by rw [ih]; exact h), ih]
theorem atN_at {l : List api_HistoryEvent} {e : api_HistoryEvent} {n : Nat} (h : 0 ≤ atN l n e) : ∃ k : Nat, k < n ∧ atN l n e = (k : Int) ∧ ix l (k : Int) = e := by
  rcases idxN_cases (fun k => decide (ix l (k : Int) = e)) n with ⟨h1, _⟩ | ⟨k, hk, h1, h2, _⟩
  · have h1 : atN l n e = -1 := h1
    omega
  · exact ⟨k, hk, h1, of_decide_eq_true h2⟩
theorem ack_issue {h : api_History} (hz : histE h = 0) {a : Int} (q : 0 ≤ atN h.Events h.Events.length ⟨1, a⟩) : 0 ≤ a ∧ a < (h.Writes.length : Int) ∧ atN h.Events h.Events.length ⟨0, a⟩ < atN h.Events h.Events.length ⟨1, a⟩ := by
  obtain ⟨k, hk, e1, e2⟩ := atN_at q
  have hev := hist_ev hz hk
  have nk : ¬ (ix h.Events (k : Int)).Kind = 0 := by rw [e2]; exact fun t => absurd (show (1 : Int) = 0 from t) (by decide)
  obtain ⟨_, h1, h2, _⟩ := evErr_ack hev nk
  rw [e2] at h1 h2
  have h1 : 0 ≤ a := h1
  have h2 : a < (cntI h.Events k : Int) := h2
  have h0 : ∀ j, j < k → evErr h.Events h.Writes.length j = 0 := fun j hj => hist_ev hz (by omega)
  have c := cnt_le h0
  have i1 := (at_issue h0 a).2 ⟨h1, h2⟩
  have i2 := atN_mono i1 (h.Events.length - k)
  rw [show k + (h.Events.length - k) = h.Events.length by omega] at i2
  have i3 := atN_top h.Events k ⟨0, a⟩
  exact ⟨h1, by omega, by rw [i2, e1]; exact i3⟩
def ClosedS (h : api_History) (l : List Int) : Prop := ∀ a b : Nat, a < h.Writes.length → (b : Int) ∈ l → befP h a b = true → (a : Int) ∈ l
theorem closB_iff {h : api_History} (hz : histE h = 0) {l : List Int} (hl : isSetB l (h.Writes.length : Int) = true) : closB h l = true ↔ ClosedS h l := by
  rw [closB_eq hz hl]
  unfold closP
  rw [List.all_eq_true]
  constructor
  · intro t a b ha hb hab
    have := allN_true.1 (t (b : Int) hb) a ha
    rw [Int.toNat_natCast, hab, Bool.not_true, Bool.false_or, decide_eq_true_iff] at this
    exact this
  · intro t x hx
    have m := isSetB_mem hl hx
    have e : ((x.toNat : Nat) : Int) = x := Int.toNat_of_nonneg m.1
    refine allN_true.2 fun a ha => ?_
    cases q : befP h a x.toNat with
    | false => rfl
    | true => rw [decide_eq_true (t a x.toNat ha (by rw [e]; exact hx) q)]; rfl
theorem ckcR_ok {h : api_History} (hz : histE h = 0) {l : List Int} (hl : isSetB l (h.Writes.length : Int) = true) (cl : ClosedS h l) : ckcR h l = 0 := ckcR_0 hz hl ((closB_iff hz hl).2 cl)
theorem befP_iss {h : api_History} (hz : histE h = 0) {a b : Nat} (q : befP h a b = true) : atN h.Events h.Events.length ⟨0, (a : Int)⟩ < atN h.Events h.Events.length ⟨0, (b : Int)⟩ := by
  unfold befP at q
  rw [decide_eq_true_iff] at q
  have := (ack_issue hz q.1).2.2
  omega
theorem law16_few_ok {h : api_History} {L : List (List Int)} {Φ : Bool → Prop} (hL : L.length ≤ 100) (hF : Φ false) (hT : SmallH h → h.Writes.length ≤ 40 → h.Events.length ≤ 90 → (∀ x ∈ L, x.length ≤ 60) → Φ true) : law16_few_W h L Φ := by
  refine ref15_Few_ok ⟨fun t => ?_, fun _ => hF⟩
  have hs := fewH_small t
  have he : h.Events.length ≤ 90 := by
    unfold fewH at t
    rw [Bool.and_eq_true, decide_eq_true_iff] at t
    exact t.1.2.2
  refine LoopW.upI L.length (fun k => (k : Int)) (fun k => ∀ j, j < k → (ix L (j : Int)).length ≤ 60) rfl (fun j hj => absurd hj (Nat.not_lt_zero j)) (fun k rec hk hI hr => ⟨fun hlt => ⟨iX (by omega) hlt, fun t => ?_, fun t => ⟨iI (by omega) (by omega), hr (fun j hj => ?_) _ rfl⟩⟩, fun r => absurd (show (k : Int) < (L.length : Int) by omega) r⟩) fun rec hI => ⟨fun r => absurd r (by omega), fun _ => ?_⟩
  · rw [decide_eq_false (show ¬ ¬ (0 : Int) ≤ (k : Int) by omega)]; exact hF
  · rcases Nat.lt_or_ge j k with c | c
    · exact hI j c
    · obtain rfl : j = k := by omega
      rw [decide_eq_true_iff] at t; omega
  · rw [show decide (¬ (0 : Int) ≤ -1) = true by decide]
    refine hT hs.1 hs.2 he fun x hx => ?_
    obtain ⟨k, hk, e⟩ := List.getElem_of_mem hx
    have := hI k hk
    rw [ix_get hk, e] at this; exact this
def orK {S R : Type} (a : S → Prop) (b : R → Prop) : S ⊕ R → Prop
  | .inl s => a s
  | .inr r => b r
def loopS {S R : Type} (step : S → Option (S ⊕ R)) : Nat → S → Option R
  | 0, _ => none
  | n + 1, s => match step s with
    | none => none
    | some (.inl s') => loopS step n s'
    | some (.inr r) => some r
theorem LoopW.of_S {S R : Type} {step : S → (S → Prop) → Prop} {stepS : S → Option (S ⊕ R)} {K : R → Prop} (hs : ∀ s q rec, stepS s = some q → orK rec K q → step s rec) : ∀ (n : Nat) (s : S) {o : R}, loopS stepS n s = some o → K o → LoopW step s := by
  intro n s o h hK
  refine ⟨n, ?_⟩
  induction n generalizing s with
  | zero => cases h
  | succ n ih =>
    unfold loopS at h
    split at h
    · cases h
    · rename_i s' e
      exact hs s _ _ e (ih s' h)
    · rename_i r e
      cases h
      exact hs s _ _ e hK
theorem ofBind {α β : Type} {x : Option α} {f : α → Option β} {o : β} (h : Option.bind x f = some o) : ∃ v, x = some v ∧ f v = some o := Option.bind_eq_some_iff.1 h
theorem ofIf {α : Type} {p : Prop} [Decidable p] {x : Option α} {o : α} (h : (if p then x else none) = some o) : p ∧ x = some o := by
  by_cases hp : p
  · rw [if_pos hp] at h; exact ⟨hp, h⟩
  · rw [if_neg hp] at h; cases h
theorem ofT {α : Type} {p : Prop} [Decidable p] {x y : Option α} {o : α} (hp : p) (h : (if p then x else y) = some o) : x = some o := by rw [if_pos hp] at h; exact h
theorem ofF {α : Type} {p : Prop} [Decidable p] {x y : Option α} {o : α} (hp : ¬ p) (h : (if p then x else y) = some o) : y = some o := by rw [if_neg hp] at h; exact h
def bothS {α : Type} [DecidableEq α] (b : Bool) (x y : Option α) : Option α := if b = true then (if x = y then x else none) else y
theorem ofBoth {α : Type} [DecidableEq α] {b : Bool} {x y : Option α} {o : α} (h : bothS b x y = some o) : (b = true → x = some o) ∧ y = some o := by
  unfold bothS at h
  by_cases hb : b = true
  · rw [if_pos hb] at h
    by_cases he : x = y
    · rw [if_pos he] at h; exact ⟨fun _ => h, he ▸ h⟩
    · rw [if_neg he] at h; cases h
  · rw [if_neg hb] at h; exact ⟨fun q => absurd q hb, h⟩
theorem lfS {α : Type} {K : α → Prop} {a o : α} (h : some a = some o) (hK : K o) : K a := by
  cases h; exact hK
theorem adS {α : Type} {p : Prop} [Decidable p] {x : Option α} {o : α} {B : Prop} (h : (if p then x else none) = some o) (b : x = some o → B) : p ∧ B := ⟨(ofIf h).1, b (ofIf h).2⟩
theorem ifS {α : Type} {p : Prop} [Decidable p] {x y : Option α} {o : α} {A B : Prop} (h : (if p then x else y) = some o) (a : x = some o → A) (b : y = some o → B) : (p → A) ∧ (¬ p → B) := ⟨fun c => a (ofT c h), fun c => b (ofF c h)⟩
theorem mpS {α β : Type} {g : α → β} {x : Option α} {o : β} {G : Prop} (h : Option.map g x = some o) (k : ∀ v, x = some v → g v = o → G) : G := by
  obtain ⟨v, h1, h2⟩ := Option.map_eq_some_iff.1 h
  exact k v h1 h2
theorem blS {α β : Type} {x : Option α} {f : α → Option β} {o : β} {G : Prop} (h : Option.bind x f = some o) (k : ∀ v, x = some v → f v = some o → G) : G := by
  obtain ⟨v, h1, h2⟩ := ofBind h
  exact k v h1 h2
instance decI (x : Int) : Decidable (inI x) := inferInstanceAs (Decidable (_ ∧ _))
instance decX (i : Int) (n : Nat) : Decidable (inX i n) := inferInstanceAs (Decidable (_ ∧ _))
instance decS (a b : Int) (n : Nat) : Decidable (inS a b n) := inferInstanceAs (Decidable (_ ∧ _))
instance decL (n b : Nat) : Decidable (lenOk n b) := inferInstanceAs (Decidable (_ ∧ _))
theorem nl2S {α : Type} [DecidableEq α] {p : Prop} [Decidable p] {x y : Option α} {o : α} {A B : Prop} (h : bothS (decide p) x y = some o) (a : x = some o → A) (b : y = some o → B) : (p → A) ∧ B := ⟨fun c => a ((ofBoth h).1 (decide_eq_true c)), b (ofBoth h).2⟩
theorem joinI {α : Type} {F : α → Prop} {G : (α → Prop) → Prop} (h : G F) : Join F G := h
def genS {S Y R : Type} (step : S → Option (List Y × (S ⊕ R))) : Nat → S → Option (List Y × R)
  | 0, _ => none
  | n + 1, s => match step s with
    | none => none
    | some (ys, .inr o) => some (ys, o)
    | some (ys, .inl s') => (genS step n s').map fun q => (ys ++ q.1, q.2)
theorem LoopW.of_G {S Y R : Type} {step : (List Y × S) → ((List Y × S) → Prop) → Prop} {stepS : S → Option (List Y × (S ⊕ R))} {K : List Y → R → Prop} (hs : ∀ s ys q r rec, stepS s = some (ys, q) → orK (fun s => rec (r, s)) (K r) q → step (ys ++ r, s) rec) : ∀ (n : Nat) (s : S) {ys : List Y} {o : R} (r : List Y), genS stepS n s = some (ys, o) → K r o → LoopW step (ys ++ r, s) := by
  intro n s ys o r h hK
  refine ⟨n, ?_⟩
  induction n generalizing s ys with
  | zero => cases h
  | succ n ih =>
    unfold genS at h
    split at h
    · cases h
    · rename_i ys o e
      cases h
      exact hs s _ _ _ (LoopN step n) e hK
    · rename_i ys s' e
      obtain ⟨v, h1, h2⟩ := Option.map_eq_some_iff.1 h
      cases h2
      rw [List.append_assoc]
      exact hs s _ _ _ (LoopN step n) e (show LoopN step n (v.1 ++ r, s') from ih s' h1)
def law16_example_1_S (x0 : Int) : Option (api_Write) :=
  if inI (x0 + 1) then
  some ((api_Write.mk 0 x0 ([(Sec.mk (BitVec.ofInt 8 (x0 + 1)) (0#8) (0#8) (0#8) (0#8) (0#8) (0#8) (0#8))] : List Sec)))
  else none
theorem law16_example_1_sound (x0 : Int) {Φ : api_Write → Prop} {o} (h : law16_example_1_S x0 = some o) (hK : Φ o) : law16_example_1_W x0 Φ := by
  unfold law16_example_1_S at h
  unfold law16_example_1_W
  exact adS h fun h => have t := lfS h hK; t
def law16_example_2_S (x0 : Int) : Option (api_HistoryEvent) :=
  some ((api_HistoryEvent.mk 0 x0))
theorem law16_example_2_sound (x0 : Int) {Φ : api_HistoryEvent → Prop} {o} (h : law16_example_2_S x0 = some o) (hK : Φ o) : law16_example_2_W x0 Φ := by
  unfold law16_example_2_S at h
  unfold law16_example_2_W
  exact have t := lfS h hK; t
def law16_example_3_S (x0 : Int) : Option (api_HistoryEvent) :=
  some ((api_HistoryEvent.mk 1 x0))
theorem law16_example_3_sound (x0 : Int) {Φ : api_HistoryEvent → Prop} {o} (h : law16_example_3_S x0 = some o) (hK : Φ o) : law16_example_3_W x0 Φ := by
  unfold law16_example_3_S at h
  unfold law16_example_3_W
  exact have t := lfS h hK; t
def law16_example_S : Option (api_History) :=
  Option.bind (law16_example_1_S 0) fun v1 =>
  Option.bind (law16_example_1_S 1) fun v2 =>
  Option.bind (law16_example_1_S 2) fun v3 =>
  Option.bind (law16_example_2_S 0) fun v4 =>
  Option.bind (law16_example_2_S 1) fun v5 =>
  Option.bind (law16_example_3_S 0) fun v6 =>
  Option.bind (law16_example_2_S 2) fun v7 =>
  Option.bind (law16_example_3_S 2) fun v8 =>
  some ((api_History.mk ([3] : List Int) ([v1, v2, v3] : List api_Write) ([v4, v5, v6, v7, v8] : List api_HistoryEvent)))
theorem law16_example_sound {Φ : api_History → Prop} {o} (h : law16_example_S = some o) (hK : Φ o) : law16_example_W Φ := by
  unfold law16_example_S at h
  unfold law16_example_W
  exact blS h fun _ hv h => law16_example_1_sound _ hv (blS h fun _ hv h => law16_example_1_sound _ hv (blS h fun _ hv h => law16_example_1_sound _ hv (blS h fun _ hv h => law16_example_2_sound _ hv (blS h fun _ hv h => law16_example_2_sound _ hv (blS h fun _ hv h => law16_example_3_sound _ hv (blS h fun _ hv h => law16_example_2_sound _ hv (blS h fun _ hv h => law16_example_3_sound _ hv (have t := lfS h hK; t))))))))
def image_checkSizes_1_S (x0 : Int) : Option (Bool) :=
  if x0 < 1 then
    some (true)
  else
    some (decide (4096 < x0))
theorem image_checkSizes_1_sound (x0 : Int) {Φ : Bool → Prop} {o} (h : image_checkSizes_1_S x0 = some o) (hK : Φ o) : image_checkSizes_1_W x0 Φ := by
  unfold image_checkSizes_1_S at h
  unfold image_checkSizes_1_W
  exact ifS h (fun h => have t := lfS h hK; t) fun h => have t := lfS h hK; t
def image_checkSizes_L1_S (x0 : List Int) : (Int) → Option ((Int) ⊕ (Int))
  | v1 =>
    if v1 < (x0.length : Int) then
      if inX v1 x0.length then
      Option.bind (image_checkSizes_1_S (ix x0 v1)) fun v2 =>
      if v2 = true then
        if 0 ≤ v1 then
          some (.inr 2)
        else
          some (.inr 0)
      else
        if inI (v1 + 1) then
        some (.inl (v1 + 1))
        else none
      else none
    else
      if 0 ≤ ((-1) : Int) then
        some (.inr 2)
      else
        some (.inr 0)
theorem image_checkSizes_L1_sound (x0 : List Int) (s : Int) {Φ : Int → Prop} {rec1 : (Int) → Prop} {o} (h : image_checkSizes_L1_S x0 s = some o) (hK : (orK rec1 Φ) o) : image_checkSizes_L1 x0 Φ s rec1 := by
  unfold image_checkSizes_L1_S at h
  unfold image_checkSizes_L1
  exact ifS h (fun h => adS h fun h => blS h fun _ hv h => image_checkSizes_1_sound _ hv (ifS h (fun h => ifS h (fun h => have t := lfS h hK; t) fun h => have t := lfS h hK; t) fun h => adS h fun h => have t := lfS h hK; t)) fun h => ifS h (fun h => have t := lfS h hK; t) fun h => have t := lfS h hK; t
def image_checkSizes_S (x0 : List Int) : Option (Int) :=
  if (x0.length : Int) < 1 then
    some (6)
  else
    if 8 < (x0.length : Int) then
      some (6)
    else
      loopS (image_checkSizes_L1_S x0) 100000 0
theorem image_checkSizes_sound (x0 : List Int) {Φ : Int → Prop} {o} (h : image_checkSizes_S x0 = some o) (hK : Φ o) : image_checkSizes_W x0 Φ := by
  unfold image_checkSizes_S at h
  unfold image_checkSizes_W
  exact ifS h (fun h => have t := lfS h hK; t) fun h => ifS h (fun h => have t := lfS h hK; t) fun h => LoopW.of_S (fun s q rec hs hq => image_checkSizes_L1_sound _ s hs hq) _ _ h hK
def image_New_1_S (x0 : Int) : Option (List Sec) :=
  if 0 ≤ x0 then
  if lenOk x0.toNat 8 then
  some ((List.replicate x0.toNat (sec0 : Sec)))
  else none
  else none
theorem image_New_1_sound (x0 : Int) {Φ : List Sec → Prop} {o} (h : image_New_1_S x0 = some o) (hK : Φ o) : image_New_1_W x0 Φ := by
  unfold image_New_1_S at h
  unfold image_New_1_W
  exact adS h fun h => adS h fun h => have t := lfS h hK; t
def image_New_L1_S (x0 : List Int) : (Int × List (List Sec)) → Option ((Int × List (List Sec)) ⊕ (List (List Sec) × Int))
  | (v2, v3) =>
    if v2 < (x0.length : Int) then
      if inX v2 x0.length then
      Option.bind (image_New_1_S (ix x0 v2)) fun v4 =>
      if lenOk (v3 ++ ([v4] : List (List Sec))).length 24 then
      if inI (v2 + 1) then
      some (.inl ((v2 + 1), (v3 ++ ([v4] : List (List Sec)))))
      else none
      else none
      else none
    else
      some (.inr (v3, 0))
theorem image_New_L1_sound (x0 : List Int) (s : Int × List (List Sec)) {Φ : List (List Sec) × Int → Prop} {rec1 : (Int × List (List Sec)) → Prop} {o} (h : image_New_L1_S x0 s = some o) (hK : (orK rec1 Φ) o) : image_New_L1 x0 Φ s rec1 := by
  obtain ⟨v2, v3⟩ := s
  unfold image_New_L1_S at h
  unfold image_New_L1
  exact ifS h (fun h => adS h fun h => blS h fun _ hv h => image_New_1_sound _ hv (adS h fun h => adS h fun h => have t := lfS h hK; t)) fun h => have t := lfS h hK; t
def image_New_S (x0 : List Int) : Option (List (List Sec) × Int) :=
  Option.bind (image_checkSizes_S x0) fun v1 =>
  if v1 ≠ 0 then
    some ((([] : List (List Sec)), v1))
  else
    if 0 ≤ (x0.length : Int) then
    if lenOk (x0.length : Int).toNat 24 then
    loopS (image_New_L1_S x0) 100000 (0, ([] : List (List Sec)))
    else none
    else none
theorem image_New_sound (x0 : List Int) {Φ : List (List Sec) × Int → Prop} {o} (h : image_New_S x0 = some o) (hK : Φ o) : image_New_W x0 Φ := by
  unfold image_New_S at h
  unfold image_New_W
  exact blS h fun _ hv h => image_checkSizes_sound _ hv (ifS h (fun h => have t := lfS h hK; t) fun h => adS h fun h => adS h fun h => LoopW.of_S (fun s q rec hs hq => image_New_L1_sound _ s hs hq) _ _ h hK)
def image_sizes_1_S (x0 : List Sec) : Option (Int) :=
  some ((x0.length : Int))
theorem image_sizes_1_sound (x0 : List Sec) {Φ : Int → Prop} {o} (h : image_sizes_1_S x0 = some o) (hK : Φ o) : image_sizes_1_W x0 Φ := by
  unfold image_sizes_1_S at h
  unfold image_sizes_1_W
  exact have t := lfS h hK; t
def image_sizes_L1_S (x0 : List (List Sec)) : (Int × List Int) → Option ((Int × List Int) ⊕ (List Int))
  | (v1, v2) =>
    if v1 < (x0.length : Int) then
      if inX v1 x0.length then
      Option.bind (image_sizes_1_S (ix x0 v1)) fun v3 =>
      if lenOk (v2 ++ ([v3] : List Int)).length 8 then
      if inI (v1 + 1) then
      some (.inl ((v1 + 1), (v2 ++ ([v3] : List Int))))
      else none
      else none
      else none
    else
      some (.inr v2)
theorem image_sizes_L1_sound (x0 : List (List Sec)) (s : Int × List Int) {Φ : List Int → Prop} {rec1 : (Int × List Int) → Prop} {o} (h : image_sizes_L1_S x0 s = some o) (hK : (orK rec1 Φ) o) : image_sizes_L1 x0 Φ s rec1 := by
  obtain ⟨v1, v2⟩ := s
  unfold image_sizes_L1_S at h
  unfold image_sizes_L1
  exact ifS h (fun h => adS h fun h => blS h fun _ hv h => image_sizes_1_sound _ hv (adS h fun h => adS h fun h => have t := lfS h hK; t)) fun h => have t := lfS h hK; t
def image_sizes_S (x0 : List (List Sec)) : Option (List Int) :=
  if 0 ≤ (x0.length : Int) then
  if lenOk (x0.length : Int).toNat 8 then
  loopS (image_sizes_L1_S x0) 100000 (0, ([] : List Int))
  else none
  else none
theorem image_sizes_sound (x0 : List (List Sec)) {Φ : List Int → Prop} {o} (h : image_sizes_S x0 = some o) (hK : Φ o) : image_sizes_W x0 Φ := by
  unfold image_sizes_S at h
  unfold image_sizes_W
  exact adS h fun h => adS h fun h => LoopW.of_S (fun s q rec hs hq => image_sizes_L1_sound _ s hs hq) _ _ h hK
def image_Check_S (x0 : List (List Sec)) : Option (Int) :=
  Option.bind (image_sizes_S x0) fun v1 =>
  Option.bind (image_checkSizes_S v1) fun v2 =>
  some (v2)
theorem image_Check_sound (x0 : List (List Sec)) {Φ : Int → Prop} {o} (h : image_Check_S x0 = some o) (hK : Φ o) : image_Check_W x0 Φ := by
  unfold image_Check_S at h
  unfold image_Check_W
  exact blS h fun _ hv h => image_sizes_sound _ hv (blS h fun _ hv h => image_checkSizes_sound _ hv (have t := lfS h hK; t))
def image_fits_J1_S (x0 : List (List Sec)) (x1 : api_Write) : (Bool) → Option (Int)
  | v1 =>
    if v1 = true then
      some (7)
    else
      if (x1.Data.length : Int) = 0 then
        some (1)
      else
        if x1.Start < 0 then
          some (2)
        else
          if inX x1.Volume x0.length then
          if inI (((ix x0 x1.Volume).length : Int) - (x1.Data.length : Int)) then
          if (((ix x0 x1.Volume).length : Int) - (x1.Data.length : Int)) < x1.Start then
            some (2)
          else
            some (0)
          else none
          else none
theorem image_fits_J1_sound (x0 : List (List Sec)) (x1 : api_Write) (s : Bool) {Φ : Int → Prop} {o} (h : image_fits_J1_S x0 x1 s = some o) (hK : Φ o) : image_fits_J1 x0 x1 Φ s := by
  unfold image_fits_J1_S at h
  unfold image_fits_J1
  exact ifS h (fun h => have t := lfS h hK; t) fun h => ifS h (fun h => have t := lfS h hK; t) fun h => ifS h (fun h => have t := lfS h hK; t) fun h => adS h fun h => adS h fun h => ifS h (fun h => have t := lfS h hK; t) fun h => have t := lfS h hK; t
def image_fits_S (x0 : List (List Sec)) (x1 : api_Write) : Option (Int) :=
  if x1.Volume < 0 then
    image_fits_J1_S x0 x1 true
  else
    image_fits_J1_S x0 x1 (decide ((x0.length : Int) ≤ x1.Volume))
theorem image_fits_sound (x0 : List (List Sec)) (x1 : api_Write) {Φ : Int → Prop} {o} (h : image_fits_S x0 x1 = some o) (hK : Φ o) : image_fits_W x0 x1 Φ := by
  unfold image_fits_S at h
  unfold image_fits_W
  exact ifS h (fun h => image_fits_J1_sound _ _ _ h hK) fun h => image_fits_J1_sound _ _ _ h hK
def image_Fits_S (x0 : List (List Sec)) (x1 : api_Write) : Option (Int) :=
  Option.bind (image_Check_S x0) fun v1 =>
  if v1 ≠ 0 then
    some (v1)
  else
    Option.bind (image_fits_S x0 x1) fun v2 =>
    some (v2)
theorem image_Fits_sound (x0 : List (List Sec)) (x1 : api_Write) {Φ : Int → Prop} {o} (h : image_Fits_S x0 x1 = some o) (hK : Φ o) : image_Fits_W x0 x1 Φ := by
  unfold image_Fits_S at h
  unfold image_Fits_W
  exact blS h fun _ hv h => image_Check_sound _ hv (ifS h (fun h => have t := lfS h hK; t) fun h => blS h fun _ hv h => image_fits_sound _ _ hv (have t := lfS h hK; t))
def history_check_J3_S (v4 : Int) : (Int × List Int × List Int) → Option ((Int × List Int × List Int) ⊕ ((Int) ⊕ (history_checked × Int)))
  | (v7, v8, v9) =>
    if v7 ≠ 0 then
      some (.inr (.inr ((history_checked.mk (api_History.mk ([] : List Int) ([] : List api_Write) ([] : List api_HistoryEvent)) (history_timeline.mk ([] : List Int) ([] : List Int))), v7)))
    else
      if inI (v4 + 1) then
      some (.inl ((v4 + 1), v8, v9))
      else none
theorem history_check_J3_sound (v4 : Int) (s : Int × List Int × List Int) {Φ : history_checked × Int → Prop} {rec1 : (Int) → Prop} {rec2 : (Int × List Int × List Int) → Prop} {o} (h : history_check_J3_S v4 s = some o) (hK : (orK rec2 (orK rec1 Φ)) o) : history_check_J3 v4 rec2 Φ s := by
  obtain ⟨v7, v8, v9⟩ := s
  unfold history_check_J3_S at h
  unfold history_check_J3
  exact ifS h (fun h => have t := lfS h hK; t) fun h => adS h fun h => have t := lfS h hK; t
def history_check_L2_S (x0 : api_History) : (Int × List Int × List Int) → Option ((Int × List Int × List Int) ⊕ ((Int) ⊕ (history_checked × Int)))
  | (v4, v5, v6) =>
    if v4 < (x0.Events.length : Int) then
      if inX v4 x0.Events.length then
      if ((ix x0.Events v4).Kind) = 0 then
        if ((ix x0.Events v4).Write) ≠ (v5.length : Int) then
          history_check_J3_S v4 (3, v5, v6)
        else
          if (x0.Writes.length : Int) ≤ ((ix x0.Events v4).Write) then
            history_check_J3_S v4 (3, v5, v6)
          else
            if lenOk (v5 ++ ([v4] : List Int)).length 8 then
            if lenOk (v6 ++ ([(-1)] : List Int)).length 8 then
            history_check_J3_S v4 (0, (v5 ++ ([v4] : List Int)), (v6 ++ ([(-1)] : List Int)))
            else none
            else none
      else
        if ((ix x0.Events v4).Kind) = 1 then
          if ((ix x0.Events v4).Write) < 0 then
            history_check_J3_S v4 (7, v5, v6)
          else
            if (v5.length : Int) ≤ ((ix x0.Events v4).Write) then
              history_check_J3_S v4 (7, v5, v6)
            else
              if inX ((ix x0.Events v4).Write) v6.length then
              if 0 ≤ (ix v6 ((ix x0.Events v4).Write)) then
                history_check_J3_S v4 (8, v5, v6)
              else
                if inX ((ix x0.Events v4).Write) v6.length then
                history_check_J3_S v4 (0, v5, (put v6 ((ix x0.Events v4).Write) v4))
                else none
              else none
        else
          history_check_J3_S v4 (3, v5, v6)
      else none
    else
      if (v5.length : Int) < (x0.Writes.length : Int) then
        some (.inr (.inr ((history_checked.mk (api_History.mk ([] : List Int) ([] : List api_Write) ([] : List api_HistoryEvent)) (history_timeline.mk ([] : List Int) ([] : List Int))), 3)))
      else
        some (.inr (.inr ((history_checked.mk x0 (history_timeline.mk v5 v6)), 0)))
theorem history_check_L2_sound (x0 : api_History) (s : Int × List Int × List Int) {Φ : history_checked × Int → Prop} {rec1 : (Int) → Prop} {rec2 : (Int × List Int × List Int) → Prop} {o} (h : history_check_L2_S x0 s = some o) (hK : (orK rec2 (orK rec1 Φ)) o) : history_check_L2 x0 Φ s rec2 := by
  obtain ⟨v4, v5, v6⟩ := s
  unfold history_check_L2_S at h
  unfold history_check_L2
  exact ifS h (fun h => adS h fun h => ifS h (fun h => ifS h (fun h => history_check_J3_sound _ _ h hK) fun h => ifS h (fun h => history_check_J3_sound _ _ h hK) fun h => adS h fun h => adS h fun h => history_check_J3_sound _ _ h hK) fun h => ifS h (fun h => ifS h (fun h => history_check_J3_sound _ _ h hK) fun h => ifS h (fun h => history_check_J3_sound _ _ h hK) fun h => adS h fun h => ifS h (fun h => history_check_J3_sound _ _ h hK) fun h => adS h fun h => history_check_J3_sound _ _ h hK) fun h => history_check_J3_sound _ _ h hK) fun h => ifS h (fun h => have t := lfS h hK; t) fun h => have t := lfS h hK; t
def history_check_L1_S (x0 : api_History) (v1 : List (List Sec) × Int) : (Int) → Option ((Int) ⊕ (history_checked × Int))
  | v2 =>
    if v2 < (x0.Writes.length : Int) then
      if inX v2 x0.Writes.length then
      Option.bind (image_Fits_S v1.1 (ix x0.Writes v2)) fun v3 =>
      if v3 ≠ 0 then
        some (.inr ((history_checked.mk (api_History.mk ([] : List Int) ([] : List api_Write) ([] : List api_HistoryEvent)) (history_timeline.mk ([] : List Int) ([] : List Int))), v3))
      else
        if inI (v2 + 1) then
        some (.inl (v2 + 1))
        else none
      else none
    else
      loopS (history_check_L2_S x0) 100000 (0, ([] : List Int), ([] : List Int))
theorem history_check_L1_sound (x0 : api_History) (v1 : List (List Sec) × Int) (s : Int) {Φ : history_checked × Int → Prop} {rec1 : (Int) → Prop} {o} (h : history_check_L1_S x0 v1 s = some o) (hK : (orK rec1 Φ) o) : history_check_L1 x0 v1 Φ s rec1 := by
  unfold history_check_L1_S at h
  unfold history_check_L1
  exact ifS h (fun h => adS h fun h => blS h fun _ hv h => image_Fits_sound _ _ hv (ifS h (fun h => have t := lfS h hK; t) fun h => adS h fun h => have t := lfS h hK; t)) fun h => LoopW.of_S (fun s q rec hs hq => history_check_L2_sound _ s hs hq) _ _ h hK
def history_check_S (x0 : api_History) : Option (history_checked × Int) :=
  Option.bind (image_New_S x0.Sizes) fun v1 =>
  if v1.2 ≠ 0 then
    some (((history_checked.mk (api_History.mk ([] : List Int) ([] : List api_Write) ([] : List api_HistoryEvent)) (history_timeline.mk ([] : List Int) ([] : List Int))), v1.2))
  else
    if 4096 < (x0.Writes.length : Int) then
      some (((history_checked.mk (api_History.mk ([] : List Int) ([] : List api_Write) ([] : List api_HistoryEvent)) (history_timeline.mk ([] : List Int) ([] : List Int))), 6))
    else
      loopS (history_check_L1_S x0 v1) 100000 0
theorem history_check_sound (x0 : api_History) {Φ : history_checked × Int → Prop} {o} (h : history_check_S x0 = some o) (hK : Φ o) : history_check_W x0 Φ := by
  unfold history_check_S at h
  unfold history_check_W
  exact blS h fun _ hv h => image_New_sound _ hv (ifS h (fun h => have t := lfS h hK; t) fun h => ifS h (fun h => have t := lfS h hK; t) fun h => LoopW.of_S (fun s q rec hs hq => history_check_L1_sound _ _ s hs hq) _ _ h hK)
def history_Check_S (x0 : api_History) : Option (Int) :=
  Option.bind (history_check_S x0) fun v1 =>
  some (v1.2)
theorem history_Check_sound (x0 : api_History) {Φ : Int → Prop} {o} (h : history_Check_S x0 = some o) (hK : Φ o) : history_Check_W x0 Φ := by
  unfold history_Check_S at h
  unfold history_Check_W
  exact blS h fun _ hv h => history_check_sound _ hv (have t := lfS h hK; t)
def math_bits_Mul64_S (x0 : BitVec 64) (x1 : BitVec 64) : Option (BitVec 64 × BitVec 64) :=
  some ((((((x0 >>> ((32#64).toNat : Int).toNat) * (x1 >>> ((32#64).toNat : Int).toNat)) + ((((x0 >>> ((32#64).toNat : Int).toNat) * (x1 &&& (4294967295#64))) + (((x0 &&& (4294967295#64)) * (x1 &&& (4294967295#64))) >>> ((32#64).toNat : Int).toNat)) >>> ((32#64).toNat : Int).toNat)) + ((((((x0 >>> ((32#64).toNat : Int).toNat) * (x1 &&& (4294967295#64))) + (((x0 &&& (4294967295#64)) * (x1 &&& (4294967295#64))) >>> ((32#64).toNat : Int).toNat)) &&& (4294967295#64)) + ((x0 &&& (4294967295#64)) * (x1 >>> ((32#64).toNat : Int).toNat))) >>> ((32#64).toNat : Int).toNat)), (x0 * x1)))
theorem math_bits_Mul64_sound (x0 : BitVec 64) (x1 : BitVec 64) {Φ : BitVec 64 × BitVec 64 → Prop} {o} (h : math_bits_Mul64_S x0 x1 = some o) (hK : Φ o) : math_bits_Mul64_W x0 x1 Φ := by
  unfold math_bits_Mul64_S at h
  unfold math_bits_Mul64_W
  exact have t := lfS h hK; t
def math_bits_Mul_S (x0 : BitVec 64) (x1 : BitVec 64) : Option (BitVec 64 × BitVec 64) :=
  Option.bind (math_bits_Mul64_S x0 x1) fun v1 =>
  some ((v1.1, v1.2))
theorem math_bits_Mul_sound (x0 : BitVec 64) (x1 : BitVec 64) {Φ : BitVec 64 × BitVec 64 → Prop} {o} (h : math_bits_Mul_S x0 x1 = some o) (hK : Φ o) : math_bits_Mul_W x0 x1 Φ := by
  unfold math_bits_Mul_S at h
  unfold math_bits_Mul_W
  exact blS h fun _ hv h => math_bits_Mul64_sound _ _ hv (have t := lfS h hK; t)
def slices_Repeat_int_int_L2_S : (Int × List Int) → Option ((Int × List Int) ⊕ (List Int))
  | (v3, v4) =>
    if v3 < (v4.length : Int) then
      if inS v3 (v4.length : Int) v4.length then
      if inS 0 v3 v4.length then
      if inI (v3 + ((min (sub v4 0 v3).length (v4.length - (v3 : Int).toNat) : Nat) : Int)) then
      some (.inl ((v3 + ((min (sub v4 0 v3).length (v4.length - (v3 : Int).toNat) : Nat) : Int)), (paste v4 v3 (sub v4 0 v3))))
      else none
      else none
      else none
    else
      some (.inr v4)
theorem slices_Repeat_int_int_L2_sound (s : Int × List Int) {Φ : List Int → Prop} {rec2 : (Int × List Int) → Prop} {o} (h : slices_Repeat_int_int_L2_S s = some o) (hK : (orK rec2 Φ) o) : slices_Repeat_int_int_L2 Φ s rec2 := by
  obtain ⟨v3, v4⟩ := s
  unfold slices_Repeat_int_int_L2_S at h
  unfold slices_Repeat_int_int_L2
  exact ifS h (fun h => adS h fun h => adS h fun h => adS h fun h => have t := lfS h hK; t) fun h => have t := lfS h hK; t
def slices_Repeat_int_int_J1_S (x0 : List Int) (v1 : BitVec 64 × BitVec 64) : (Bool) → Option (List Int)
  | v2 =>
    if v2 = true then
      none
    else
      if 0 ≤ v1.2.toInt then
      if lenOk v1.2.toInt.toNat 8 then
      loopS (slices_Repeat_int_int_L2_S) 100000 (((min x0.length ((List.replicate v1.2.toInt.toNat (0 : Int)).length - (0 : Int).toNat) : Nat) : Int), (paste (List.replicate v1.2.toInt.toNat (0 : Int)) 0 x0))
      else none
      else none
theorem slices_Repeat_int_int_J1_sound (x0 : List Int) (v1 : BitVec 64 × BitVec 64) (s : Bool) {Φ : List Int → Prop} {o} (h : slices_Repeat_int_int_J1_S x0 v1 s = some o) (hK : Φ o) : slices_Repeat_int_int_J1 x0 v1 Φ s := by
  unfold slices_Repeat_int_int_J1_S at h
  unfold slices_Repeat_int_int_J1
  exact ifS h (fun h => (by cases h)) fun h => adS h fun h => adS h fun h => LoopW.of_S (fun s q rec hs hq => slices_Repeat_int_int_L2_sound s hs hq) _ _ h hK
def slices_Repeat_int_int_S (x0 : List Int) (x1 : Int) : Option (List Int) :=
  if x1 < 0 then
    none
  else
    Option.bind (math_bits_Mul_S (BitVec.ofInt 64 (x0.length : Int)) (BitVec.ofInt 64 x1)) fun v1 =>
    if (0#64) < v1.1 then
      slices_Repeat_int_int_J1_S x0 v1 true
    else
      slices_Repeat_int_int_J1_S x0 v1 (decide ((9223372036854775807#64) < v1.2))
theorem slices_Repeat_int_int_sound (x0 : List Int) (x1 : Int) {Φ : List Int → Prop} {o} (h : slices_Repeat_int_int_S x0 x1 = some o) (hK : Φ o) : slices_Repeat_int_int_W x0 x1 Φ := by
  unfold slices_Repeat_int_int_S at h
  unfold slices_Repeat_int_int_W
  exact ifS h (fun h => (by cases h)) fun h => blS h fun _ hv h => math_bits_Mul_sound _ _ hv (ifS h (fun h => slices_Repeat_int_int_J1_sound _ _ _ h hK) fun h => slices_Repeat_int_int_J1_sound _ _ _ h hK)
def cut_relation_mark_J2_S (x1 : List Int) (v1 : Int) (v2 : List Bool) : (Bool) → Option ((Int × List Bool) ⊕ (List Bool × Bool))
  | v3 =>
    if v3 = true then
      some (.inr (([] : List Bool), false))
    else
      if inX (ix x1 v1) v2.length then
      if inI (v1 + 1) then
      some (.inl ((v1 + 1), (put v2 (ix x1 v1) true)))
      else none
      else none
theorem cut_relation_mark_J2_sound (x1 : List Int) (v1 : Int) (v2 : List Bool) (s : Bool) {Φ : List Bool × Bool → Prop} {rec1 : (Int × List Bool) → Prop} {o} (h : cut_relation_mark_J2_S x1 v1 v2 s = some o) (hK : (orK rec1 Φ) o) : cut_relation_mark_J2 x1 v1 v2 rec1 Φ s := by
  unfold cut_relation_mark_J2_S at h
  unfold cut_relation_mark_J2
  exact ifS h (fun h => have t := lfS h hK; t) fun h => adS h fun h => adS h fun h => have t := lfS h hK; t
def cut_relation_mark_L1_S (x0 : Ptr cut_relation) (x1 : List Int) : (Int × List Bool) → Option ((Int × List Bool) ⊕ (List Bool × Bool))
  | (v1, v2) =>
    if v1 < (x1.length : Int) then
      if inX v1 x1.length then
      if (ix x1 v1) < 0 then
        cut_relation_mark_J2_S x1 v1 v2 true
      else
        if x0.val.n ≤ (ix x1 v1) then
          cut_relation_mark_J2_S x1 v1 v2 true
        else
          if 0 < v1 then
            if inI (v1 - 1) then
            if inX (v1 - 1) x1.length then
            cut_relation_mark_J2_S x1 v1 v2 (decide ((ix x1 v1) ≤ (ix x1 (v1 - 1))))
            else none
            else none
          else
            cut_relation_mark_J2_S x1 v1 v2 false
      else none
    else
      some (.inr (v2, true))
theorem cut_relation_mark_L1_sound (x0 : Ptr cut_relation) (x1 : List Int) (s : Int × List Bool) {Φ : List Bool × Bool → Prop} {rec1 : (Int × List Bool) → Prop} {o} (h : cut_relation_mark_L1_S x0 x1 s = some o) (hK : (orK rec1 Φ) o) : cut_relation_mark_L1 x0 x1 Φ s rec1 := by
  obtain ⟨v1, v2⟩ := s
  unfold cut_relation_mark_L1_S at h
  unfold cut_relation_mark_L1
  exact ifS h (fun h => adS h fun h => ifS h (fun h => cut_relation_mark_J2_sound _ _ _ _ h hK) fun h => ifS h (fun h => cut_relation_mark_J2_sound _ _ _ _ h hK) fun h => ifS h (fun h => adS h fun h => adS h fun h => cut_relation_mark_J2_sound _ _ _ _ h hK) fun h => cut_relation_mark_J2_sound _ _ _ _ h hK) fun h => have t := lfS h hK; t
def cut_relation_mark_S (x0 : Ptr cut_relation) (x1 : List Int) : Option (List Bool × Bool) :=
  if 0 ≤ x0.val.n then
  if lenOk x0.val.n.toNat 1 then
  loopS (cut_relation_mark_L1_S x0 x1) 100000 (0, (List.replicate x0.val.n.toNat (false : Bool)))
  else none
  else none
theorem cut_relation_mark_sound (x0 : Ptr cut_relation) (x1 : List Int) {Φ : List Bool × Bool → Prop} {o} (h : cut_relation_mark_S x0 x1 = some o) (hK : Φ o) : cut_relation_mark_W x0 x1 Φ := by
  unfold cut_relation_mark_S at h
  unfold cut_relation_mark_W
  exact adS h fun h => adS h fun h => LoopW.of_S (fun s q rec hs hq => cut_relation_mark_L1_sound _ _ s hs hq) _ _ h hK
def cut_relation_before_S (x0 : Ptr cut_relation) (x1 : Int) (x2 : Int) : Option (Bool) :=
  if inX x1 x0.val.acked.length then
  if inX x2 x0.val.issued.length then
  some (decide ((ix x0.val.acked x1) < (ix x0.val.issued x2)))
  else none
  else none
theorem cut_relation_before_sound (x0 : Ptr cut_relation) (x1 : Int) (x2 : Int) {Φ : Bool → Prop} {o} (h : cut_relation_before_S x0 x1 x2 = some o) (hK : Φ o) : cut_relation_before_W x0 x1 x2 Φ := by
  unfold cut_relation_before_S at h
  unfold cut_relation_before_W
  exact adS h fun h => adS h fun h => have t := lfS h hK; t
def cut_relation_ready_L1_S (x0 : Ptr cut_relation) (x1 : List Bool) (x2 : Int) : (Int) → Option ((Int) ⊕ (Bool))
  | v1 =>
    if v1 < x0.val.n then
      Option.bind (cut_relation_before_S x0 v1 x2) fun v2 =>
      if v2 = true then
        if inX v1 x1.length then
        if ¬ ((ix x1 v1) = true) then
          some (.inr false)
        else
          if inI (v1 + 1) then
          some (.inl (v1 + 1))
          else none
        else none
      else
        if inI (v1 + 1) then
        some (.inl (v1 + 1))
        else none
    else
      some (.inr true)
theorem cut_relation_ready_L1_sound (x0 : Ptr cut_relation) (x1 : List Bool) (x2 : Int) (s : Int) {Φ : Bool → Prop} {rec1 : (Int) → Prop} {o} (h : cut_relation_ready_L1_S x0 x1 x2 s = some o) (hK : (orK rec1 Φ) o) : cut_relation_ready_L1 x0 x1 x2 Φ s rec1 := by
  unfold cut_relation_ready_L1_S at h
  unfold cut_relation_ready_L1
  exact ifS h (fun h => blS h fun _ hv h => cut_relation_before_sound _ _ _ hv (ifS h (fun h => adS h fun h => ifS h (fun h => have t := lfS h hK; t) fun h => adS h fun h => have t := lfS h hK; t) fun h => adS h fun h => have t := lfS h hK; t)) fun h => have t := lfS h hK; t
def cut_relation_ready_S (x0 : Ptr cut_relation) (x1 : List Bool) (x2 : Int) : Option (Bool) :=
  loopS (cut_relation_ready_L1_S x0 x1 x2) 100000 0
theorem cut_relation_ready_sound (x0 : Ptr cut_relation) (x1 : List Bool) (x2 : Int) {Φ : Bool → Prop} {o} (h : cut_relation_ready_S x0 x1 x2 = some o) (hK : Φ o) : cut_relation_ready_W x0 x1 x2 Φ := by
  unfold cut_relation_ready_S at h
  unfold cut_relation_ready_W
  exact LoopW.of_S (fun s q rec hs hq => cut_relation_ready_L1_sound _ _ _ s hs hq) _ _ h hK
def slices_Clone_int_int_S (x0 : List Int) : Option (List Int) :=
  bothS (decide (x0 = [])) (
    some (([] : List Int))) (
    if lenOk (([] : List Int) ++ x0).length 8 then
    some ((([] : List Int) ++ x0))
    else none)
theorem slices_Clone_int_int_sound (x0 : List Int) {Φ : List Int → Prop} {o} (h : slices_Clone_int_int_S x0 = some o) (hK : Φ o) : slices_Clone_int_int_W x0 Φ := by
  unfold slices_Clone_int_int_S at h
  unfold slices_Clone_int_int_W
  exact nl2S h (fun h => have t := lfS h hK; t) fun h => adS h fun h => have t := lfS h hK; t
def slices_Sort_int_int_S (xs : List (Int)) : Option (List (Int)) := if xs.length ≤ 1099511627776 then some (sortI xs) else none
theorem slices_Sort_int_int_sound (xs : List (Int)) {Φ : List (Int) → Prop} {o} (h : slices_Sort_int_int_S xs = some o) (hK : Φ o) : slices_Sort_int_int_W xs Φ := by
  unfold slices_Sort_int_int_S at h
  unfold slices_Sort_int_int_W
  exact adS h fun h => lfS h hK
def cut_text_S (x0 : List Int) : Option ByteArray := if smallB x0 = true then some (textS x0) else none
theorem cut_text_sound (x0 : List Int) {Φ : ByteArray → Prop} {o} (h : cut_text_S x0 = some o) (hK : Φ o) : cut_text_W x0 Φ := by
  unfold cut_text_S at h
  unfold cut_text_W
  exact adS h fun h => lfS h hK
def slices_SortFunc_int_int_S (xs : List (List Int)) : Option (List (List Int)) := if xs.length ≤ 1099511627776 then some (sortL xs) else none
theorem slices_SortFunc_int_int_sound (xs : List (List Int)) {Φ : List (List Int) → Prop} {o} (h : slices_SortFunc_int_int_S xs = some o) (hK : Φ o) : slices_SortFunc_int_int_W xs Φ := by
  unfold slices_SortFunc_int_int_S at h
  unfold slices_SortFunc_int_int_W
  exact adS h fun h => lfS h hK
def cut_relation_next_J4_S (x2 : Int) (v5 : Int) : ((List (ByteArray × Bool)) × List (List Int)) → Option ((Int × (List (ByteArray × Bool)) × List (List Int)) ⊕ ((Int × (List (ByteArray × Bool)) × List (List Int)) ⊕ (List (List Int) × Bool)))
  | (v11, v12) =>
    if x2 < (v12.length : Int) then
      some (.inr (.inr (([] : List (List Int)), false)))
    else
      if inI (v5 + 1) then
      some (.inl ((v5 + 1), v11, v12))
      else none
theorem cut_relation_next_J4_sound (x2 : Int) (v5 : Int) (s : (List (ByteArray × Bool)) × List (List Int)) {Φ : List (List Int) × Bool → Prop} {rec1 : (Int × (List (ByteArray × Bool)) × List (List Int)) → Prop} {rec2 : (Int × (List (ByteArray × Bool)) × List (List Int)) → Prop} {o} (h : cut_relation_next_J4_S x2 v5 s = some o) (hK : (orK rec2 (orK rec1 Φ)) o) : cut_relation_next_J4 x2 v5 rec2 Φ s := by
  obtain ⟨v11, v12⟩ := s
  unfold cut_relation_next_J4_S at h
  unfold cut_relation_next_J4
  exact ifS h (fun h => have t := lfS h hK; t) fun h => adS h fun h => have t := lfS h hK; t
def cut_relation_next_J3_S (x1 : List (List Int)) (x2 : Int) (v1 : Int) (v5 : Int) (v6 : List (ByteArray × Bool)) (v7 : List (List Int)) : (Bool) → Option ((Int × (List (ByteArray × Bool)) × List (List Int)) ⊕ ((Int × (List (ByteArray × Bool)) × List (List Int)) ⊕ (List (List Int) × Bool)))
  | v8 =>
    if v8 = true then
      if inI (v5 + 1) then
      some (.inl ((v5 + 1), v6, v7))
      else none
    else
      Option.bind (slices_Clone_int_int_S (ix x1 v1)) fun v9 =>
      if lenOk (v9 ++ ([v5] : List Int)).length 8 then
      Option.bind (slices_Sort_int_int_S (v9 ++ ([v5] : List Int))) fun v10 =>
      Option.bind (cut_text_S v10) fun v13 =>
      if ¬ ((mget v6 v13 false) = true) then
        if lenOk (v7 ++ ([v10] : List (List Int))).length 24 then
        cut_relation_next_J4_S x2 v5 ((mput v6 v13 true), (v7 ++ ([v10] : List (List Int))))
        else none
      else
        cut_relation_next_J4_S x2 v5 (v6, v7)
      else none
theorem cut_relation_next_J3_sound (x1 : List (List Int)) (x2 : Int) (v1 : Int) (v5 : Int) (v6 : List (ByteArray × Bool)) (v7 : List (List Int)) (s : Bool) {Φ : List (List Int) × Bool → Prop} {rec1 : (Int × (List (ByteArray × Bool)) × List (List Int)) → Prop} {rec2 : (Int × (List (ByteArray × Bool)) × List (List Int)) → Prop} {o} (h : cut_relation_next_J3_S x1 x2 v1 v5 v6 v7 s = some o) (hK : (orK rec2 (orK rec1 Φ)) o) : cut_relation_next_J3 x1 x2 v1 v5 v6 v7 rec2 Φ s := by
  unfold cut_relation_next_J3_S at h
  unfold cut_relation_next_J3
  exact ifS h (fun h => adS h fun h => have t := lfS h hK; t) fun h => blS h fun _ hv h => slices_Clone_int_int_sound _ hv (adS h fun h => blS h fun _ hv h => slices_Sort_int_int_sound _ hv (joinI (blS h fun _ hv h => cut_text_sound _ hv (ifS h (fun h => adS h fun h => cut_relation_next_J4_sound _ _ _ h hK) fun h => cut_relation_next_J4_sound _ _ _ h hK))))
def cut_relation_next_L2_S (x0 : Ptr cut_relation) (x1 : List (List Int)) (x2 : Int) (v1 : Int) (v4 : List Bool × Bool) : (Int × (List (ByteArray × Bool)) × List (List Int)) → Option ((Int × (List (ByteArray × Bool)) × List (List Int)) ⊕ ((Int × (List (ByteArray × Bool)) × List (List Int)) ⊕ (List (List Int) × Bool)))
  | (v5, v6, v7) =>
    if v5 < x0.val.n then
      if inX v5 v4.1.length then
      if (ix v4.1 v5) = true then
        cut_relation_next_J3_S x1 x2 v1 v5 v6 v7 true
      else
        Option.bind (cut_relation_ready_S x0 v4.1 v5) fun v14 =>
        cut_relation_next_J3_S x1 x2 v1 v5 v6 v7 (decide (¬ (v14 = true)))
      else none
    else
      if inI (v1 + 1) then
      some (.inr (.inl ((v1 + 1), v6, v7)))
      else none
theorem cut_relation_next_L2_sound (x0 : Ptr cut_relation) (x1 : List (List Int)) (x2 : Int) (v1 : Int) (v4 : List Bool × Bool) (s : Int × (List (ByteArray × Bool)) × List (List Int)) {Φ : List (List Int) × Bool → Prop} {rec1 : (Int × (List (ByteArray × Bool)) × List (List Int)) → Prop} {rec2 : (Int × (List (ByteArray × Bool)) × List (List Int)) → Prop} {o} (h : cut_relation_next_L2_S x0 x1 x2 v1 v4 s = some o) (hK : (orK rec2 (orK rec1 Φ)) o) : cut_relation_next_L2 x0 x1 x2 v1 rec1 v4 Φ s rec2 := by
  obtain ⟨v5, v6, v7⟩ := s
  unfold cut_relation_next_L2_S at h
  unfold cut_relation_next_L2
  exact ifS h (fun h => adS h fun h => ifS h (fun h => cut_relation_next_J3_sound _ _ _ _ _ _ _ h hK) fun h => blS h fun _ hv h => cut_relation_ready_sound _ _ _ hv (cut_relation_next_J3_sound _ _ _ _ _ _ _ h hK)) fun h => adS h fun h => have t := lfS h hK; t
def cut_relation_next_L1_S (x0 : Ptr cut_relation) (x1 : List (List Int)) (x2 : Int) : (Int × (List (ByteArray × Bool)) × List (List Int)) → Option ((Int × (List (ByteArray × Bool)) × List (List Int)) ⊕ (List (List Int) × Bool))
  | (v1, v2, v3) =>
    if v1 < (x1.length : Int) then
      if inX v1 x1.length then
      Option.bind (cut_relation_mark_S x0 (ix x1 v1)) fun v4 =>
      loopS (cut_relation_next_L2_S x0 x1 x2 v1 v4) 100000 (0, v2, v3)
      else none
    else
      Option.bind (slices_SortFunc_int_int_S v3) fun v15 =>
      some (.inr (v15, true))
theorem cut_relation_next_L1_sound (x0 : Ptr cut_relation) (x1 : List (List Int)) (x2 : Int) (s : Int × (List (ByteArray × Bool)) × List (List Int)) {Φ : List (List Int) × Bool → Prop} {rec1 : (Int × (List (ByteArray × Bool)) × List (List Int)) → Prop} {o} (h : cut_relation_next_L1_S x0 x1 x2 s = some o) (hK : (orK rec1 Φ) o) : cut_relation_next_L1 x0 x1 x2 Φ s rec1 := by
  obtain ⟨v1, v2, v3⟩ := s
  unfold cut_relation_next_L1_S at h
  unfold cut_relation_next_L1
  exact ifS h (fun h => adS h fun h => blS h fun _ hv h => cut_relation_mark_sound _ _ hv (LoopW.of_S (fun s q rec hs hq => cut_relation_next_L2_sound _ _ _ _ _ s hs hq) _ _ h hK)) fun h => blS h fun _ hv h => slices_SortFunc_int_int_sound _ hv (have t := lfS h hK; t)
def cut_relation_next_S (x0 : Ptr cut_relation) (x1 : List (List Int)) (x2 : Int) : Option (List (List Int) × Bool) :=
  loopS (cut_relation_next_L1_S x0 x1 x2) 100000 (0, ([] : List (ByteArray × Bool)), ([] : List (List Int)))
theorem cut_relation_next_sound (x0 : Ptr cut_relation) (x1 : List (List Int)) (x2 : Int) {Φ : List (List Int) × Bool → Prop} {o} (h : cut_relation_next_S x0 x1 x2 = some o) (hK : Φ o) : cut_relation_next_W x0 x1 x2 Φ := by
  unfold cut_relation_next_S at h
  unfold cut_relation_next_W
  exact LoopW.of_S (fun s q rec hs hq => cut_relation_next_L1_sound _ _ _ s hs hq) _ _ h hK
def cut_All_L2_S (x1 : Int) : (Unit) → Option ((Unit) ⊕ (List (List Int) × Int))
  | _ =>
    if 0 < (([([] : List Int)] : List (List Int)).length : Int) then
      if inI (0 + (([([] : List Int)] : List (List Int)).length : Int)) then
      if x1 < (0 + (([([] : List Int)] : List (List Int)).length : Int)) then
        some (.inr (([] : List (List Int)), 6))
      else
        if lenOk ([([] : List Int)] : List (List Int)).length 24 then
        if inI (x1 - (([([] : List Int)] : List (List Int)).length : Int)) then
        none
        else none
        else none
      else none
    else
      some (.inr (([] : List (List Int)), 0))
theorem cut_All_L2_sound (x1 : Int) (s : Unit) {Φ : List (List Int) × Int → Prop} {rec2 : (Unit) → Prop} {o} (h : cut_All_L2_S x1 s = some o) (hK : (orK rec2 Φ) o) : cut_All_L2 x1 Φ s rec2 := by
  unfold cut_All_L2_S at h
  unfold cut_All_L2
  exact ifS h (fun h => adS h fun h => ifS h (fun h => have t := lfS h hK; t) fun h => adS h fun h => adS h fun h => (by cases h)) fun h => have t := lfS h hK; t
def cut_All_J1_S (x1 : Int) : (Bool) → Option (List (List Int) × Int)
  | v2 =>
    if v2 = true then
      some ((([] : List (List Int)), 2))
    else
      loopS (cut_All_L2_S x1) 100000 ()
theorem cut_All_J1_sound (x1 : Int) (s : Bool) {Φ : List (List Int) × Int → Prop} {o} (h : cut_All_J1_S x1 s = some o) (hK : Φ o) : cut_All_J1 x1 Φ s := by
  unfold cut_All_J1_S at h
  unfold cut_All_J1
  exact ifS h (fun h => have t := lfS h hK; t) fun h => LoopW.of_S (fun s q rec hs hq => cut_All_L2_sound _ s hs hq) _ _ h hK
def cut_All_L5_S (x0 : api_History) (x1 : Int) (v6 : List Int) (v7 : List Int) : (List (List Int) × List (List Int)) → Option ((List (List Int) × List (List Int)) ⊕ ((Int × List Int × List Int) ⊕ (List (List Int) × Int)))
  | (v9, v10) =>
    if 0 < (v10.length : Int) then
      if inI ((v9.length : Int) + (v10.length : Int)) then
      if x1 < ((v9.length : Int) + (v10.length : Int)) then
        some (.inr (.inr (([] : List (List Int)), 6)))
      else
        if lenOk (v9 ++ v10).length 24 then
        if inI (x1 - ((v9 ++ v10).length : Int)) then
        Option.bind (cut_relation_next_S (Ptr.mk (cut_relation.mk (x0.Writes.length : Int) (x0.Events.length : Int) v6 v7)) v10 (x1 - ((v9 ++ v10).length : Int))) fun v11 =>
        if ¬ (v11.2 = true) then
          some (.inr (.inr (([] : List (List Int)), 6)))
        else
          some (.inl ((v9 ++ v10), v11.1))
        else none
        else none
      else none
    else
      some (.inr (.inr (v9, 0)))
theorem cut_All_L5_sound (x0 : api_History) (x1 : Int) (v6 : List Int) (v7 : List Int) (s : List (List Int) × List (List Int)) {Φ : List (List Int) × Int → Prop} {rec3 : (Int × List Int × List Int) → Prop} {rec5 : (List (List Int) × List (List Int)) → Prop} {o} (h : cut_All_L5_S x0 x1 v6 v7 s = some o) (hK : (orK rec5 (orK rec3 Φ)) o) : cut_All_L5 x0 x1 v6 v7 Φ s rec5 := by
  obtain ⟨v9, v10⟩ := s
  unfold cut_All_L5_S at h
  unfold cut_All_L5
  exact ifS h (fun h => adS h fun h => ifS h (fun h => have t := lfS h hK; t) fun h => adS h fun h => adS h fun h => blS h fun _ hv h => cut_relation_next_sound _ _ _ hv (ifS h (fun h => have t := lfS h hK; t) fun h => have t := lfS h hK; t)) fun h => have t := lfS h hK; t
def cut_All_J4_S (x0 : api_History) (x1 : Int) (v6 : List Int) (v7 : List Int) : (Bool) → Option ((Int × List Int × List Int) ⊕ (List (List Int) × Int))
  | v8 =>
    if v8 = true then
      some (.inr (([] : List (List Int)), 2))
    else
      loopS (cut_All_L5_S x0 x1 v6 v7) 100000 (([] : List (List Int)), ([([] : List Int)] : List (List Int)))
theorem cut_All_J4_sound (x0 : api_History) (x1 : Int) (v6 : List Int) (v7 : List Int) (s : Bool) {Φ : List (List Int) × Int → Prop} {rec3 : (Int × List Int × List Int) → Prop} {o} (h : cut_All_J4_S x0 x1 v6 v7 s = some o) (hK : (orK rec3 Φ) o) : cut_All_J4 x0 x1 v6 v7 Φ s := by
  unfold cut_All_J4_S at h
  unfold cut_All_J4
  exact ifS h (fun h => have t := lfS h hK; t) fun h => LoopW.of_S (fun s q rec hs hq => cut_All_L5_sound _ _ _ _ s hs hq) _ _ h hK
def cut_All_L3_S (x0 : api_History) (x1 : Int) : (Int × List Int × List Int) → Option ((Int × List Int × List Int) ⊕ (List (List Int) × Int))
  | (v5, v6, v7) =>
    if v5 < (x0.Events.length : Int) then
      if inX v5 x0.Events.length then
      if ((ix x0.Events v5).Kind) = 0 then
        if inX ((ix x0.Events v5).Write) v6.length then
        if inI (v5 + 1) then
        some (.inl ((v5 + 1), (put v6 ((ix x0.Events v5).Write) v5), v7))
        else none
        else none
      else
        if inX ((ix x0.Events v5).Write) v7.length then
        if inI (v5 + 1) then
        some (.inl ((v5 + 1), v6, (put v7 ((ix x0.Events v5).Write) v5)))
        else none
        else none
      else none
    else
      if (0 : Int) ≠ 0 then
        some (.inr (([] : List (List Int)), 0))
      else
        if x1 < 0 then
          cut_All_J4_S x0 x1 v6 v7 true
        else
          cut_All_J4_S x0 x1 v6 v7 (decide (4096 < x1))
theorem cut_All_L3_sound (x0 : api_History) (x1 : Int) (s : Int × List Int × List Int) {Φ : List (List Int) × Int → Prop} {rec3 : (Int × List Int × List Int) → Prop} {o} (h : cut_All_L3_S x0 x1 s = some o) (hK : (orK rec3 Φ) o) : cut_All_L3 x0 x1 Φ s rec3 := by
  obtain ⟨v5, v6, v7⟩ := s
  unfold cut_All_L3_S at h
  unfold cut_All_L3
  exact ifS h (fun h => adS h fun h => ifS h (fun h => adS h fun h => adS h fun h => have t := lfS h hK; t) fun h => adS h fun h => adS h fun h => have t := lfS h hK; t) fun h => ifS h (fun h => have t := lfS h hK; t) fun h => ifS h (fun h => cut_All_J4_sound _ _ _ _ _ h hK) fun h => cut_All_J4_sound _ _ _ _ _ h hK
def cut_All_S (x0 : api_History) (x1 : Int) : Option (List (List Int) × Int) :=
  Option.bind (history_Check_S x0) fun v1 =>
  if v1 ≠ 0 then
    if v1 ≠ 0 then
      some ((([] : List (List Int)), v1))
    else
      if x1 < 0 then
        cut_All_J1_S x1 true
      else
        cut_All_J1_S x1 (decide (4096 < x1))
  else
    Option.bind (slices_Repeat_int_int_S ([(x0.Events.length : Int)] : List Int) (x0.Writes.length : Int)) fun z =>
    let v3 : List Int × Unit := (z, ())
    Option.bind (slices_Repeat_int_int_S ([(x0.Events.length : Int)] : List Int) (x0.Writes.length : Int)) fun z =>
    let v4 : List Int × Unit := (z, ())
    loopS (cut_All_L3_S x0 x1) 100000 (0, v3.1, v4.1)
theorem cut_All_sound (x0 : api_History) (x1 : Int) {Φ : List (List Int) × Int → Prop} {o} (h : cut_All_S x0 x1 = some o) (hK : Φ o) : cut_All_W x0 x1 Φ := by
  unfold cut_All_S at h
  unfold cut_All_W
  exact blS h fun _ hv h => history_Check_sound _ hv (ifS h (fun h => ifS h (fun h => have t := lfS h hK; t) fun h => ifS h (fun h => cut_All_J1_sound _ _ h hK) fun h => cut_All_J1_sound _ _ h hK) fun h => blS h fun _ hv h => ⟨_, slices_Repeat_int_int_sound _ _ hv rfl, blS h fun _ hv h => ⟨_, slices_Repeat_int_int_sound _ _ hv rfl, LoopW.of_S (fun s q rec hs hq => cut_All_L3_sound _ _ s hs hq) _ _ h hK⟩⟩)
def slices_Clone_cut_marks_bool_S (x0 : List Bool) : Option (List Bool) :=
  bothS (decide (x0 = [])) (
    some (([] : List Bool))) (
    if lenOk (([] : List Bool) ++ x0).length 1 then
    some ((([] : List Bool) ++ x0))
    else none)
theorem slices_Clone_cut_marks_bool_sound (x0 : List Bool) {Φ : List Bool → Prop} {o} (h : slices_Clone_cut_marks_bool_S x0 = some o) (hK : Φ o) : slices_Clone_cut_marks_bool_W x0 Φ := by
  unfold slices_Clone_cut_marks_bool_S at h
  unfold slices_Clone_cut_marks_bool_W
  exact nl2S h (fun h => have t := lfS h hK; t) fun h => adS h fun h => have t := lfS h hK; t
def cut_marks_members_1_L1_S (x0 : List Bool) : (Int) → Option (List (Int × Unit) × ((Int) ⊕ (Unit)))
  | v1 =>
    if v1 < (x0.length : Int) then
      if inX v1 x0.length then
      if (ix x0 v1) = true then
        Option.map (fun q => ((v1, ()) :: q.1, q.2)) (
          if inI (v1 + 1) then
          some ([], .inl (v1 + 1))
          else none)
      else
        if inI (v1 + 1) then
        some ([], .inl (v1 + 1))
        else none
      else none
    else
      some ([], .inr ())
theorem cut_marks_members_1_L1_sound (x0 : List Bool) (s : Int) {ys : List (Int × Unit)} {q} {r : List (Int × Unit)} {rec1 : (List (Int × Unit) × Int) → Prop} (h : cut_marks_members_1_L1_S x0 s = some (ys, q)) (hr : (orK (fun s => rec1 (r, s)) (fun _ => r = [])) q) : cut_marks_members_1_L1 x0 (ys ++ r, s) rec1 := by
  unfold cut_marks_members_1_L1_S at h
  unfold cut_marks_members_1_L1
  exact ifS h (fun h => adS h fun h => ifS h (fun h => mpS h fun q_ h_ he => (by obtain ⟨_, _⟩ := q_; cases he; exact ⟨rfl, (have h := h_; adS h fun h => (by cases h; exact hr)), trivial⟩)) fun h => adS h fun h => (by cases h; exact hr)) fun h => (by cases h; exact hr)
def cut_marks_members_1_S0 (x0 : List Bool) : Option (List (Int × Unit) × Unit) :=
  genS (cut_marks_members_1_L1_S x0) 100000 0
def cut_marks_members_1_S (x0 : List Bool) : Option (List (Int × Unit)) := Option.map Prod.fst (cut_marks_members_1_S0 x0)
theorem cut_marks_members_1_sound (x0 : List Bool) {l : List (Int × Unit)} (h : cut_marks_members_1_S x0 = some l) : cut_marks_members_1_I x0 l := by
  obtain ⟨⟨ys, q⟩, h0, h1⟩ := Option.map_eq_some_iff.1 h
  clear h
  have h := h0
  subst h1
  unfold cut_marks_members_1_S0 at h
  unfold cut_marks_members_1_I
  have hr : (fun _ => ([] : List (Int × Unit)) = []) q := rfl
  rw [← List.append_nil ys]
  exact LoopW.of_G (K := fun r => (fun _ => r = [])) (fun s ys q r rec hs hr => cut_marks_members_1_L1_sound _ s hs hr) _ _ _ h hr
def cut_marks_list_L1_S : (List (Int × Unit) × List Int) → Option ((List (Int × Unit) × List Int) ⊕ (List Int))
  | (lst, v1) =>
    match lst with
    | [] =>
      some (.inr v1)
    | v2 :: r3 =>
      if lenOk (v1 ++ ([v2.1] : List Int)).length 8 then
      some (.inl (r3, (v1 ++ ([v2.1] : List Int))))
      else none
theorem cut_marks_list_L1_sound (s : List (Int × Unit) × List Int) {Φ : List Int → Prop} {rec1 : (List (Int × Unit) × List Int) → Prop} {o} (h : cut_marks_list_L1_S s = some o) (hK : (orK rec1 Φ) o) : cut_marks_list_L1 Φ s rec1 := by
  obtain ⟨lst, v1⟩ := s
  unfold cut_marks_list_L1_S at h
  unfold cut_marks_list_L1
  cases lst with
  | nil => exact have t := lfS h hK; t
  | cons _ _ => exact adS h fun h => have t := lfS h hK; t
def cut_marks_list_S (x0 : List Bool) : Option (List Int) :=
  Option.bind (cut_marks_members_1_S x0) fun l4 =>
  loopS (cut_marks_list_L1_S) 100000 (l4, ([] : List Int))
theorem cut_marks_list_sound (x0 : List Bool) {Φ : List Int → Prop} {o} (h : cut_marks_list_S x0 = some o) (hK : Φ o) : cut_marks_list_W x0 Φ := by
  unfold cut_marks_list_S at h
  unfold cut_marks_list_W
  exact blS h fun _ hv h => ⟨_, cut_marks_members_1_sound _ hv, LoopW.of_S (fun s q rec hs hq => cut_marks_list_L1_sound s hs hq) _ _ h hK⟩
def cut_Least_L1_S (x1 : List Int) : (Unit) → Option ((Unit) ⊕ (List Int × Int))
  | _ =>
    if 0 < (([x1] : List (List Int)).length : Int) then
      if inX 0 ([x1] : List (List Int)).length then
      none
      else none
    else
      if (0 : Int) ≠ 0 then
        some (.inr (([] : List Int), 0))
      else
        none
theorem cut_Least_L1_sound (x1 : List Int) (s : Unit) {Φ : List Int × Int → Prop} {rec1 : (Unit) → Prop} {o} (h : cut_Least_L1_S x1 s = some o) (hK : (orK rec1 Φ) o) : cut_Least_L1 x1 Φ s rec1 := by
  unfold cut_Least_L1_S at h
  unfold cut_Least_L1
  exact ifS h (fun h => adS h fun h => (by cases h)) fun h => ifS h (fun h => have t := lfS h hK; t) fun h => (by cases h)
def cut_Least_L5_S (x0 : api_History) (v5 : List Int) (v6 : List Int) (v12 : Int × Unit) (r13 : List (Int × Unit)) : (Int × List Bool) → Option ((Int × List Bool) ⊕ ((List (Int × Unit) × List Bool) ⊕ ((Int × List (List Bool)) ⊕ ((Int × List Int × List Int) ⊕ (List Int × Int)))))
  | (v14, v15) =>
    if v14 < (x0.Writes.length : Int) then
      if inX v14 v15.length then
      if (ix v15 v14) = true then
        if inX v14 v15.length then
        if inI (v14 + 1) then
        some (.inl ((v14 + 1), (put v15 v14 true)))
        else none
        else none
      else
        Option.bind (cut_relation_before_S (Ptr.mk (cut_relation.mk (x0.Writes.length : Int) (x0.Events.length : Int) v5 v6)) v14 v12.1) fun z =>
        let v16 : Bool × Unit := (z, ())
        if inX v14 v15.length then
        if inI (v14 + 1) then
        some (.inl ((v14 + 1), (put v15 v14 v16.1)))
        else none
        else none
      else none
    else
      some (.inr (.inl (r13, v15)))
theorem cut_Least_L5_sound (x0 : api_History) (v5 : List Int) (v6 : List Int) (v12 : Int × Unit) (r13 : List (Int × Unit)) (s : Int × List Bool) {Φ : List Int × Int → Prop} {rec2 : (Int × List Int × List Int) → Prop} {rec3 : (Int × List (List Bool)) → Prop} {rec4 : (List (Int × Unit) × List Bool) → Prop} {rec5 : (Int × List Bool) → Prop} {o} (h : cut_Least_L5_S x0 v5 v6 v12 r13 s = some o) (hK : (orK rec5 (orK rec4 (orK rec3 (orK rec2 Φ)))) o) : cut_Least_L5 x0 v5 v6 rec4 v12 r13 Φ s rec5 := by
  obtain ⟨v14, v15⟩ := s
  unfold cut_Least_L5_S at h
  unfold cut_Least_L5
  exact ifS h (fun h => adS h fun h => ifS h (fun h => adS h fun h => adS h fun h => have t := lfS h hK; t) fun h => blS h fun _ hv h => ⟨_, cut_relation_before_sound _ _ _ hv rfl, adS h fun h => adS h fun h => have t := lfS h hK; t⟩) fun h => have t := lfS h hK; t
def cut_Least_L4_S (x0 : api_History) (v5 : List Int) (v6 : List Int) : (List (Int × Unit) × List Bool) → Option ((List (Int × Unit) × List Bool) ⊕ ((Int × List (List Bool)) ⊕ ((Int × List Int × List Int) ⊕ (List Int × Int))))
  | (lst, v11) =>
    match lst with
    | [] =>
      Option.bind (cut_marks_list_S v11) fun v17 =>
      some (.inr (.inr (.inr (v17, 0))))
    | v12 :: r13 =>
      loopS (cut_Least_L5_S x0 v5 v6 v12 r13) 100000 (0, v11)
theorem cut_Least_L4_sound (x0 : api_History) (v5 : List Int) (v6 : List Int) (s : List (Int × Unit) × List Bool) {Φ : List Int × Int → Prop} {rec2 : (Int × List Int × List Int) → Prop} {rec3 : (Int × List (List Bool)) → Prop} {rec4 : (List (Int × Unit) × List Bool) → Prop} {o} (h : cut_Least_L4_S x0 v5 v6 s = some o) (hK : (orK rec4 (orK rec3 (orK rec2 Φ))) o) : cut_Least_L4 x0 v5 v6 Φ s rec4 := by
  obtain ⟨lst, v11⟩ := s
  unfold cut_Least_L4_S at h
  unfold cut_Least_L4
  cases lst with
  | nil => exact blS h fun _ hv h => cut_marks_list_sound _ hv (have t := lfS h hK; t)
  | cons _ _ => exact LoopW.of_S (fun s q rec hs hq => cut_Least_L5_sound _ _ _ _ _ s hs hq) _ _ h hK
def cut_Least_L3_S (x0 : api_History) (x1 : List Int) (v5 : List Int) (v6 : List Int) : (Int × List (List Bool)) → Option ((Int × List (List Bool)) ⊕ ((Int × List Int × List Int) ⊕ (List Int × Int)))
  | (v7, v8) =>
    if v7 < (([x1] : List (List Int)).length : Int) then
      if inX v7 ([x1] : List (List Int)).length then
      Option.bind (cut_relation_mark_S (Ptr.mk (cut_relation.mk (x0.Writes.length : Int) (x0.Events.length : Int) v5 v6)) (ix ([x1] : List (List Int)) v7)) fun v9 =>
      if ¬ (v9.2 = true) then
        if (2 : Int) ≠ 0 then
          some (.inr (.inr (([] : List Int), 2)))
        else
          none
      else
        if lenOk (v8 ++ ([v9.1] : List (List Bool))).length 24 then
        if inI (v7 + 1) then
        some (.inl ((v7 + 1), (v8 ++ ([v9.1] : List (List Bool)))))
        else none
        else none
      else none
    else
      if (0 : Int) ≠ 0 then
        some (.inr (.inr (([] : List Int), 0)))
      else
        if inX 0 v8.length then
        Option.bind (slices_Clone_cut_marks_bool_S (ix v8 0)) fun v10 =>
        if inX 0 v8.length then
        Option.bind (cut_marks_members_1_S (ix v8 0)) fun l18 =>
        loopS (cut_Least_L4_S x0 v5 v6) 100000 (l18, v10)
        else none
        else none
theorem cut_Least_L3_sound (x0 : api_History) (x1 : List Int) (v5 : List Int) (v6 : List Int) (s : Int × List (List Bool)) {Φ : List Int × Int → Prop} {rec2 : (Int × List Int × List Int) → Prop} {rec3 : (Int × List (List Bool)) → Prop} {o} (h : cut_Least_L3_S x0 x1 v5 v6 s = some o) (hK : (orK rec3 (orK rec2 Φ)) o) : cut_Least_L3 x0 x1 v5 v6 Φ s rec3 := by
  obtain ⟨v7, v8⟩ := s
  unfold cut_Least_L3_S at h
  unfold cut_Least_L3
  exact ifS h (fun h => adS h fun h => blS h fun _ hv h => cut_relation_mark_sound _ _ hv (ifS h (fun h => ifS h (fun h => have t := lfS h hK; t) fun h => (by cases h)) fun h => adS h fun h => adS h fun h => have t := lfS h hK; t)) fun h => ifS h (fun h => have t := lfS h hK; t) fun h => adS h fun h => blS h fun _ hv h => slices_Clone_cut_marks_bool_sound _ hv (adS h fun h => blS h fun _ hv h => ⟨_, cut_marks_members_1_sound _ hv, LoopW.of_S (fun s q rec hs hq => cut_Least_L4_sound _ _ _ s hs hq) _ _ h hK⟩)
def cut_Least_L2_S (x0 : api_History) (x1 : List Int) : (Int × List Int × List Int) → Option ((Int × List Int × List Int) ⊕ (List Int × Int))
  | (v4, v5, v6) =>
    if v4 < (x0.Events.length : Int) then
      if inX v4 x0.Events.length then
      if ((ix x0.Events v4).Kind) = 0 then
        if inX ((ix x0.Events v4).Write) v5.length then
        if inI (v4 + 1) then
        some (.inl ((v4 + 1), (put v5 ((ix x0.Events v4).Write) v4), v6))
        else none
        else none
      else
        if inX ((ix x0.Events v4).Write) v6.length then
        if inI (v4 + 1) then
        some (.inl ((v4 + 1), v5, (put v6 ((ix x0.Events v4).Write) v4)))
        else none
        else none
      else none
    else
      if (0 : Int) ≠ 0 then
        if (0 : Int) ≠ 0 then
          some (.inr (([] : List Int), 0))
        else
          none
      else
        loopS (cut_Least_L3_S x0 x1 v5 v6) 100000 (0, ([] : List (List Bool)))
theorem cut_Least_L2_sound (x0 : api_History) (x1 : List Int) (s : Int × List Int × List Int) {Φ : List Int × Int → Prop} {rec2 : (Int × List Int × List Int) → Prop} {o} (h : cut_Least_L2_S x0 x1 s = some o) (hK : (orK rec2 Φ) o) : cut_Least_L2 x0 x1 Φ s rec2 := by
  obtain ⟨v4, v5, v6⟩ := s
  unfold cut_Least_L2_S at h
  unfold cut_Least_L2
  exact ifS h (fun h => adS h fun h => ifS h (fun h => adS h fun h => adS h fun h => have t := lfS h hK; t) fun h => adS h fun h => adS h fun h => have t := lfS h hK; t) fun h => ifS h (fun h => ifS h (fun h => have t := lfS h hK; t) fun h => (by cases h)) fun h => LoopW.of_S (fun s q rec hs hq => cut_Least_L3_sound _ _ _ _ s hs hq) _ _ h hK
def cut_Least_S (x0 : api_History) (x1 : List Int) : Option (List Int × Int) :=
  Option.bind (history_Check_S x0) fun v1 =>
  if v1 ≠ 0 then
    if v1 ≠ 0 then
      if v1 ≠ 0 then
        some ((([] : List Int), v1))
      else
        none
    else
      loopS (cut_Least_L1_S x1) 100000 ()
  else
    Option.bind (slices_Repeat_int_int_S ([(x0.Events.length : Int)] : List Int) (x0.Writes.length : Int)) fun z =>
    let v2 : List Int × Unit := (z, ())
    Option.bind (slices_Repeat_int_int_S ([(x0.Events.length : Int)] : List Int) (x0.Writes.length : Int)) fun z =>
    let v3 : List Int × Unit := (z, ())
    loopS (cut_Least_L2_S x0 x1) 100000 (0, v2.1, v3.1)
theorem cut_Least_sound (x0 : api_History) (x1 : List Int) {Φ : List Int × Int → Prop} {o} (h : cut_Least_S x0 x1 = some o) (hK : Φ o) : cut_Least_W x0 x1 Φ := by
  unfold cut_Least_S at h
  unfold cut_Least_W
  exact blS h fun _ hv h => history_Check_sound _ hv (ifS h (fun h => ifS h (fun h => ifS h (fun h => have t := lfS h hK; t) fun h => (by cases h)) fun h => LoopW.of_S (fun s q rec hs hq => cut_Least_L1_sound _ s hs hq) _ _ h hK) fun h => blS h fun _ hv h => ⟨_, slices_Repeat_int_int_sound _ _ hv rfl, blS h fun _ hv h => ⟨_, slices_Repeat_int_int_sound _ _ hv rfl, LoopW.of_S (fun s q rec hs hq => cut_Least_L2_sound _ _ s hs hq) _ _ h hK⟩⟩)
def cut_Greatest_L1_S (x1 : List Int) : (Unit) → Option ((Unit) ⊕ (List Int × Int))
  | _ =>
    if 0 < (([x1] : List (List Int)).length : Int) then
      if inX 0 ([x1] : List (List Int)).length then
      none
      else none
    else
      if (0 : Int) ≠ 0 then
        some (.inr (([] : List Int), 0))
      else
        none
theorem cut_Greatest_L1_sound (x1 : List Int) (s : Unit) {Φ : List Int × Int → Prop} {rec1 : (Unit) → Prop} {o} (h : cut_Greatest_L1_S x1 s = some o) (hK : (orK rec1 Φ) o) : cut_Greatest_L1 x1 Φ s rec1 := by
  unfold cut_Greatest_L1_S at h
  unfold cut_Greatest_L1
  exact ifS h (fun h => adS h fun h => (by cases h)) fun h => ifS h (fun h => have t := lfS h hK; t) fun h => (by cases h)
def cut_Greatest_L5_S (x0 : api_History) (v5 : List Int) (v6 : List Int) (v8 : List (List Bool)) (v12 : Int × Unit) (r13 : List (Int × Unit)) : (Int × List Bool) → Option ((Int × List Bool) ⊕ ((List (Int × Unit) × List Bool) ⊕ ((Int × List (List Bool)) ⊕ ((Int × List Int × List Int) ⊕ (List Int × Int)))))
  | (v14, v15) =>
    if v14 < (x0.Writes.length : Int) then
      if inX v12.1 v15.length then
      if (ix v15 v12.1) = true then
        if inX 0 v8.length then
        if inX v14 (ix v8 0).length then
        if (ix (ix v8 0) v14) = true then
          if inX v12.1 v15.length then
          if inI (v14 + 1) then
          some (.inl ((v14 + 1), (put v15 v12.1 true)))
          else none
          else none
        else
          Option.bind (cut_relation_before_S (Ptr.mk (cut_relation.mk (x0.Writes.length : Int) (x0.Events.length : Int) v5 v6)) v14 v12.1) fun z =>
          let v16 : Bool × Unit := (z, ())
          if inX v12.1 v15.length then
          if inI (v14 + 1) then
          some (.inl ((v14 + 1), (put v15 v12.1 (decide (¬ (v16.1 = true))))))
          else none
          else none
        else none
        else none
      else
        if inX v12.1 v15.length then
        if inI (v14 + 1) then
        some (.inl ((v14 + 1), (put v15 v12.1 false)))
        else none
        else none
      else none
    else
      some (.inr (.inl (r13, v15)))
theorem cut_Greatest_L5_sound (x0 : api_History) (v5 : List Int) (v6 : List Int) (v8 : List (List Bool)) (v12 : Int × Unit) (r13 : List (Int × Unit)) (s : Int × List Bool) {Φ : List Int × Int → Prop} {rec2 : (Int × List Int × List Int) → Prop} {rec3 : (Int × List (List Bool)) → Prop} {rec4 : (List (Int × Unit) × List Bool) → Prop} {rec5 : (Int × List Bool) → Prop} {o} (h : cut_Greatest_L5_S x0 v5 v6 v8 v12 r13 s = some o) (hK : (orK rec5 (orK rec4 (orK rec3 (orK rec2 Φ)))) o) : cut_Greatest_L5 x0 v5 v6 v8 rec4 v12 r13 Φ s rec5 := by
  obtain ⟨v14, v15⟩ := s
  unfold cut_Greatest_L5_S at h
  unfold cut_Greatest_L5
  exact ifS h (fun h => adS h fun h => ifS h (fun h => adS h fun h => adS h fun h => ifS h (fun h => adS h fun h => adS h fun h => have t := lfS h hK; t) fun h => blS h fun _ hv h => ⟨_, cut_relation_before_sound _ _ _ hv rfl, adS h fun h => adS h fun h => have t := lfS h hK; t⟩) fun h => adS h fun h => adS h fun h => have t := lfS h hK; t) fun h => have t := lfS h hK; t
def cut_Greatest_L4_S (x0 : api_History) (v5 : List Int) (v6 : List Int) (v8 : List (List Bool)) : (List (Int × Unit) × List Bool) → Option ((List (Int × Unit) × List Bool) ⊕ ((Int × List (List Bool)) ⊕ ((Int × List Int × List Int) ⊕ (List Int × Int))))
  | (lst, v11) =>
    match lst with
    | [] =>
      Option.bind (cut_marks_list_S v11) fun v17 =>
      some (.inr (.inr (.inr (v17, 0))))
    | v12 :: r13 =>
      loopS (cut_Greatest_L5_S x0 v5 v6 v8 v12 r13) 100000 (0, v11)
theorem cut_Greatest_L4_sound (x0 : api_History) (v5 : List Int) (v6 : List Int) (v8 : List (List Bool)) (s : List (Int × Unit) × List Bool) {Φ : List Int × Int → Prop} {rec2 : (Int × List Int × List Int) → Prop} {rec3 : (Int × List (List Bool)) → Prop} {rec4 : (List (Int × Unit) × List Bool) → Prop} {o} (h : cut_Greatest_L4_S x0 v5 v6 v8 s = some o) (hK : (orK rec4 (orK rec3 (orK rec2 Φ))) o) : cut_Greatest_L4 x0 v5 v6 v8 Φ s rec4 := by
  obtain ⟨lst, v11⟩ := s
  unfold cut_Greatest_L4_S at h
  unfold cut_Greatest_L4
  cases lst with
  | nil => exact blS h fun _ hv h => cut_marks_list_sound _ hv (have t := lfS h hK; t)
  | cons _ _ => exact LoopW.of_S (fun s q rec hs hq => cut_Greatest_L5_sound _ _ _ _ _ _ s hs hq) _ _ h hK
def cut_Greatest_L3_S (x0 : api_History) (x1 : List Int) (v5 : List Int) (v6 : List Int) : (Int × List (List Bool)) → Option ((Int × List (List Bool)) ⊕ ((Int × List Int × List Int) ⊕ (List Int × Int)))
  | (v7, v8) =>
    if v7 < (([x1] : List (List Int)).length : Int) then
      if inX v7 ([x1] : List (List Int)).length then
      Option.bind (cut_relation_mark_S (Ptr.mk (cut_relation.mk (x0.Writes.length : Int) (x0.Events.length : Int) v5 v6)) (ix ([x1] : List (List Int)) v7)) fun v9 =>
      if ¬ (v9.2 = true) then
        if (2 : Int) ≠ 0 then
          some (.inr (.inr (([] : List Int), 2)))
        else
          none
      else
        if lenOk (v8 ++ ([v9.1] : List (List Bool))).length 24 then
        if inI (v7 + 1) then
        some (.inl ((v7 + 1), (v8 ++ ([v9.1] : List (List Bool)))))
        else none
        else none
      else none
    else
      if (0 : Int) ≠ 0 then
        some (.inr (.inr (([] : List Int), 0)))
      else
        if inX 0 v8.length then
        Option.bind (slices_Clone_cut_marks_bool_S (ix v8 0)) fun v10 =>
        if inX 0 v8.length then
        Option.bind (cut_marks_members_1_S (ix v8 0)) fun l18 =>
        loopS (cut_Greatest_L4_S x0 v5 v6 v8) 100000 (l18, v10)
        else none
        else none
theorem cut_Greatest_L3_sound (x0 : api_History) (x1 : List Int) (v5 : List Int) (v6 : List Int) (s : Int × List (List Bool)) {Φ : List Int × Int → Prop} {rec2 : (Int × List Int × List Int) → Prop} {rec3 : (Int × List (List Bool)) → Prop} {o} (h : cut_Greatest_L3_S x0 x1 v5 v6 s = some o) (hK : (orK rec3 (orK rec2 Φ)) o) : cut_Greatest_L3 x0 x1 v5 v6 Φ s rec3 := by
  obtain ⟨v7, v8⟩ := s
  unfold cut_Greatest_L3_S at h
  unfold cut_Greatest_L3
  exact ifS h (fun h => adS h fun h => blS h fun _ hv h => cut_relation_mark_sound _ _ hv (ifS h (fun h => ifS h (fun h => have t := lfS h hK; t) fun h => (by cases h)) fun h => adS h fun h => adS h fun h => have t := lfS h hK; t)) fun h => ifS h (fun h => have t := lfS h hK; t) fun h => adS h fun h => blS h fun _ hv h => slices_Clone_cut_marks_bool_sound _ hv (adS h fun h => blS h fun _ hv h => ⟨_, cut_marks_members_1_sound _ hv, LoopW.of_S (fun s q rec hs hq => cut_Greatest_L4_sound _ _ _ _ s hs hq) _ _ h hK⟩)
def cut_Greatest_L2_S (x0 : api_History) (x1 : List Int) : (Int × List Int × List Int) → Option ((Int × List Int × List Int) ⊕ (List Int × Int))
  | (v4, v5, v6) =>
    if v4 < (x0.Events.length : Int) then
      if inX v4 x0.Events.length then
      if ((ix x0.Events v4).Kind) = 0 then
        if inX ((ix x0.Events v4).Write) v5.length then
        if inI (v4 + 1) then
        some (.inl ((v4 + 1), (put v5 ((ix x0.Events v4).Write) v4), v6))
        else none
        else none
      else
        if inX ((ix x0.Events v4).Write) v6.length then
        if inI (v4 + 1) then
        some (.inl ((v4 + 1), v5, (put v6 ((ix x0.Events v4).Write) v4)))
        else none
        else none
      else none
    else
      if (0 : Int) ≠ 0 then
        if (0 : Int) ≠ 0 then
          some (.inr (([] : List Int), 0))
        else
          none
      else
        loopS (cut_Greatest_L3_S x0 x1 v5 v6) 100000 (0, ([] : List (List Bool)))
theorem cut_Greatest_L2_sound (x0 : api_History) (x1 : List Int) (s : Int × List Int × List Int) {Φ : List Int × Int → Prop} {rec2 : (Int × List Int × List Int) → Prop} {o} (h : cut_Greatest_L2_S x0 x1 s = some o) (hK : (orK rec2 Φ) o) : cut_Greatest_L2 x0 x1 Φ s rec2 := by
  obtain ⟨v4, v5, v6⟩ := s
  unfold cut_Greatest_L2_S at h
  unfold cut_Greatest_L2
  exact ifS h (fun h => adS h fun h => ifS h (fun h => adS h fun h => adS h fun h => have t := lfS h hK; t) fun h => adS h fun h => adS h fun h => have t := lfS h hK; t) fun h => ifS h (fun h => ifS h (fun h => have t := lfS h hK; t) fun h => (by cases h)) fun h => LoopW.of_S (fun s q rec hs hq => cut_Greatest_L3_sound _ _ _ _ s hs hq) _ _ h hK
def cut_Greatest_S (x0 : api_History) (x1 : List Int) : Option (List Int × Int) :=
  Option.bind (history_Check_S x0) fun v1 =>
  if v1 ≠ 0 then
    if v1 ≠ 0 then
      if v1 ≠ 0 then
        some ((([] : List Int), v1))
      else
        none
    else
      loopS (cut_Greatest_L1_S x1) 100000 ()
  else
    Option.bind (slices_Repeat_int_int_S ([(x0.Events.length : Int)] : List Int) (x0.Writes.length : Int)) fun z =>
    let v2 : List Int × Unit := (z, ())
    Option.bind (slices_Repeat_int_int_S ([(x0.Events.length : Int)] : List Int) (x0.Writes.length : Int)) fun z =>
    let v3 : List Int × Unit := (z, ())
    loopS (cut_Greatest_L2_S x0 x1) 100000 (0, v2.1, v3.1)
theorem cut_Greatest_sound (x0 : api_History) (x1 : List Int) {Φ : List Int × Int → Prop} {o} (h : cut_Greatest_S x0 x1 = some o) (hK : Φ o) : cut_Greatest_W x0 x1 Φ := by
  unfold cut_Greatest_S at h
  unfold cut_Greatest_W
  exact blS h fun _ hv h => history_Check_sound _ hv (ifS h (fun h => ifS h (fun h => ifS h (fun h => have t := lfS h hK; t) fun h => (by cases h)) fun h => LoopW.of_S (fun s q rec hs hq => cut_Greatest_L1_sound _ s hs hq) _ _ h hK) fun h => blS h fun _ hv h => ⟨_, slices_Repeat_int_int_sound _ _ hv rfl, blS h fun _ hv h => ⟨_, slices_Repeat_int_int_sound _ _ hv rfl, LoopW.of_S (fun s q rec hs hq => cut_Greatest_L2_sound _ _ s hs hq) _ _ h hK⟩⟩)
def cut_relation_closed_L2_S (x0 : Ptr cut_relation) (x1 : List Bool) (v1 : Int × Unit) (r2 : List (Int × Unit)) : (Int) → Option ((Int) ⊕ ((List (Int × Unit) × Unit) ⊕ (Bool)))
  | v3 =>
    if v3 < x0.val.n then
      Option.bind (cut_relation_before_S x0 v3 v1.1) fun v4 =>
      if v4 = true then
        if inX v3 x1.length then
        if ¬ ((ix x1 v3) = true) then
          some (.inr (.inr false))
        else
          if inI (v3 + 1) then
          some (.inl (v3 + 1))
          else none
        else none
      else
        if inI (v3 + 1) then
        some (.inl (v3 + 1))
        else none
    else
      some (.inr (.inl (r2, ())))
theorem cut_relation_closed_L2_sound (x0 : Ptr cut_relation) (x1 : List Bool) (v1 : Int × Unit) (r2 : List (Int × Unit)) (s : Int) {Φ : Bool → Prop} {rec1 : (List (Int × Unit) × Unit) → Prop} {rec2 : (Int) → Prop} {o} (h : cut_relation_closed_L2_S x0 x1 v1 r2 s = some o) (hK : (orK rec2 (orK rec1 Φ)) o) : cut_relation_closed_L2 x0 x1 rec1 v1 r2 Φ s rec2 := by
  unfold cut_relation_closed_L2_S at h
  unfold cut_relation_closed_L2
  exact ifS h (fun h => blS h fun _ hv h => cut_relation_before_sound _ _ _ hv (ifS h (fun h => adS h fun h => ifS h (fun h => have t := lfS h hK; t) fun h => adS h fun h => have t := lfS h hK; t) fun h => adS h fun h => have t := lfS h hK; t)) fun h => have t := lfS h hK; t
def cut_relation_closed_L1_S (x0 : Ptr cut_relation) (x1 : List Bool) : (List (Int × Unit) × Unit) → Option ((List (Int × Unit) × Unit) ⊕ (Bool))
  | (lst, _) =>
    match lst with
    | [] =>
      some (.inr true)
    | v1 :: r2 =>
      loopS (cut_relation_closed_L2_S x0 x1 v1 r2) 100000 0
theorem cut_relation_closed_L1_sound (x0 : Ptr cut_relation) (x1 : List Bool) (s : List (Int × Unit) × Unit) {Φ : Bool → Prop} {rec1 : (List (Int × Unit) × Unit) → Prop} {o} (h : cut_relation_closed_L1_S x0 x1 s = some o) (hK : (orK rec1 Φ) o) : cut_relation_closed_L1 x0 x1 Φ s rec1 := by
  obtain ⟨lst, _⟩ := s
  unfold cut_relation_closed_L1_S at h
  unfold cut_relation_closed_L1
  cases lst with
  | nil => exact have t := lfS h hK; t
  | cons _ _ => exact LoopW.of_S (fun s q rec hs hq => cut_relation_closed_L2_sound _ _ _ _ s hs hq) _ _ h hK
def cut_relation_closed_S (x0 : Ptr cut_relation) (x1 : List Bool) : Option (Bool) :=
  Option.bind (cut_marks_members_1_S x1) fun l5 =>
  loopS (cut_relation_closed_L1_S x0 x1) 100000 (l5, ())
theorem cut_relation_closed_sound (x0 : Ptr cut_relation) (x1 : List Bool) {Φ : Bool → Prop} {o} (h : cut_relation_closed_S x0 x1 = some o) (hK : Φ o) : cut_relation_closed_W x0 x1 Φ := by
  unfold cut_relation_closed_S at h
  unfold cut_relation_closed_W
  exact blS h fun _ hv h => ⟨_, cut_marks_members_1_sound _ hv, LoopW.of_S (fun s q rec hs hq => cut_relation_closed_L1_sound _ _ s hs hq) _ _ h hK⟩
def cut_Frontier_L2_S : (Unit) → Option ((Unit) ⊕ ((Unit) ⊕ (List Int × Int)))
  | _ =>
    if (0 : Int) < 0 then
      none
    else
      if 0 ≤ ((-1) : Int) then
        if (27 : Int) ≠ 0 then
          some (.inr (.inr (([] : List Int), 27)))
        else
          none
      else
        if (0 : Int) ≠ 0 then
          some (.inr (.inr (([] : List Int), 0)))
        else
          none
theorem cut_Frontier_L2_sound (s : Unit) {Φ : List Int × Int → Prop} {rec1 : (Unit) → Prop} {rec2 : (Unit) → Prop} {o} (h : cut_Frontier_L2_S s = some o) (hK : (orK rec2 (orK rec1 Φ)) o) : cut_Frontier_L2 Φ s rec2 := by
  unfold cut_Frontier_L2_S at h
  unfold cut_Frontier_L2
  exact ifS h (fun h => (by cases h)) fun h => ifS h (fun h => ifS h (fun h => have t := lfS h hK; t) fun h => (by cases h)) fun h => ifS h (fun h => have t := lfS h hK; t) fun h => (by cases h)
def cut_Frontier_L1_S (x1 : List Int) : (Unit) → Option ((Unit) ⊕ (List Int × Int))
  | _ =>
    if 0 < (([x1] : List (List Int)).length : Int) then
      if inX 0 ([x1] : List (List Int)).length then
      none
      else none
    else
      loopS (cut_Frontier_L2_S) 100000 ()
theorem cut_Frontier_L1_sound (x1 : List Int) (s : Unit) {Φ : List Int × Int → Prop} {rec1 : (Unit) → Prop} {o} (h : cut_Frontier_L1_S x1 s = some o) (hK : (orK rec1 Φ) o) : cut_Frontier_L1 x1 Φ s rec1 := by
  unfold cut_Frontier_L1_S at h
  unfold cut_Frontier_L1
  exact ifS h (fun h => adS h fun h => (by cases h)) fun h => LoopW.of_S (fun s q rec hs hq => cut_Frontier_L2_sound s hs hq) _ _ h hK
def cut_Frontier_L7_S (x0 : api_History) (v5 : List Int) (v6 : List Int) (v13 : Int × Unit) (r14 : List (Int × Unit)) : (Int × List Bool) → Option ((Int × List Bool) ⊕ ((List (Int × Unit) × List Bool) ⊕ ((Int × List (List Bool)) ⊕ ((Int × List Int × List Int) ⊕ (List Int × Int)))))
  | (v15, v16) =>
    if v15 < (x0.Writes.length : Int) then
      if inX v15 v16.length then
      if (ix v16 v15) = true then
        Option.bind (cut_relation_before_S (Ptr.mk (cut_relation.mk (x0.Writes.length : Int) (x0.Events.length : Int) v5 v6)) v15 v13.1) fun z =>
        let v17 : Bool × Unit := (z, ())
        if inX v15 v16.length then
        if inI (v15 + 1) then
        some (.inl ((v15 + 1), (put v16 v15 (decide (¬ (v17.1 = true))))))
        else none
        else none
      else
        if inX v15 v16.length then
        if inI (v15 + 1) then
        some (.inl ((v15 + 1), (put v16 v15 false)))
        else none
        else none
      else none
    else
      some (.inr (.inl (r14, v16)))
theorem cut_Frontier_L7_sound (x0 : api_History) (v5 : List Int) (v6 : List Int) (v13 : Int × Unit) (r14 : List (Int × Unit)) (s : Int × List Bool) {Φ : List Int × Int → Prop} {rec3 : (Int × List Int × List Int) → Prop} {rec4 : (Int × List (List Bool)) → Prop} {rec6 : (List (Int × Unit) × List Bool) → Prop} {rec7 : (Int × List Bool) → Prop} {o} (h : cut_Frontier_L7_S x0 v5 v6 v13 r14 s = some o) (hK : (orK rec7 (orK rec6 (orK rec4 (orK rec3 Φ)))) o) : cut_Frontier_L7 x0 v5 v6 rec6 v13 r14 Φ s rec7 := by
  obtain ⟨v15, v16⟩ := s
  unfold cut_Frontier_L7_S at h
  unfold cut_Frontier_L7
  exact ifS h (fun h => adS h fun h => ifS h (fun h => blS h fun _ hv h => ⟨_, cut_relation_before_sound _ _ _ hv rfl, adS h fun h => adS h fun h => have t := lfS h hK; t⟩) fun h => adS h fun h => adS h fun h => have t := lfS h hK; t) fun h => have t := lfS h hK; t
def cut_Frontier_L6_S (x0 : api_History) (v5 : List Int) (v6 : List Int) : (List (Int × Unit) × List Bool) → Option ((List (Int × Unit) × List Bool) ⊕ ((Int × List (List Bool)) ⊕ ((Int × List Int × List Int) ⊕ (List Int × Int))))
  | (lst, v12) =>
    match lst with
    | [] =>
      Option.bind (cut_marks_list_S v12) fun v18 =>
      some (.inr (.inr (.inr (v18, 0))))
    | v13 :: r14 =>
      loopS (cut_Frontier_L7_S x0 v5 v6 v13 r14) 100000 (0, v12)
theorem cut_Frontier_L6_sound (x0 : api_History) (v5 : List Int) (v6 : List Int) (s : List (Int × Unit) × List Bool) {Φ : List Int × Int → Prop} {rec3 : (Int × List Int × List Int) → Prop} {rec4 : (Int × List (List Bool)) → Prop} {rec6 : (List (Int × Unit) × List Bool) → Prop} {o} (h : cut_Frontier_L6_S x0 v5 v6 s = some o) (hK : (orK rec6 (orK rec4 (orK rec3 Φ))) o) : cut_Frontier_L6 x0 v5 v6 Φ s rec6 := by
  obtain ⟨lst, v12⟩ := s
  unfold cut_Frontier_L6_S at h
  unfold cut_Frontier_L6
  cases lst with
  | nil => exact blS h fun _ hv h => cut_marks_list_sound _ hv (have t := lfS h hK; t)
  | cons _ _ => exact LoopW.of_S (fun s q rec hs hq => cut_Frontier_L7_sound _ _ _ _ _ s hs hq) _ _ h hK
def cut_Frontier_J5_S (x0 : api_History) (v5 : List Int) (v6 : List Int) (v8 : List (List Bool)) : (Bool) → Option ((Int × List (List Bool)) ⊕ ((Int × List Int × List Int) ⊕ (List Int × Int)))
  | v10 =>
    if v10 = true then
      if (27 : Int) ≠ 0 then
        some (.inr (.inr (([] : List Int), 27)))
      else
        none
    else
      if (0 : Int) ≠ 0 then
        some (.inr (.inr (([] : List Int), 0)))
      else
        if inX 0 v8.length then
        Option.bind (slices_Clone_cut_marks_bool_S (ix v8 0)) fun v11 =>
        if inX 0 v8.length then
        Option.bind (cut_marks_members_1_S (ix v8 0)) fun l19 =>
        loopS (cut_Frontier_L6_S x0 v5 v6) 100000 (l19, v11)
        else none
        else none
theorem cut_Frontier_J5_sound (x0 : api_History) (v5 : List Int) (v6 : List Int) (v8 : List (List Bool)) (s : Bool) {Φ : List Int × Int → Prop} {rec3 : (Int × List Int × List Int) → Prop} {rec4 : (Int × List (List Bool)) → Prop} {o} (h : cut_Frontier_J5_S x0 v5 v6 v8 s = some o) (hK : (orK rec4 (orK rec3 Φ)) o) : cut_Frontier_J5 x0 v5 v6 v8 Φ s := by
  unfold cut_Frontier_J5_S at h
  unfold cut_Frontier_J5
  exact ifS h (fun h => ifS h (fun h => have t := lfS h hK; t) fun h => (by cases h)) fun h => ifS h (fun h => have t := lfS h hK; t) fun h => adS h fun h => blS h fun _ hv h => slices_Clone_cut_marks_bool_sound _ hv (adS h fun h => blS h fun _ hv h => ⟨_, cut_marks_members_1_sound _ hv, LoopW.of_S (fun s q rec hs hq => cut_Frontier_L6_sound _ _ _ s hs hq) _ _ h hK⟩)
def cut_Frontier_L8_S (x0 : api_History) (v5 : List Int) (v6 : List Int) (v8 : List (List Bool)) : (Int) → Option ((Int) ⊕ ((Int × List (List Bool)) ⊕ ((Int × List Int × List Int) ⊕ (List Int × Int))))
  | v20 =>
    if v20 < (v8.length : Int) then
      if inX v20 v8.length then
      Option.bind (cut_relation_closed_S (Ptr.mk (cut_relation.mk (x0.Writes.length : Int) (x0.Events.length : Int) v5 v6)) (ix v8 v20)) fun v21 =>
      if ¬ (v21 = true) then
        Option.map (fun z => .inr z) (cut_Frontier_J5_S x0 v5 v6 v8 (decide (0 ≤ v20)))
      else
        if inI (v20 + 1) then
        some (.inl (v20 + 1))
        else none
      else none
    else
      Option.map (fun z => .inr z) (cut_Frontier_J5_S x0 v5 v6 v8 (decide (0 ≤ ((-1) : Int))))
theorem cut_Frontier_L8_sound (x0 : api_History) (v5 : List Int) (v6 : List Int) (v8 : List (List Bool)) (s : Int) {Φ : List Int × Int → Prop} {rec3 : (Int × List Int × List Int) → Prop} {rec4 : (Int × List (List Bool)) → Prop} {rec8 : (Int) → Prop} {o} (h : cut_Frontier_L8_S x0 v5 v6 v8 s = some o) (hK : (orK rec8 (orK rec4 (orK rec3 Φ))) o) : cut_Frontier_L8 x0 v5 v6 v8 Φ s rec8 := by
  unfold cut_Frontier_L8_S at h
  unfold cut_Frontier_L8
  exact ifS h (fun h => adS h fun h => blS h fun _ hv h => cut_relation_closed_sound _ _ hv (ifS h (fun h => mpS h fun _ hx he => cut_Frontier_J5_sound _ _ _ _ _ hx (by subst he; exact hK)) fun h => adS h fun h => have t := lfS h hK; t)) fun h => mpS h fun _ hx he => cut_Frontier_J5_sound _ _ _ _ _ hx (by subst he; exact hK)
def cut_Frontier_L4_S (x0 : api_History) (x1 : List Int) (v5 : List Int) (v6 : List Int) : (Int × List (List Bool)) → Option ((Int × List (List Bool)) ⊕ ((Int × List Int × List Int) ⊕ (List Int × Int)))
  | (v7, v8) =>
    if v7 < (([x1] : List (List Int)).length : Int) then
      if inX v7 ([x1] : List (List Int)).length then
      Option.bind (cut_relation_mark_S (Ptr.mk (cut_relation.mk (x0.Writes.length : Int) (x0.Events.length : Int) v5 v6)) (ix ([x1] : List (List Int)) v7)) fun v9 =>
      if ¬ (v9.2 = true) then
        if (2 : Int) ≠ 0 then
          some (.inr (.inr (([] : List Int), 2)))
        else
          none
      else
        if lenOk (v8 ++ ([v9.1] : List (List Bool))).length 24 then
        if inI (v7 + 1) then
        some (.inl ((v7 + 1), (v8 ++ ([v9.1] : List (List Bool)))))
        else none
        else none
      else none
    else
      loopS (cut_Frontier_L8_S x0 v5 v6 v8) 100000 0
theorem cut_Frontier_L4_sound (x0 : api_History) (x1 : List Int) (v5 : List Int) (v6 : List Int) (s : Int × List (List Bool)) {Φ : List Int × Int → Prop} {rec3 : (Int × List Int × List Int) → Prop} {rec4 : (Int × List (List Bool)) → Prop} {o} (h : cut_Frontier_L4_S x0 x1 v5 v6 s = some o) (hK : (orK rec4 (orK rec3 Φ)) o) : cut_Frontier_L4 x0 x1 v5 v6 Φ s rec4 := by
  obtain ⟨v7, v8⟩ := s
  unfold cut_Frontier_L4_S at h
  unfold cut_Frontier_L4
  exact ifS h (fun h => adS h fun h => blS h fun _ hv h => cut_relation_mark_sound _ _ hv (ifS h (fun h => ifS h (fun h => have t := lfS h hK; t) fun h => (by cases h)) fun h => adS h fun h => adS h fun h => have t := lfS h hK; t)) fun h => LoopW.of_S (fun s q rec hs hq => cut_Frontier_L8_sound _ _ _ _ s hs hq) _ _ h hK
def cut_Frontier_L3_S (x0 : api_History) (x1 : List Int) : (Int × List Int × List Int) → Option ((Int × List Int × List Int) ⊕ (List Int × Int))
  | (v4, v5, v6) =>
    if v4 < (x0.Events.length : Int) then
      if inX v4 x0.Events.length then
      if ((ix x0.Events v4).Kind) = 0 then
        if inX ((ix x0.Events v4).Write) v5.length then
        if inI (v4 + 1) then
        some (.inl ((v4 + 1), (put v5 ((ix x0.Events v4).Write) v4), v6))
        else none
        else none
      else
        if inX ((ix x0.Events v4).Write) v6.length then
        if inI (v4 + 1) then
        some (.inl ((v4 + 1), v5, (put v6 ((ix x0.Events v4).Write) v4)))
        else none
        else none
      else none
    else
      if (0 : Int) ≠ 0 then
        if (0 : Int) ≠ 0 then
          some (.inr (([] : List Int), 0))
        else
          none
      else
        loopS (cut_Frontier_L4_S x0 x1 v5 v6) 100000 (0, ([] : List (List Bool)))
theorem cut_Frontier_L3_sound (x0 : api_History) (x1 : List Int) (s : Int × List Int × List Int) {Φ : List Int × Int → Prop} {rec3 : (Int × List Int × List Int) → Prop} {o} (h : cut_Frontier_L3_S x0 x1 s = some o) (hK : (orK rec3 Φ) o) : cut_Frontier_L3 x0 x1 Φ s rec3 := by
  obtain ⟨v4, v5, v6⟩ := s
  unfold cut_Frontier_L3_S at h
  unfold cut_Frontier_L3
  exact ifS h (fun h => adS h fun h => ifS h (fun h => adS h fun h => adS h fun h => have t := lfS h hK; t) fun h => adS h fun h => adS h fun h => have t := lfS h hK; t) fun h => ifS h (fun h => ifS h (fun h => have t := lfS h hK; t) fun h => (by cases h)) fun h => LoopW.of_S (fun s q rec hs hq => cut_Frontier_L4_sound _ _ _ _ s hs hq) _ _ h hK
def cut_Frontier_S (x0 : api_History) (x1 : List Int) : Option (List Int × Int) :=
  Option.bind (history_Check_S x0) fun v1 =>
  if v1 ≠ 0 then
    if v1 ≠ 0 then
      if v1 ≠ 0 then
        some ((([] : List Int), v1))
      else
        none
    else
      loopS (cut_Frontier_L1_S x1) 100000 ()
  else
    Option.bind (slices_Repeat_int_int_S ([(x0.Events.length : Int)] : List Int) (x0.Writes.length : Int)) fun z =>
    let v2 : List Int × Unit := (z, ())
    Option.bind (slices_Repeat_int_int_S ([(x0.Events.length : Int)] : List Int) (x0.Writes.length : Int)) fun z =>
    let v3 : List Int × Unit := (z, ())
    loopS (cut_Frontier_L3_S x0 x1) 100000 (0, v2.1, v3.1)
theorem cut_Frontier_sound (x0 : api_History) (x1 : List Int) {Φ : List Int × Int → Prop} {o} (h : cut_Frontier_S x0 x1 = some o) (hK : Φ o) : cut_Frontier_W x0 x1 Φ := by
  unfold cut_Frontier_S at h
  unfold cut_Frontier_W
  exact blS h fun _ hv h => history_Check_sound _ hv (ifS h (fun h => ifS h (fun h => ifS h (fun h => have t := lfS h hK; t) fun h => (by cases h)) fun h => LoopW.of_S (fun s q rec hs hq => cut_Frontier_L1_sound _ s hs hq) _ _ h hK) fun h => blS h fun _ hv h => ⟨_, slices_Repeat_int_int_sound _ _ hv rfl, blS h fun _ hv h => ⟨_, slices_Repeat_int_int_sound _ _ hv rfl, LoopW.of_S (fun s q rec hs hq => cut_Frontier_L3_sound _ _ s hs hq) _ _ h hK⟩⟩)
def cut_Age_L2_S : (Unit) → Option ((Unit) ⊕ ((Unit) ⊕ (Int × Int)))
  | _ =>
    if (0 : Int) < 0 then
      none
    else
      if 0 ≤ ((-1) : Int) then
        if (27 : Int) ≠ 0 then
          some (.inr (.inr (0, 27)))
        else
          none
      else
        if (0 : Int) ≠ 0 then
          some (.inr (.inr (0, 0)))
        else
          none
theorem cut_Age_L2_sound (s : Unit) {Φ : Int × Int → Prop} {rec1 : (Unit) → Prop} {rec2 : (Unit) → Prop} {o} (h : cut_Age_L2_S s = some o) (hK : (orK rec2 (orK rec1 Φ)) o) : cut_Age_L2 Φ s rec2 := by
  unfold cut_Age_L2_S at h
  unfold cut_Age_L2
  exact ifS h (fun h => (by cases h)) fun h => ifS h (fun h => ifS h (fun h => have t := lfS h hK; t) fun h => (by cases h)) fun h => ifS h (fun h => have t := lfS h hK; t) fun h => (by cases h)
def cut_Age_L1_S (x1 : List Int) : (Unit) → Option ((Unit) ⊕ (Int × Int))
  | _ =>
    if 0 < (([x1] : List (List Int)).length : Int) then
      if inX 0 ([x1] : List (List Int)).length then
      none
      else none
    else
      loopS (cut_Age_L2_S) 100000 ()
theorem cut_Age_L1_sound (x1 : List Int) (s : Unit) {Φ : Int × Int → Prop} {rec1 : (Unit) → Prop} {o} (h : cut_Age_L1_S x1 s = some o) (hK : (orK rec1 Φ) o) : cut_Age_L1 x1 Φ s rec1 := by
  unfold cut_Age_L1_S at h
  unfold cut_Age_L1
  exact ifS h (fun h => adS h fun h => (by cases h)) fun h => LoopW.of_S (fun s q rec hs hq => cut_Age_L2_sound s hs hq) _ _ h hK
def cut_Age_J7_S (v11 : Int) (v12 : Int) : (Bool) → Option ((Int × Int) ⊕ ((Int × List (List Bool)) ⊕ ((Int × List Int × List Int) ⊕ (Int × Int))))
  | v13 =>
    if v13 = true then
      if inI (v11 + 1) then
      if inI (v12 + 1) then
      some (.inl ((v11 + 1), (v12 + 1)))
      else none
      else none
    else
      if inI (v12 + 1) then
      some (.inl (v11, (v12 + 1)))
      else none
theorem cut_Age_J7_sound (v11 : Int) (v12 : Int) (s : Bool) {Φ : Int × Int → Prop} {rec3 : (Int × List Int × List Int) → Prop} {rec4 : (Int × List (List Bool)) → Prop} {rec6 : (Int × Int) → Prop} {o} (h : cut_Age_J7_S v11 v12 s = some o) (hK : (orK rec6 (orK rec4 (orK rec3 Φ))) o) : cut_Age_J7 v11 v12 rec6 Φ s := by
  unfold cut_Age_J7_S at h
  unfold cut_Age_J7
  exact ifS h (fun h => adS h fun h => adS h fun h => have t := lfS h hK; t) fun h => adS h fun h => have t := lfS h hK; t
def cut_Age_L6_S (x0 : api_History) (v6 : List Int) (v8 : List (List Bool)) : (Int × Int) → Option ((Int × Int) ⊕ ((Int × List (List Bool)) ⊕ ((Int × List Int × List Int) ⊕ (Int × Int))))
  | (v11, v12) =>
    if v12 < (x0.Writes.length : Int) then
      if inX v12 v6.length then
      if (ix v6 v12) < (x0.Events.length : Int) then
        if inX 0 v8.length then
        if inX v12 (ix v8 0).length then
        cut_Age_J7_S v11 v12 (decide (¬ ((ix (ix v8 0) v12) = true)))
        else none
        else none
      else
        cut_Age_J7_S v11 v12 false
      else none
    else
      some (.inr (.inr (.inr (v11, 0))))
theorem cut_Age_L6_sound (x0 : api_History) (v6 : List Int) (v8 : List (List Bool)) (s : Int × Int) {Φ : Int × Int → Prop} {rec3 : (Int × List Int × List Int) → Prop} {rec4 : (Int × List (List Bool)) → Prop} {rec6 : (Int × Int) → Prop} {o} (h : cut_Age_L6_S x0 v6 v8 s = some o) (hK : (orK rec6 (orK rec4 (orK rec3 Φ))) o) : cut_Age_L6 x0 v6 v8 Φ s rec6 := by
  obtain ⟨v11, v12⟩ := s
  unfold cut_Age_L6_S at h
  unfold cut_Age_L6
  exact ifS h (fun h => adS h fun h => ifS h (fun h => adS h fun h => adS h fun h => cut_Age_J7_sound _ _ _ h hK) fun h => cut_Age_J7_sound _ _ _ h hK) fun h => have t := lfS h hK; t
def cut_Age_J5_S (x0 : api_History) (v6 : List Int) (v8 : List (List Bool)) : (Bool) → Option ((Int × List (List Bool)) ⊕ ((Int × List Int × List Int) ⊕ (Int × Int)))
  | v10 =>
    if v10 = true then
      if (27 : Int) ≠ 0 then
        some (.inr (.inr (0, 27)))
      else
        none
    else
      if (0 : Int) ≠ 0 then
        some (.inr (.inr (0, 0)))
      else
        loopS (cut_Age_L6_S x0 v6 v8) 100000 (0, 0)
theorem cut_Age_J5_sound (x0 : api_History) (v6 : List Int) (v8 : List (List Bool)) (s : Bool) {Φ : Int × Int → Prop} {rec3 : (Int × List Int × List Int) → Prop} {rec4 : (Int × List (List Bool)) → Prop} {o} (h : cut_Age_J5_S x0 v6 v8 s = some o) (hK : (orK rec4 (orK rec3 Φ)) o) : cut_Age_J5 x0 v6 v8 Φ s := by
  unfold cut_Age_J5_S at h
  unfold cut_Age_J5
  exact ifS h (fun h => ifS h (fun h => have t := lfS h hK; t) fun h => (by cases h)) fun h => ifS h (fun h => have t := lfS h hK; t) fun h => LoopW.of_S (fun s q rec hs hq => cut_Age_L6_sound _ _ _ s hs hq) _ _ h hK
def cut_Age_L8_S (x0 : api_History) (v5 : List Int) (v6 : List Int) (v8 : List (List Bool)) : (Int) → Option ((Int) ⊕ ((Int × List (List Bool)) ⊕ ((Int × List Int × List Int) ⊕ (Int × Int))))
  | v14 =>
    if v14 < (v8.length : Int) then
      if inX v14 v8.length then
      Option.bind (cut_relation_closed_S (Ptr.mk (cut_relation.mk (x0.Writes.length : Int) (x0.Events.length : Int) v5 v6)) (ix v8 v14)) fun v15 =>
      if ¬ (v15 = true) then
        Option.map (fun z => .inr z) (cut_Age_J5_S x0 v6 v8 (decide (0 ≤ v14)))
      else
        if inI (v14 + 1) then
        some (.inl (v14 + 1))
        else none
      else none
    else
      Option.map (fun z => .inr z) (cut_Age_J5_S x0 v6 v8 (decide (0 ≤ ((-1) : Int))))
theorem cut_Age_L8_sound (x0 : api_History) (v5 : List Int) (v6 : List Int) (v8 : List (List Bool)) (s : Int) {Φ : Int × Int → Prop} {rec3 : (Int × List Int × List Int) → Prop} {rec4 : (Int × List (List Bool)) → Prop} {rec8 : (Int) → Prop} {o} (h : cut_Age_L8_S x0 v5 v6 v8 s = some o) (hK : (orK rec8 (orK rec4 (orK rec3 Φ))) o) : cut_Age_L8 x0 v5 v6 v8 Φ s rec8 := by
  unfold cut_Age_L8_S at h
  unfold cut_Age_L8
  exact ifS h (fun h => adS h fun h => blS h fun _ hv h => cut_relation_closed_sound _ _ hv (ifS h (fun h => mpS h fun _ hx he => cut_Age_J5_sound _ _ _ _ hx (by subst he; exact hK)) fun h => adS h fun h => have t := lfS h hK; t)) fun h => mpS h fun _ hx he => cut_Age_J5_sound _ _ _ _ hx (by subst he; exact hK)
def cut_Age_L4_S (x0 : api_History) (x1 : List Int) (v5 : List Int) (v6 : List Int) : (Int × List (List Bool)) → Option ((Int × List (List Bool)) ⊕ ((Int × List Int × List Int) ⊕ (Int × Int)))
  | (v7, v8) =>
    if v7 < (([x1] : List (List Int)).length : Int) then
      if inX v7 ([x1] : List (List Int)).length then
      Option.bind (cut_relation_mark_S (Ptr.mk (cut_relation.mk (x0.Writes.length : Int) (x0.Events.length : Int) v5 v6)) (ix ([x1] : List (List Int)) v7)) fun v9 =>
      if ¬ (v9.2 = true) then
        if (2 : Int) ≠ 0 then
          some (.inr (.inr (0, 2)))
        else
          none
      else
        if lenOk (v8 ++ ([v9.1] : List (List Bool))).length 24 then
        if inI (v7 + 1) then
        some (.inl ((v7 + 1), (v8 ++ ([v9.1] : List (List Bool)))))
        else none
        else none
      else none
    else
      loopS (cut_Age_L8_S x0 v5 v6 v8) 100000 0
theorem cut_Age_L4_sound (x0 : api_History) (x1 : List Int) (v5 : List Int) (v6 : List Int) (s : Int × List (List Bool)) {Φ : Int × Int → Prop} {rec3 : (Int × List Int × List Int) → Prop} {rec4 : (Int × List (List Bool)) → Prop} {o} (h : cut_Age_L4_S x0 x1 v5 v6 s = some o) (hK : (orK rec4 (orK rec3 Φ)) o) : cut_Age_L4 x0 x1 v5 v6 Φ s rec4 := by
  obtain ⟨v7, v8⟩ := s
  unfold cut_Age_L4_S at h
  unfold cut_Age_L4
  exact ifS h (fun h => adS h fun h => blS h fun _ hv h => cut_relation_mark_sound _ _ hv (ifS h (fun h => ifS h (fun h => have t := lfS h hK; t) fun h => (by cases h)) fun h => adS h fun h => adS h fun h => have t := lfS h hK; t)) fun h => LoopW.of_S (fun s q rec hs hq => cut_Age_L8_sound _ _ _ _ s hs hq) _ _ h hK
def cut_Age_L3_S (x0 : api_History) (x1 : List Int) : (Int × List Int × List Int) → Option ((Int × List Int × List Int) ⊕ (Int × Int))
  | (v4, v5, v6) =>
    if v4 < (x0.Events.length : Int) then
      if inX v4 x0.Events.length then
      if ((ix x0.Events v4).Kind) = 0 then
        if inX ((ix x0.Events v4).Write) v5.length then
        if inI (v4 + 1) then
        some (.inl ((v4 + 1), (put v5 ((ix x0.Events v4).Write) v4), v6))
        else none
        else none
      else
        if inX ((ix x0.Events v4).Write) v6.length then
        if inI (v4 + 1) then
        some (.inl ((v4 + 1), v5, (put v6 ((ix x0.Events v4).Write) v4)))
        else none
        else none
      else none
    else
      if (0 : Int) ≠ 0 then
        if (0 : Int) ≠ 0 then
          some (.inr (0, 0))
        else
          none
      else
        loopS (cut_Age_L4_S x0 x1 v5 v6) 100000 (0, ([] : List (List Bool)))
theorem cut_Age_L3_sound (x0 : api_History) (x1 : List Int) (s : Int × List Int × List Int) {Φ : Int × Int → Prop} {rec3 : (Int × List Int × List Int) → Prop} {o} (h : cut_Age_L3_S x0 x1 s = some o) (hK : (orK rec3 Φ) o) : cut_Age_L3 x0 x1 Φ s rec3 := by
  obtain ⟨v4, v5, v6⟩ := s
  unfold cut_Age_L3_S at h
  unfold cut_Age_L3
  exact ifS h (fun h => adS h fun h => ifS h (fun h => adS h fun h => adS h fun h => have t := lfS h hK; t) fun h => adS h fun h => adS h fun h => have t := lfS h hK; t) fun h => ifS h (fun h => ifS h (fun h => have t := lfS h hK; t) fun h => (by cases h)) fun h => LoopW.of_S (fun s q rec hs hq => cut_Age_L4_sound _ _ _ _ s hs hq) _ _ h hK
def cut_Age_S (x0 : api_History) (x1 : List Int) : Option (Int × Int) :=
  Option.bind (history_Check_S x0) fun v1 =>
  if v1 ≠ 0 then
    if v1 ≠ 0 then
      if v1 ≠ 0 then
        some ((0, v1))
      else
        none
    else
      loopS (cut_Age_L1_S x1) 100000 ()
  else
    Option.bind (slices_Repeat_int_int_S ([(x0.Events.length : Int)] : List Int) (x0.Writes.length : Int)) fun z =>
    let v2 : List Int × Unit := (z, ())
    Option.bind (slices_Repeat_int_int_S ([(x0.Events.length : Int)] : List Int) (x0.Writes.length : Int)) fun z =>
    let v3 : List Int × Unit := (z, ())
    loopS (cut_Age_L3_S x0 x1) 100000 (0, v2.1, v3.1)
theorem cut_Age_sound (x0 : api_History) (x1 : List Int) {Φ : Int × Int → Prop} {o} (h : cut_Age_S x0 x1 = some o) (hK : Φ o) : cut_Age_W x0 x1 Φ := by
  unfold cut_Age_S at h
  unfold cut_Age_W
  exact blS h fun _ hv h => history_Check_sound _ hv (ifS h (fun h => ifS h (fun h => ifS h (fun h => have t := lfS h hK; t) fun h => (by cases h)) fun h => LoopW.of_S (fun s q rec hs hq => cut_Age_L1_sound _ s hs hq) _ _ h hK) fun h => blS h fun _ hv h => ⟨_, slices_Repeat_int_int_sound _ _ hv rfl, blS h fun _ hv h => ⟨_, slices_Repeat_int_int_sound _ _ hv rfl, LoopW.of_S (fun s q rec hs hq => cut_Age_L3_sound _ _ s hs hq) _ _ h hK⟩⟩)
def ref15_SameInts_L1_S (x0 : List Int) (x1 : List Int) : (Int) → Option ((Int) ⊕ (Bool))
  | v1 =>
    if v1 < (x0.length : Int) then
      if inX v1 x0.length then
      if inX v1 x1.length then
      if (ix x0 v1) ≠ (ix x1 v1) then
        some (.inr false)
      else
        if inI (v1 + 1) then
        some (.inl (v1 + 1))
        else none
      else none
      else none
    else
      some (.inr true)
theorem ref15_SameInts_L1_sound (x0 : List Int) (x1 : List Int) (s : Int) {Φ : Bool → Prop} {rec1 : (Int) → Prop} {o} (h : ref15_SameInts_L1_S x0 x1 s = some o) (hK : (orK rec1 Φ) o) : ref15_SameInts_L1 x0 x1 Φ s rec1 := by
  unfold ref15_SameInts_L1_S at h
  unfold ref15_SameInts_L1
  exact ifS h (fun h => adS h fun h => adS h fun h => ifS h (fun h => have t := lfS h hK; t) fun h => adS h fun h => have t := lfS h hK; t) fun h => have t := lfS h hK; t
def ref15_SameInts_S (x0 : List Int) (x1 : List Int) : Option (Bool) :=
  if (x0.length : Int) ≠ (x1.length : Int) then
    some (false)
  else
    loopS (ref15_SameInts_L1_S x0 x1) 100000 0
theorem ref15_SameInts_sound (x0 : List Int) (x1 : List Int) {Φ : Bool → Prop} {o} (h : ref15_SameInts_S x0 x1 = some o) (hK : Φ o) : ref15_SameInts_W x0 x1 Φ := by
  unfold ref15_SameInts_S at h
  unfold ref15_SameInts_W
  exact ifS h (fun h => have t := lfS h hK; t) fun h => LoopW.of_S (fun s q rec hs hq => ref15_SameInts_L1_sound _ _ s hs hq) _ _ h hK
def ref16_SameLists_L1_S (x0 : List (List Int)) (x1 : List (List Int)) : (Int) → Option ((Int) ⊕ (Bool))
  | v1 =>
    if v1 < (x0.length : Int) then
      if inX v1 x0.length then
      if inX v1 x1.length then
      Option.bind (ref15_SameInts_S (ix x0 v1) (ix x1 v1)) fun z =>
      let v2 : Bool × Unit := (z, ())
      if ¬ (v2.1 = true) then
        some (.inr false)
      else
        if inI (v1 + 1) then
        some (.inl (v1 + 1))
        else none
      else none
      else none
    else
      some (.inr true)
theorem ref16_SameLists_L1_sound (x0 : List (List Int)) (x1 : List (List Int)) (s : Int) {Φ : Bool → Prop} {rec1 : (Int) → Prop} {o} (h : ref16_SameLists_L1_S x0 x1 s = some o) (hK : (orK rec1 Φ) o) : ref16_SameLists_L1 x0 x1 Φ s rec1 := by
  unfold ref16_SameLists_L1_S at h
  unfold ref16_SameLists_L1
  exact ifS h (fun h => adS h fun h => adS h fun h => blS h fun _ hv h => ⟨_, ref15_SameInts_sound _ _ hv rfl, ifS h (fun h => have t := lfS h hK; t) fun h => adS h fun h => have t := lfS h hK; t⟩) fun h => have t := lfS h hK; t
def ref16_SameLists_S (x0 : List (List Int)) (x1 : List (List Int)) : Option (Bool) :=
  if (x0.length : Int) ≠ (x1.length : Int) then
    some (false)
  else
    loopS (ref16_SameLists_L1_S x0 x1) 100000 0
theorem ref16_SameLists_sound (x0 : List (List Int)) (x1 : List (List Int)) {Φ : Bool → Prop} {o} (h : ref16_SameLists_S x0 x1 = some o) (hK : Φ o) : ref16_SameLists_W x0 x1 Φ := by
  unfold ref16_SameLists_S at h
  unfold ref16_SameLists_W
  exact ifS h (fun h => have t := lfS h hK; t) fun h => LoopW.of_S (fun s q rec hs hq => ref16_SameLists_L1_sound _ _ s hs hq) _ _ h hK
def slices_Equal_int_int_L1_S (x0 : List Int) (x1 : List Int) : (Int) → Option ((Int) ⊕ (Bool))
  | v1 =>
    if v1 < (x0.length : Int) then
      if inX v1 x0.length then
      if inX v1 x1.length then
      if (ix x0 v1) ≠ (ix x1 v1) then
        some (.inr false)
      else
        if inI (v1 + 1) then
        some (.inl (v1 + 1))
        else none
      else none
      else none
    else
      some (.inr true)
theorem slices_Equal_int_int_L1_sound (x0 : List Int) (x1 : List Int) (s : Int) {Φ : Bool → Prop} {rec1 : (Int) → Prop} {o} (h : slices_Equal_int_int_L1_S x0 x1 s = some o) (hK : (orK rec1 Φ) o) : slices_Equal_int_int_L1 x0 x1 Φ s rec1 := by
  unfold slices_Equal_int_int_L1_S at h
  unfold slices_Equal_int_int_L1
  exact ifS h (fun h => adS h fun h => adS h fun h => ifS h (fun h => have t := lfS h hK; t) fun h => adS h fun h => have t := lfS h hK; t) fun h => have t := lfS h hK; t
def slices_Equal_int_int_S (x0 : List Int) (x1 : List Int) : Option (Bool) :=
  if (x0.length : Int) ≠ (x1.length : Int) then
    some (false)
  else
    loopS (slices_Equal_int_int_L1_S x0 x1) 100000 0
theorem slices_Equal_int_int_sound (x0 : List Int) (x1 : List Int) {Φ : Bool → Prop} {o} (h : slices_Equal_int_int_S x0 x1 = some o) (hK : Φ o) : slices_Equal_int_int_W x0 x1 Φ := by
  unfold slices_Equal_int_int_S at h
  unfold slices_Equal_int_int_W
  exact ifS h (fun h => have t := lfS h hK; t) fun h => LoopW.of_S (fun s q rec hs hq => slices_Equal_int_int_L1_sound _ _ s hs hq) _ _ h hK
def law16_awake_J1_S (v4 : List Int × Int) (v5 : List Int × Int) (v6 : List Int × Int) (v7 : Int × Int) (v8 : Int × Int) : (Bool) → Option (Bool)
  | v9 =>
    if v9 = true then
      Option.bind (slices_Equal_int_int_S v4.1 ([0, 2] : List Int)) fun v10 =>
      if v10 = true then
        Option.bind (slices_Equal_int_int_S v5.1 ([1] : List Int)) fun v11 =>
        if v11 = true then
          Option.bind (slices_Equal_int_int_S v6.1 ([1, 2] : List Int)) fun v12 =>
          if v12 = true then
            if v7.1 = 2 then
              some (decide (v8.1 = 0))
            else
              some (false)
          else
            some (false)
        else
          some (false)
      else
        some (false)
    else
      some (false)
theorem law16_awake_J1_sound (v4 : List Int × Int) (v5 : List Int × Int) (v6 : List Int × Int) (v7 : Int × Int) (v8 : Int × Int) (s : Bool) {Φ : Bool → Prop} {o} (h : law16_awake_J1_S v4 v5 v6 v7 v8 s = some o) (hK : Φ o) : law16_awake_J1 v4 v5 v6 v7 v8 Φ s := by
  unfold law16_awake_J1_S at h
  unfold law16_awake_J1
  exact ifS h (fun h => blS h fun _ hv h => slices_Equal_int_int_sound _ _ hv (ifS h (fun h => blS h fun _ hv h => slices_Equal_int_int_sound _ _ hv (ifS h (fun h => blS h fun _ hv h => slices_Equal_int_int_sound _ _ hv (ifS h (fun h => ifS h (fun h => have t := lfS h hK; t) fun h => have t := lfS h hK; t) fun h => have t := lfS h hK; t)) fun h => have t := lfS h hK; t)) fun h => have t := lfS h hK; t)) fun h => have t := lfS h hK; t
def law16_awake_S : Option (Bool) :=
  Option.bind (law16_example_S) fun v1 =>
  Option.bind (cut_All_S v1 6) fun v2 =>
  Option.bind (cut_All_S v1 5) fun v3 =>
  Option.bind (cut_Least_S v1 ([2] : List Int)) fun v4 =>
  Option.bind (cut_Greatest_S v1 ([1, 2] : List Int)) fun v5 =>
  Option.bind (cut_Frontier_S v1 ([0, 1, 2] : List Int)) fun v6 =>
  Option.bind (cut_Age_S v1 ([1] : List Int)) fun v7 =>
  Option.bind (cut_Age_S v1 ([0, 2] : List Int)) fun v8 =>
  if inI (v2.2 + v4.2) then
  if inI ((v2.2 + v4.2) + v5.2) then
  if inI (((v2.2 + v4.2) + v5.2) + v6.2) then
  if inI ((((v2.2 + v4.2) + v5.2) + v6.2) + v7.2) then
  if inI (((((v2.2 + v4.2) + v5.2) + v6.2) + v7.2) + v8.2) then
  if (((((v2.2 + v4.2) + v5.2) + v6.2) + v7.2) + v8.2) = 0 then
    if v3.2 = 6 then
      Option.bind (ref16_SameLists_S v2.1 ([([] : List Int), ([0] : List Int), ([1] : List Int), ([0, 1] : List Int), ([0, 2] : List Int), ([0, 1, 2] : List Int)] : List (List Int))) fun v13 =>
      law16_awake_J1_S v4 v5 v6 v7 v8 v13
    else
      law16_awake_J1_S v4 v5 v6 v7 v8 false
  else
    law16_awake_J1_S v4 v5 v6 v7 v8 false
  else none
  else none
  else none
  else none
  else none
theorem law16_awake_sound {Φ : Bool → Prop} {o} (h : law16_awake_S = some o) (hK : Φ o) : law16_awake_W Φ := by
  unfold law16_awake_S at h
  unfold law16_awake_W
  exact blS h fun _ hv h => law16_example_sound hv (blS h fun _ hv h => cut_All_sound _ _ hv (blS h fun _ hv h => cut_All_sound _ _ hv (blS h fun _ hv h => cut_Least_sound _ _ hv (blS h fun _ hv h => cut_Greatest_sound _ _ hv (blS h fun _ hv h => cut_Frontier_sound _ _ hv (blS h fun _ hv h => cut_Age_sound _ _ hv (blS h fun _ hv h => cut_Age_sound _ _ hv (adS h fun h => adS h fun h => adS h fun h => adS h fun h => adS h fun h => ifS h (fun h => ifS h (fun h => blS h fun _ hv h => ref16_SameLists_sound _ _ hv (law16_awake_J1_sound _ _ _ _ _ _ h hK)) fun h => law16_awake_J1_sound _ _ _ _ _ _ h hK) fun h => law16_awake_J1_sound _ _ _ _ _ _ h hK))))))))
theorem law16_awake_ok {Φ : Bool → Prop} (h : Φ true) : law16_awake_W Φ := law16_awake_sound (o := true) (by kernel_rfl) h
theorem cntI_mono (l : List api_HistoryEvent) : ∀ {i : Nat} (m : Nat), cntI l i ≤ cntI l (i + m)
  | _, 0 => Nat.le_refl _
  | i, m + 1 => by
    have ih := cntI_mono l (i := i) m
    by_cases q : (ix l ((i + m : Nat) : Int)).Kind = 0
    · rw [show i + (m + 1) = (i + m) + 1 by omega, cnt_issue q]; omega
    · rw [show i + (m + 1) = (i + m) + 1 by omega, cnt_ack q]; exact ih
theorem iss_at {h : api_History} (hz : histE h = 0) {a : Nat} (ha : a < h.Writes.length) : ∃ k : Nat, k < h.Events.length ∧ atN h.Events h.Events.length ⟨0, (a : Int)⟩ = (k : Int) ∧ (ix h.Events (k : Int)).Kind = 0 ∧ cntI h.Events k = a := by
  obtain ⟨k, hk, e1, e2⟩ := atN_at (iss_nn hz ha)
  have kd : (ix h.Events (k : Int)).Kind = 0 := by rw [e2]
  have := (evErr_issue (hist_ev hz hk) kd).1
  rw [e2] at this
  have e3 : (a : Int) = (cntI h.Events k : Int) := congrArg api_HistoryEvent.Write this
  exact ⟨k, hk, e1, kd, by omega⟩
theorem iss_mono {h : api_History} (hz : histE h = 0) {a b : Nat} (ha : a < h.Writes.length) (hb : b < h.Writes.length) (q : atN h.Events h.Events.length ⟨0, (a : Int)⟩ < atN h.Events h.Events.length ⟨0, (b : Int)⟩) : a < b := by
  obtain ⟨i, hi, e1, k1, c1⟩ := iss_at hz ha
  obtain ⟨j, hj, e2, k2, c2⟩ := iss_at hz hb
  have m := cntI_mono h.Events (i := i + 1) (j - (i + 1))
  rw [cnt_issue k1, show i + 1 + (j - (i + 1)) = j by omega] at m
  omega
theorem first_closed {h : api_History} (hz : histE h = 0) {k : Nat} (hk : k ≤ h.Writes.length) : ClosedS h (selL k fun _ => true) := fun a b ha hb hab => by
  have hb := mem_selN.1 hb
  exact mem_selN.2 ⟨by have := iss_mono hz ha (by omega) (befP_iss hz hab); omega, rfl⟩
theorem first_set {h : api_History} {k : Nat} (hk : k ≤ h.Writes.length) : isSetB (selL k fun _ => true) (h.Writes.length : Int) = true := selL_set (n := h.Writes.length) hk (Int.le_refl _)
def akK (h : api_History) (k : Nat) : List Int := selL h.Writes.length fun w => decide (0 ≤ atN h.Events k ⟨1, (w : Int)⟩)
theorem atN_le {l : List api_HistoryEvent} {e : api_HistoryEvent} {k n : Nat} (hk : k ≤ n) : 0 ≤ atN l k e ↔ 0 ≤ atN l n e ∧ atN l n e < (k : Int) := by
  constructor
  · intro t
    have m := atN_mono t (n - k)
    rw [show k + (n - k) = n by omega] at m
    exact ⟨by omega, by have := atN_top l k e; omega⟩
  · rintro ⟨t, u⟩
    obtain ⟨j, _, e1, e2⟩ := atN_at t
    exact idxN_nonneg.2 ⟨j, by omega, decide_eq_true e2⟩
theorem akK_closed {h : api_History} (hz : histE h = 0) {k : Nat} (hk : k ≤ h.Events.length) : ClosedS h (akK h k) := fun a b ha hb hab => by
  have hb := mem_selN.1 hb
  have t := (atN_le hk).1 (of_decide_eq_true hb.2)
  have i := (ack_issue hz t.1).2.2
  unfold befP at hab
  rw [decide_eq_true_iff] at hab
  exact mem_selN.2 ⟨ha, decide_eq_true ((atN_le hk).2 ⟨hab.1, by omega⟩)⟩
theorem akK_set {h : api_History} {k : Nat} : isSetB (akK h k) (h.Writes.length : Int) = true := selL_set (Nat.le_refl _) (Int.le_refl _)
theorem cntL_flip {p q : Nat → Bool} {w0 : Nat} (hp : p w0 = false) (hq : q w0 = true) : ∀ {n : Nat}, w0 < n → (∀ w, w < n → w ≠ w0 → p w = q w) → cntL n q = cntL n p + 1
  | 0, hw, _ => absurd hw (Nat.not_lt_zero _)
  | n + 1, hw, h => by
    rw [cntL_succ, cntL_succ]
    by_cases e : w0 = n
    · subst e
      have : cntL w0 q = cntL w0 p := cntL_congr fun w hw2 => (h w (by omega) (by omega)).symm
      rw [this, hp, hq, if_pos rfl, if_neg (by simp)]
    · have ih := cntL_flip hp hq (n := n) (by omega) fun w hw2 => h w (by omega)
      rw [ih, h n (by omega) fun t => e t.symm]
      omega
theorem late_eq {h : api_History} (hz : histE h = 0) {k : Nat} : ∀ {m : Nat}, k + m ≤ h.Events.length → cntL h.Writes.length (fun w => decide (0 ≤ atN h.Events (k + m) ⟨1, (w : Int)⟩) && !decide (0 ≤ atN h.Events k ⟨1, (w : Int)⟩)) = cntL m fun j => decide ((ix h.Events ((k + j : Nat) : Int)).Kind = 1)
  | 0, _ => by
    have z : ∀ n, cntL n (fun _ => false) = 0 := fun n => by unfold cntL; simp
    rw [cntL_congr (q := fun _ => false) fun w _ => by
      show (decide (0 ≤ atN h.Events k ⟨1, (w : Int)⟩) && !decide (0 ≤ atN h.Events k ⟨1, (w : Int)⟩)) = false
      cases decide (0 ≤ atN h.Events k ⟨1, (w : Int)⟩) <;> rfl, z]
    rfl
  | m + 1, hm => by
    have ih := late_eq hz (k := k) (m := m) (by omega)
    have ev := hist_ev hz (k := k + m) (by omega)
    rw [cntL_succ, ← ih]
    by_cases q : (ix h.Events ((k + m : Nat) : Int)).Kind = 0
    · rw [if_neg (by rw [q]; decide), Nat.add_zero]
      refine cntL_congr fun w _ => ?_
      rw [show k + (m + 1) = (k + m) + 1 by omega, atN_keep fun t => absurd q (by rw [t]; exact fun u => absurd (show (1 : Int) = 0 from u) (by decide))]
    · obtain ⟨e1, h1, h2, h3⟩ := evErr_ack ev q
      have c := cnt_le (l := h.Events) (n := h.Writes.length) (k := k + m) fun j hj => hist_ev hz (by omega)
      have e2 : (((ix h.Events ((k + m : Nat) : Int)).Write.toNat : Nat) : Int) = (ix h.Events ((k + m : Nat) : Int)).Write := Int.toNat_of_nonneg h1
      have e3 : ix h.Events ((k + m : Nat) : Int) = ⟨1, (((ix h.Events ((k + m : Nat) : Int)).Write.toNat : Nat) : Int)⟩ := by rw [e2]; exact e1
      rw [e3] at h3
      rw [if_pos (by rw [e1]; rfl)]
      refine cntL_flip (w0 := (ix h.Events ((k + m : Nat) : Int)).Write.toNat) ?_ ?_ (by omega) fun w _ hne => ?_
      · rw [h3]; rfl
      · have n0 : ¬ 0 ≤ atN h.Events k ⟨1, (((ix h.Events ((k + m : Nat) : Int)).Write.toNat : Nat) : Int)⟩ := fun t => by
          have := atN_mono t m
          rw [h3] at this; omega
        have n1 : atN h.Events (k + m + 1) ⟨1, (((ix h.Events ((k + m : Nat) : Int)).Write.toNat : Nat) : Int)⟩ = ((k + m : Nat) : Int) := by
          rw [atN_succ, if_neg (by rw [h3]; omega), if_pos e3]
        rw [show k + (m + 1) = k + m + 1 by omega, n1, decide_eq_true (show (0 : Int) ≤ ((k + m : Nat) : Int) by omega), decide_eq_false n0]; rfl
      · rw [show k + (m + 1) = k + m + 1 by omega, atN_keep fun t => hne ?_]
        have := congrArg api_HistoryEvent.Write t
        have : (ix h.Events ((k + m : Nat) : Int)).Write = (w : Int) := this
        omega
theorem ref15_First_ok {n : Nat} {Φ : List Int → Prop} (hn : n ≤ 4096) (hΦ : Φ (selL n fun _ => true)) : ref15_First_W (n : Int) Φ := by
  refine LoopW.upT n (fun k => ((k : Int), selL k fun _ => true)) rfl (fun k rec hk hr => ⟨fun _ => ⟨sel_room hk hn, iI (by omega) (by omega), hr _ ?_⟩, fun r => absurd (show (k : Int) < (n : Int) by omega) r⟩) fun rec => ⟨fun r => absurd r (by omega), fun _ => hΦ⟩
  rw [selL_succ, if_pos rfl]; rfl
theorem history_Acknowledged_ok {h : api_History} {k : Nat} {Φ : List Int → Prop} (hh : SmallH h) (hz : histE h = 0) (hk : k ≤ h.Events.length) (hΦ : Φ (akK h k)) : history_Acknowledged_W h (k : Int) Φ := by
  have hw := hist_wr hz
  have e := evE_cnt hz
  refine history_check_ok hh (fun _ => ⟨fun q => absurd rfl q, fun _ => ?_⟩) fun q => absurd hz q
  have la : (tlH h).acked.length = h.Writes.length := by rw [← e]; exact ackL_len _ _
  show LoopW (history_Acknowledged_L1 (k : Int) (⟨h, tlH h⟩, 0) Φ) (0, [])
  refine LoopW.upT h.Writes.length (fun w => ((w : Int), selL w fun w => decide (0 ≤ atN h.Events k ⟨1, (w : Int)⟩))) rfl (fun w rec hw2 hr => ⟨fun _ => ?_, fun r => absurd (show (w : Int) < ((tlH h).acked.length : Int) by omega) r⟩) fun rec => ⟨fun r => absurd r (by show ¬ ((h.Writes.length : Int) < ((tlH h).acked.length : Int)); omega), fun _ => hΦ⟩
  have xa : ix (tlH h).acked (w : Int) = atN h.Events h.Events.length ⟨1, (w : Int)⟩ := ix_ackL (by omega)
  have j2 : ∀ b, b = decide (0 ≤ atN h.Events k ⟨1, (w : Int)⟩) → history_Acknowledged_J2 (w : Int) (selL w fun w => decide (0 ≤ atN h.Events k ⟨1, (w : Int)⟩)) rec Φ b := fun b hb => ⟨fun t => ⟨sel_room hw2 hw, iI (by omega) (by omega), hr _ (by rw [selL_succ, if_pos (hb.symm.trans t)]; rfl)⟩, fun t => ⟨iI (by omega) (by omega), hr _ (by rw [selL_succ, if_neg (by rw [← hb]; exact t), List.append_nil]; rfl)⟩⟩
  refine ⟨iX (by omega) (by show (w : Int) < ((tlH h).acked.length : Int); omega), fun q => j2 _ ?_, fun q => j2 _ ?_⟩
  · have q : 0 ≤ ix (tlH h).acked (w : Int) := q
    show decide (ix (tlH h).acked (w : Int) < (k : Int)) = _
    rw [xa] at q ⊢
    rw [decide_eq_decide]
    exact ⟨fun t => (atN_le hk).2 ⟨q, t⟩, fun t => ((atN_le hk).1 t).2⟩
  · have q : ¬ 0 ≤ ix (tlH h).acked (w : Int) := q
    rw [xa] at q
    rw [decide_eq_false fun t => q ((atN_le hk).1 t).1]
theorem sub_end {α : Type} (xs : List α) (k : Nat) : sub xs (k : Int) (xs.length : Int) = xs.drop k := by
  unfold sub
  simp only [Int.toNat_natCast]
  simp
  exact List.take_of_length_le (by rw [List.length_drop]; exact Nat.le_refl _)
theorem ix_drop {α : Type} [Dt α] (xs : List α) (k j : Nat) : ix (xs.drop k) (j : Int) = ix xs ((k + j : Nat) : Int) := by
  show (xs.drop k).getD j default = xs.getD (k + j) default
  rw [List.getD_eq_getElem?_getD, List.getD_eq_getElem?_getD, List.getElem?_drop]
theorem natMod (a n : Nat) : ((a : Int) % ((n : Int) + 1)) = ((a % (n + 1) : Nat) : Int) := by rw [Int.natCast_emod]; rfl
theorem cutPrefixes_law (h : api_History) (first events : BitVec 8) (_ : Rg.rg h) : law16_CutPrefixes_W h first events fun y => y = true := by
  have j1 : law16_CutPrefixes_J1 h first events (fun y => y = true) true := ⟨fun _ => law16_awake_ok rfl, fun q => absurd rfl q⟩
  refine law16_few_ok (by simp) ⟨fun _ => j1, fun q => absurd (fun t => Bool.noConfusion t) q⟩ fun hh h40 he _ => ⟨fun r => absurd rfl r, fun _ => history_Check_ok hh ?_⟩
  by_cases hz : histE h ≠ 0
  · rw [decide_eq_true hz]; exact j1
  · rw [decide_eq_false hz]
    have hz := Classical.not_not.1 hz
    have hw : h.Writes.length ≤ 4096 := by omega
    have hp : first.toNat % (h.Writes.length + 1) ≤ h.Writes.length := Nat.le_of_lt_succ (Nat.mod_lt _ (Nat.succ_pos _))
    have hk : events.toNat % (h.Events.length + 1) ≤ h.Events.length := Nat.le_of_lt_succ (Nat.mod_lt _ (Nat.succ_pos _))
    have c0 : ∀ {l : List Int}, isSetB l (h.Writes.length : Int) = true → ClosedS h l → l.length ≤ 1000000 ∧ ckcR h l = 0 := fun {l} s c => ⟨by have := isSetB_le s (by omega); omega, ckcR_ok hz s c⟩
    unfold law16_CutPrefixes_J1 law16_CutPrefixes_L2
    simp only [natMod, sub_end]
    generalize first.toNat % (h.Writes.length + 1) = p at hp ⊢
    generalize events.toNat % (h.Events.length + 1) = k at hk ⊢
    refine ⟨fun t => Bool.noConfusion t, fun _ => ⟨iI (by omega) (by omega), ⟨by omega, by omega⟩, ref15_First_ok (by omega) ⟨iI (by omega) (by omega), ⟨by omega, by omega⟩, history_Acknowledged_ok hh hz hk ⟨iS (by omega) (by omega) (by omega), ?_⟩⟩⟩⟩
    have ld : (h.Events.drop k).length = h.Events.length - k := List.length_drop
    have cle : ∀ n p, cntL n p ≤ n := fun n p => cntL_le
    refine LoopW.upT (h.Events.length - k) (fun j => ((cntL j (fun j => decide ((ix h.Events ((k + j : Nat) : Int)).Kind = 1)) : Int), (j : Int))) rfl (fun j rec hj hr => ⟨fun _ => ⟨iX (by omega) (by omega), fun q => ?_, fun q => ?_⟩, fun r => absurd (show (j : Int) < ((h.Events.drop k).length : Int) by omega) r⟩) fun rec => ⟨fun r => absurd r (by show ¬ (((h.Events.length - k : Nat) : Int) < ((h.Events.drop k).length : Int)); omega), fun _ => ?_⟩
    · rw [ix_drop] at q
      have := cle j fun j => decide ((ix h.Events ((k + j : Nat) : Int)).Kind = 1)
      refine ⟨iI (by omega) (by omega), iI (by omega) (by omega), hr _ ?_⟩
      rw [cntL_succ, if_pos (decide_eq_true q)]; rfl
    · rw [ix_drop] at q
      refine ⟨iI (by omega) (by omega), hr _ ?_⟩
      rw [cntL_succ, if_neg (by rw [decide_eq_false q]; simp)]; rfl
    · have sk : isSetB (akK h k) (h.Writes.length : Int) = true := akK_set
      have ck := akK_closed hz hk
      have sw := first_set (h := h) (Nat.le_refl h.Writes.length)
      have cw := first_closed hz (Nat.le_refl h.Writes.length)
      have a1 : ageR h (akK h k) = ((cntL (h.Events.length - k) (fun j => decide ((ix h.Events ((k + j : Nat) : Int)).Kind = 1)) : Int), 0) := by
        unfold ageR
        rw [(c0 sk ck).2, if_neg (fun t => t rfl)]
        have e := late_eq hz (k := k) (m := h.Events.length - k) (by omega)
        rw [← e]
        have e3 : cntL h.Writes.length (ageB h (akK h k)) = cntL h.Writes.length (fun w => decide (0 ≤ atN h.Events (k + (h.Events.length - k)) ⟨1, (w : Int)⟩) && !decide (0 ≤ atN h.Events k ⟨1, (w : Int)⟩)) := by
          refine cntL_congr fun w hw2 => ?_
          unfold ageB akB
          rw [show k + (h.Events.length - k) = h.Events.length by omega]
          congr 2
          rw [decide_eq_decide]
          unfold akK
          rw [mem_selN]
          exact ⟨fun t => of_decide_eq_true t.2, fun t => ⟨hw2, decide_eq_true t⟩⟩
        rw [e3]
      have a2 : ageR h (selL h.Writes.length fun _ => true) = (0, 0) := by
        unfold ageR
        rw [(c0 sw cw).2, if_neg (fun t => t rfl)]
        have : cntL h.Writes.length (ageB h (selL h.Writes.length fun _ => true)) = cntL h.Writes.length fun _ => false := cntL_congr fun w hw2 => by
          unfold ageB
          rw [decide_eq_true (mem_selN.2 ⟨hw2, rfl⟩), Bool.not_true, Bool.and_false]
        rw [this]
        have z : ∀ n, cntL n (fun _ => false) = 0 := fun n => by unfold cntL; simp
        rw [z]; rfl
      refine cut_Age_ok hh (c0 sk ck).1 ⟨_, ref15_First_ok hw rfl, _, cut_Age_ok hh (c0 sw cw).1 rfl, cut_Check_ok hh (c0 (first_set hp) (first_closed hz hp)).1 ⟨fun _ => cut_Check_ok hh (c0 sk ck).1 ⟨fun _ => ?_, fun t => absurd (c0 sk ck).2 t⟩, fun t => absurd (c0 (first_set hp) (first_closed hz hp)).2 t⟩⟩
      rw [a1]
      refine ⟨fun _ => ⟨fun _ => ?_, fun t => absurd rfl t⟩, fun t => absurd rfl t⟩
      show (_ → _) ∧ _
      simp only [a2]
      exact ⟨fun _ => ⟨fun _ => law16_awake_ok rfl, fun t => absurd trivial t⟩, fun t => absurd trivial t⟩
end Go.Proofs.YtpmjodnmnffmhaaGreatDoor
namespace Go.Proofs.YtpmjodnmnffmhaaGreatDoor
open Go.RowKit Go.ChangeShapes Go.WideShapes Go.ChangeAt
set_option maxRecDepth 100000 in
theorem cutPrefixes_lifted (os : Os) (started : os.Started) (H : Type) (enc : TypeId × Value → H) :
    ReturnsInHanded {} Tryz.checked os 6 .any (fun w args => (Rows.cutPrefixesSpec.pre enc Tryz.prog Tryz.f6 [] false w args ∧ laidMetH Tryz.prog [("math/bits.deBruijn32tab", Rows.laid_math_bits_deBruijn32tab), ("math/bits.deBruijn64tab", Rows.laid_math_bits_deBruijn64tab), ("internal/strconv.uint64pow10", Rows.laid_internal_strconv_uint64pow10)] w) ∧ sizedMet enc Tryz.prog Tryz.f6 (OpenSpec.ofChange Rows.cutPrefixesSpec) false w args)
      (Rows.cutPrefixesSpec.post enc Tryz.prog Tryz.f6 false true false false) := by
  refine returnsInHanded_of_change_and (C := Tryz.checked) (X := fun w _ => laidMetH Tryz.prog [("math/bits.deBruijn32tab", Rows.laid_math_bits_deBruijn32tab), ("math/bits.deBruijn64tab", Rows.laid_math_bits_deBruijn64tab), ("internal/strconv.uint64pow10", Rows.laid_internal_strconv_uint64pow10)] w) (fun _ _ _ hh h => h.of_heap hh) Tryz.own started (by kernel_rfl) Tryz.func6
    (ChangeSpec.witness_shaped (enc := enc) (C := Tryz.checked) (os := os) (X := fun w _ => laidMetH Tryz.prog [("math/bits.deBruijn32tab", Rows.laid_math_bits_deBruijn32tab), ("math/bits.deBruijn64tab", Rows.laid_math_bits_deBruijn64tab), ("internal/strconv.uint64pow10", Rows.laid_internal_strconv_uint64pow10)] w) false (World.doorLaid Tryz.prog 24 os) #[.agg #[.slice none 0 0, .slice none 0 0, .slice none 0 0], .int .u8 0, .int .u8 0] 8 rfl (World.shaped_of_RefB (by kernel_rfl) (by kernel_rfl)) (by kernel_rfl) (by kernel_rfl) (by kernel_rfl) (Tryz.doorMet os _)) ?_
  intro W base args ds gs before hval0 hW _ _ hL _
  have hval : ∀ (j : Nat) t v, Tryz.f6.params[j]? = some t → args[j]? = some v → Value.okWide Tryz.prog W .any base t v := hval0
  have hW' := hW
  obtain ⟨p, q, hA0, hV, hpq, _, _⟩ := hW
  have hA : DataW.TrodAll enc Tryz.prog W 0 (fun _ => true) true Tryz.f6.params.toList args.toList ds p := hA0
  rw [Tryz.params6] at hA hval
  obtain ⟨v0, v1, v2, d0, d1, d2, p0, p1, p2, rfl, rfl, rfl, h0, h1, h2⟩ := trodAll_three hA
  obtain ⟨rfl, rfl⟩ := trodVars_none hV
  obtain ⟨ks0, x0, rfl, hr0, hg0⟩ := open_strD Tryz.underlying26 rd26 (hval 0 26 v0 rfl rfl) h0
  obtain ⟨x1, rfl⟩ := open_u8D Tryz.underlying5 (hval 1 5 v1 rfl rfl) h1
  obtain ⟨x2, rfl⟩ := open_u8D Tryz.underlying5 (hval 2 5 v2 rfl rfl) h2
  refine Calls.mono ((RetP.toV (y := true) (F := fun z => .bool z) (RetP.mono (ok6 (x0, x1, x2, ()) (fun y => y.1 = true) (cutPrefixes_law x0 x1 x2 hg0) (HW W) [.agg ks0.toArray, u8 x1, u8 x2] trivial ⟨_, ks0, _, rfl, by rw [pkw26], (show Dt.rd (α := api_History) (HW W) _ _ from hr0), ⟨_, [u8 x1], _, rfl, by rw [pkw5], (show Dt.rd (α := BitVec 8) (HW W) _ _ from rfl), ⟨_, [u8 x2], _, rfl, by rw [pkw5], (show Dt.rd (α := BitVec 8) (HW W) _ _ from rfl), rfl⟩⟩⟩) fun _ _ _ _ ⟨y, hy, hr⟩ => lawRes y hy hr)) W fun b o e => e) ?_
  rintro e W' ⟨v, _, rfl, _, _, _, hb, rfl⟩
  exact ⟨_, rfl, post_law Tryz.laidOut Tryz.underlying4 rfl (by kernel_rfl) hW' rfl rfl hb⟩
theorem cutPrefixes_holds : Rows.CutPrefixesSaid :=
  OpenClaim.holds_of_wide 6 Tryz.f6 rfl rfl rfl rfl rfl rfl rfl ⟨rfl, rfl, rfl, rfl, rfl⟩ rfl rfl rfl rfl rfl (by kernel_rfl) Tryz.func6 (by kernel_rfl)
    (of_decide_eq_true (by kernel_rfl)) (by unfold Func.isWrapper; first | (rw [if_pos (by decide +kernel)]; kernel_rfl) | (rw [if_neg (by decide +kernel)]; exact ⟨rfl, rfl⟩))
    (fun os started H enc _ => cutPrefixes_lifted os started H enc)
theorem cutPrefixes_card : Rows.CutPrefixesCardSaid :=
  Claim7.holds_tied_plain_at .later [] [.data, .data, .data] true (true, "982b85d7fc28f81cd50639e72151f7db201b988bd90d7a0b40d133412f752128") false
    cutPrefixes_holds (fun _ h => by cases h) (by kernel_rfl) (fun _ h => by cases h) cutPrefixes_row_tie rfl ⟨rfl, rfl⟩ (by kernel_rfl) rfl
    (fun f fn hf hfn => by
      obtain rfl : f = 6 := Option.some.inj ((show Tryz.prog.funcNamed "standby/standbylaw16.CutPrefixes" = some 6 by kernel_rfl).symm.trans hf) |>.symm
      obtain rfl : fn = Tryz.f6 := (Option.some.inj (Tryz.func6.symm.trans hfn)).symm
      exact ⟨by kernel_rfl, fun j t ht => by
        rw [Tryz.params6] at ht
        have hm : t ∈ [26, 5] := by
          have := Array.mem_of_getElem? ht
          simpa using this
        have hall : ([26, 5].all fun u => !Tryz.prog.wantsStandIn u) = true := by kernel_rfl
        exact (show Tryz.prog.wantsStandIn t = false by simpa using List.all_eq_true.1 hall t hm)⟩)
    (by kernel_rfl)
end Go.Proofs.YtpmjodnmnffmhaaGreatDoor
