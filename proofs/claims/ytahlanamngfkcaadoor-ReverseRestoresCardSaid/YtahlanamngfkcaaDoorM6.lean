/- Proved: the tied card of the statement ReverseRestores: for every argument that can be read the law returns true and leaves its arguments as they were. Conditions: the row's own alone: the table math/bits.deBruijn64tab reads as listed, which the card ties to the program's text. -/
import Derived.Test.YtahlanamngfkcaaDoorM5
namespace Go.Proofs.YtahlanamngfkcaaDoor
open Go.RowKit
theorem ofInt_mod (k : Nat) : ((BitVec.ofInt 64 ((k : Int) % 64)).toNat : Int).toNat = k % 64 := by
  rw [BitVec.toNat_ofInt]; omega
theorem bitw_prop {b : api_Bitmap} {k : Nat} : ((((ix b.Words ((k : Int) / 64)) >>> ((BitVec.ofInt 64 ((k : Int) % 64)).toNat : Int).toNat) &&& (1#64)) = (1#64)) ↔ bitN b.Words k = true := by
  rw [ofInt_mod, bit_shift]
  unfold bitN
  rw [show ix b.Words ((k : Int) / 64) = b.Words.getD (k / 64) 0#64 from by show b.Words.getD ((k : Int) / 64).toNat default = _; rw [show ((k : Int) / 64).toNat = k / 64 by omega]; rfl]
theorem ref02_bit_ok {b : api_Bitmap} {k : Nat} {Φ : Bool → Prop} (hl : b.Words.length ≤ 1000000) (hk : k < 64 * b.Words.length) (hΦ : Φ (bitN b.Words k)) : ref02_bit_W b (k : Int) Φ := by
  refine ⟨⟨by omega, iI (by omega) (by omega)⟩, iX (by omega) (by omega), by omega, ?_⟩
  have e : decide ((((ix b.Words ((k : Int) / 64)) >>> ((BitVec.ofInt 64 ((k : Int) % 64)).toNat : Int).toNat) &&& (1#64)) = (1#64)) = bitN b.Words k := by
    rw [Bool.eq_iff_iff, decide_eq_true_iff]; exact bitw_prop
  rw [e]; exact hΦ
def chkB (b : api_Bitmap) : Int := chk b.Size b.Words
theorem ref02_Check_ok {b : api_Bitmap} {Φ : Int → Prop} (hΦ : Φ (chkB b)) : ref02_Check_W b Φ := by
  refine ⟨fun h1 h2 => ⟨iI (by omega) (by omega), by omega, iI (by omega) (by omega)⟩, fun h => ?_, fun h => ?_⟩
  · unfold chkB at hΦ; rw [chk_bad (by omega)] at hΦ; exact hΦ
  · have hn : 0 ≤ b.Size ∧ b.Size ≤ 4096 ∧ (b.Words.length : Int) = (b.Size + 63) / 64 := by omega
    refine LoopW.up (64 * b.Words.length) (fun k => b.Size ≤ (k : Int) ∧ ∀ i : Nat, b.Size ≤ (i : Int) → i < k → bitN b.Words i = false) ?_ (k0 := b.Size.toNat) (by omega) (by omega) ⟨by omega, fun i h1 h2 => by omega⟩
    intro k rec hk hz hrec
    refine ⟨iI (by omega) (by omega), fun hlt => ref02_bit_ok (by omega) (by omega) ⟨fun hb => ?_, fun hb => ⟨iI (by omega) (by omega), hrec (by omega) ⟨by omega, zstep hz.2 hb⟩⟩⟩, fun hge => ?_⟩
    · unfold chkB at hΦ; rw [chk_set (show k < 64 * b.Words.length by omega) hz.1 hb] at hΦ; exact hΦ
    · unfold chkB at hΦ; rw [chk_ok hn.1 hn.2.1 hn.2.2 fun i h1 h2 => hz.2 i h2 (by omega)] at hΦ; exact hΦ
theorem bitmap_Check_ok {b : api_Bitmap} {Φ : Int → Prop} (hΦ : Φ (chkB b)) : bitmap_Check_W b Φ := by
  unfold chkB at hΦ
  refine ⟨fun h => ?_, fun h1 => ⟨fun h2 => ?_, fun h2 => ⟨(b.Size + 64 - 1) / 64, ⟨iI (by omega) (by omega), iI (by omega) (by omega), ⟨by omega, iI (by omega) (by omega)⟩, rfl⟩, fun h3 => ?_, fun h3 => ?_⟩⟩⟩
  · rw [chk_bad (by omega)] at hΦ; exact hΦ
  · rw [chk_bad (by omega)] at hΦ; exact hΦ
  · rw [chk_bad (by omega)] at hΦ; exact hΦ
  · have e : ∀ h : 0 < b.Size % 64, ix b.Words ((b.Words.length : Int) - 1) = b.Words.getD (b.Words.length - 1) 0#64 := fun h => by
      show b.Words.getD ((b.Words.length : Int) - 1).toNat default = _
      rw [show ((b.Words.length : Int) - 1).toNat = b.Words.length - 1 by omega]; rfl
    refine ⟨by omega, fun h4 => ⟨iI (by omega) (by omega), iX (by omega) (by omega), by omega⟩, fun h4 => ?_, fun h4 => ?_⟩
    · rw [e h4.1] at h4
      rw [chk_top (by omega) (by omega) (by omega) h4.1 h4.2] at hΦ; exact hΦ
    · rw [chk_top_ok (by omega) (by omega) (by omega) fun h5 => by rw [e h5] at h4; exact Classical.not_not.1 fun h6 => h4 ⟨h5, h6⟩] at hΦ; exact hΦ
theorem chkB_len {b : api_Bitmap} (h : ¬ chkB b ≠ 0) : 0 ≤ b.Size ∧ b.Size ≤ 4096 ∧ (b.Words.length : Int) = (b.Size + 63) / 64 := wf_len (Classical.not_not.1 h)
def toX (e : Int × Int) : api_Extent := ⟨e.1, e.2⟩
def exts (b : api_Bitmap) : List api_Extent := (extR b.Size b.Words).map toX
theorem ix_toX (es : List (Int × Int)) (k : Nat) : ix (es.map toX) (k : Int) = toX (es.getD k (0, 0)) := by
  show (es.map toX).getD k default = _
  rw [List.getD_eq_getElem?_getD, List.getD_eq_getElem?_getD, List.getElem?_map]
  cases es[k]? <;> rfl
theorem exts_len (b : api_Bitmap) : (exts b).length ≤ 4096 := by
  unfold exts extR
  rw [List.length_map]
  split
  · exact Nat.zero_le _
  · rename_i h
    have := (extsK_facts b.Words b.Size.toNat).2
    have := wf_len (Classical.not_not.1 h)
    omega
end Go.Proofs.YtahlanamngfkcaaDoor

namespace Go.Proofs.YtahlanamngfkcaaDoor
open Go.RowKit
theorem bit_zip (op : BitVec 64 → BitVec 64 → BitVec 64) (f : Bool → Bool → Bool) (hf : ∀ a b j, j < 64 → (op a b).getLsbD j = f (a.getLsbD j) (b.getLsbD j)) {ws vs : List (BitVec 64)} (hl : ws.length = vs.length) {i : Nat} (hi : i < 64 * ws.length) : bitN (List.zipWith op ws vs) i = f (bitN ws i) (bitN vs i) := by
  have h1 : i / 64 < ws.length := by omega
  have h2 : i / 64 < vs.length := by omega
  unfold bitN
  rw [List.getD_eq_getElem?_getD, zip_get h1 h2, Option.getD_some, hf _ _ _ (Nat.mod_lt _ (by decide))]
theorem bit_or {ws vs : List (BitVec 64)} (hl : ws.length = vs.length) {i : Nat} (hi : i < 64 * ws.length) : bitN (List.zipWith (fun a b => a ||| b) ws vs) i = (bitN ws i || bitN vs i) := bit_zip _ (· || ·) (fun _ _ _ _ => BitVec.getLsbD_or) hl hi
theorem chk_iff {n : Int} {ws : List (BitVec 64)} : chk n ws = 0 ↔ 0 ≤ n ∧ n ≤ 4096 ∧ (ws.length : Int) = (n + 63) / 64 ∧ ∀ i : Nat, i < 64 * ws.length → n ≤ (i : Int) → bitN ws i = false :=
  ⟨fun h => wfB_iff.1 (chk_zero h), fun ⟨h1, h2, h3, h4⟩ => chk_ok h1 h2 h3 h4⟩
theorem chk_zip {op : BitVec 64 → BitVec 64 → BitVec 64} (f : Bool → Bool → Bool) (h0 : f false false = false) (hf : ∀ a b j, j < 64 → (op a b).getLsbD j = f (a.getLsbD j) (b.getLsbD j)) {n : Int} {ws vs : List (BitVec 64)} (h1 : chk n ws = 0) (h2 : chk n vs = 0) : chk n (List.zipWith op ws vs) = 0 := by
  obtain ⟨a1, a2, a3, a4⟩ := chk_iff.1 h1
  obtain ⟨_, _, b3, b4⟩ := chk_iff.1 h2
  have hl : ws.length = vs.length := by omega
  have hz : (List.zipWith op ws vs).length = ws.length := by rw [List.length_zipWith]; omega
  refine chk_iff.2 ⟨a1, a2, by rw [hz]; exact a3, fun i hi hn => ?_⟩
  rw [hz] at hi
  rw [bit_zip op f hf hl hi, a4 i hi hn, b4 i (by omega) hn, h0]
def cov (es : List (Int × Int)) (i : Int) : Prop := ∃ e ∈ es, e.1 ≤ i ∧ i < e.1 + e.2
structure ExOk (es : List (Int × Int)) (k : Int) : Prop where
  each : ∀ e ∈ es, 0 ≤ e.1 ∧ 1 ≤ e.2 ∧ e.1 + e.2 ≤ k
  apart : es.Pairwise fun a b => a.1 + a.2 < b.1
theorem snoc_cases {α : Type} (l : List α) : l = [] ∨ ∃ p x, l = p ++ [x] := by
  rcases List.eq_nil_or_concat l with h | ⟨p, x, h⟩
  · exact .inl h
  · exact .inr ⟨p, x, by simpa using h⟩
theorem addX_snoc (p : List (Int × Int)) (l : Int × Int) (i : Int) : addX (p ++ [l]) i = if l.1 + l.2 = i then p ++ [(l.1, l.2 + 1)] else p ++ [l] ++ [(i, 1)] := by
  have hg : (p ++ [l]).getD ((p ++ [l]).length - 1) (0, 0) = l := by simp
  by_cases h : l.1 + l.2 = i
  · rw [if_pos h, addX_join ⟨by simp, by rw [hg]; exact h⟩]
    unfold bumpE
    rw [hg]
    simp
  · rw [if_neg h, addX_new (fun hj => h (by have := hj.2; rw [hg] at this; exact this))]
theorem addX_nil (i : Int) : addX [] i = [(i, 1)] := (addX_new (fun hj => by have := hj.1; simp at this)).trans rfl
theorem exOk_add {es : List (Int × Int)} {i : Int} (h : ExOk es i) (h0 : 0 ≤ i) : ExOk (addX es i) (i + 1) ∧ ∀ j, cov (addX es i) j ↔ cov es j ∨ j = i := by
  rcases snoc_cases es with rfl | ⟨p, l, rfl⟩
  · rw [addX_nil]
    refine ⟨⟨fun e he => ?_, List.pairwise_singleton _ _⟩, fun j => ?_⟩
    · obtain rfl := List.mem_singleton.1 he
      exact ⟨h0, Int.le_refl _, Int.le_refl _⟩
    · unfold cov; simp; omega
  · rw [addX_snoc]
    obtain ⟨h1, h2⟩ := h
    have hl := h1 l (by simp)
    rw [List.pairwise_append] at h2
    obtain ⟨h3, _, h4⟩ := h2
    by_cases hj : l.1 + l.2 = i
    · rw [if_pos hj]
      refine ⟨⟨fun e he => ?_, ?_⟩, fun j => ?_⟩
      · rcases List.mem_append.1 he with he | he
        · have := h1 e (by simp [he]); omega
        · obtain rfl := List.mem_singleton.1 he
          exact ⟨hl.1, by show 1 ≤ l.2 + 1; omega, by show l.1 + (l.2 + 1) ≤ i + 1; omega⟩
      · exact List.pairwise_append.2 ⟨h3, List.pairwise_singleton _ _, fun a ha b hb => by
          obtain rfl := List.mem_singleton.1 hb
          exact h4 a ha l (by simp)⟩
      · constructor
        · rintro ⟨e, he, h5, h6⟩
          rcases List.mem_append.1 he with he | he
          · exact .inl ⟨e, by simp [he], h5, h6⟩
          · obtain rfl := List.mem_singleton.1 he
            have h6' : j < l.1 + (l.2 + 1) := h6
            by_cases hji : j = i
            · exact .inr hji
            · exact .inl ⟨l, by simp, h5, by omega⟩
        · rintro (⟨e, he, h5, h6⟩ | rfl)
          · rcases List.mem_append.1 he with he | he
            · exact ⟨e, by simp [he], h5, h6⟩
            · obtain rfl := List.mem_singleton.1 he
              exact ⟨(e.1, e.2 + 1), by simp, h5, by show j < e.1 + (e.2 + 1); omega⟩
          · exact ⟨(l.1, l.2 + 1), by simp, by show l.1 ≤ j; omega, by show j < l.1 + (l.2 + 1); omega⟩
    · rw [if_neg hj]
      refine ⟨⟨fun e he => ?_, ?_⟩, fun j => ?_⟩
      · rcases List.mem_append.1 he with he | he
        · have := h1 e he; omega
        · obtain rfl := List.mem_singleton.1 he
          exact ⟨h0, Int.le_refl _, Int.le_refl _⟩
      · refine List.pairwise_append.2 ⟨List.pairwise_append.2 ⟨h3, List.pairwise_singleton _ _, h4⟩, List.pairwise_singleton _ _, fun a ha b hb => ?_⟩
        obtain rfl := List.mem_singleton.1 hb
        show a.1 + a.2 < i
        rcases List.mem_append.1 ha with ha | ha
        · have := h4 a ha l (by simp); omega
        · obtain rfl := List.mem_singleton.1 ha; omega
      · constructor
        · rintro ⟨e, he, h5, h6⟩
          rcases List.mem_append.1 he with he | he
          · exact .inl ⟨e, he, h5, h6⟩
          · obtain rfl := List.mem_singleton.1 he
            have h5' : i ≤ j := h5
            have h6' : j < i + 1 := h6
            exact .inr (by omega)
        · rintro (⟨e, he, h5, h6⟩ | rfl)
          · exact ⟨e, by simp only [List.mem_append]; exact .inl (List.mem_append.1 he), h5, h6⟩
          · exact ⟨(j, 1), by simp, Int.le_refl _, by show j < j + 1; omega⟩
theorem exOk_mono {es : List (Int × Int)} {a b : Int} (h : ExOk es a) (hab : a ≤ b) : ExOk es b := ⟨fun e he => by have := h.each e he; omega, h.apart⟩
theorem extsK_ok (ws : List (BitVec 64)) : ∀ k : Nat, ExOk (extsK ws k) (k : Int) ∧ ∀ j : Nat, cov (extsK ws k) (j : Int) ↔ j < k ∧ bitN ws j = true
  | 0 => ⟨⟨fun e he => by simp [extsK, extsOf] at he, by simp [extsK, extsOf]⟩, fun j => by simp [cov, extsK, extsOf]⟩
  | k + 1 => by
    obtain ⟨h1, h2⟩ := extsK_ok ws k
    by_cases hb : bitN ws k = true
    · obtain ⟨h3, h4⟩ := exOk_add h1 (by omega)
      rw [extsK_yes hb]
      refine ⟨by simpa using h3, fun j => ?_⟩
      rw [h4, h2]
      constructor
      · rintro (h | h)
        · exact ⟨by omega, h.2⟩
        · have : j = k := by omega
          subst this; exact ⟨by omega, hb⟩
      · rintro ⟨h5, h6⟩
        by_cases hjk : j = k
        · exact .inr (by omega)
        · exact .inl ⟨by omega, h6⟩
    · rw [extsK_no hb]
      refine ⟨exOk_mono h1 (by omega), fun j => ?_⟩
      rw [h2]
      constructor
      · rintro ⟨h5, h6⟩; exact ⟨by omega, h6⟩
      · rintro ⟨h5, h6⟩
        by_cases hjk : j = k
        · subst hjk; exact absurd h6 hb
        · exact ⟨by omega, h6⟩
theorem chk_set1 {n : Int} {ws : List (BitVec 64)} {s c : Int} (h : chk n ws = 0) (hf : fitsB s c n = true) : chk n (chW true ws s (s + c)) = 0 := by
  obtain ⟨a1, a2, a3, a4⟩ := chk_iff.1 h
  have hff := fitsB_iff.1 hf
  refine chk_iff.2 ⟨a1, a2, by rw [chW_length]; exact a3, fun i hi hn => ?_⟩
  rw [chW_length] at hi
  rw [chW_bit true ws _ _ i hi, if_neg (by omega)]
  exact a4 i hi hn
theorem chk_new {n : Int} (h1 : 0 ≤ n) (h2 : n ≤ 4096) : chk n (List.replicate ((n + 63) / 64).toNat 0#64) = 0 := by
  refine chk_iff.2 ⟨h1, h2, by rw [List.length_replicate]; omega, fun i hi _ => ?_⟩
  rw [List.length_replicate] at hi
  unfold bitN
  rw [List.getD_eq_getElem?_getD, List.getElem?_replicate]
  split <;> simp
theorem bit_new {m i : Nat} : bitN (List.replicate m 0#64) i = false := by
  unfold bitN
  rw [List.getD_eq_getElem?_getD, List.getElem?_replicate]
  split <;> simp
end Go.Proofs.YtahlanamngfkcaaDoor

namespace Go.Proofs.YtahlanamngfkcaaDoor
open Go.RowKit
def bmOf (r : BR) : api_Bitmap × Int := (⟨r.n, r.ws⟩, r.e)
def orB (a b : api_Bitmap) : api_Bitmap × Int := bmOf (bothR (fun x y => x ||| y) a.Size a.Words b.Size b.Words)
theorem mixStep {op : BitVec 64 → BitVec 64 → BitVec 64} {ws vs : List (BitVec 64)} {k : Nat} (h : k < ws.length) (h2 : k < vs.length) : put (mixK (List.zipWith op ws vs) (List.replicate ws.length 0#64) k) (k : Int) (op (ix ws (k : Int)) (ix vs (k : Int))) = mixK (List.zipWith op ws vs) (List.replicate ws.length 0#64) (k + 1) ∨ ws.length ≠ vs.length := by
  by_cases hl : ws.length = vs.length
  · left
    exact mixK_step (by rw [List.length_zipWith, List.length_replicate]; omega) (zip_get h h2)
  · exact .inr hl
theorem bitmap_Or_ok {a b : api_Bitmap} {Φ : api_Bitmap × Int → Prop} (hΦ : Φ (orB a b)) : bitmap_Or_W a b Φ := by
  unfold orB at hΦ
  unfold bitmap_Or_W bitmap_both__bitmap_Or_1_W
  refine bitmap_Check_ok ⟨fun h => ?_, fun h => bitmap_Check_ok ⟨fun h2 => ?_, fun h2 => ⟨fun h3 => ?_, fun h3 => ?_⟩⟩⟩
  · rw [bothR_bad (bothE_1 h) (by omega)] at hΦ; unfold chkB at *; rw [chk_ne h]; exact hΦ
  · rw [bothR_bad (bothE_2 h h2) (by omega)] at hΦ; unfold chkB at *; rw [chk_ne h2]; exact hΦ
  · rw [bothR_bad (bothE_3 h h2 h3) (by omega)] at hΦ; exact hΦ
  · have hw := chkB_len h
    have hw2 := chkB_len h2
    rw [bothR_ok (bothE_4 h h2 h3)] at hΦ
    have hl : a.Words.length = b.Words.length := by omega
    refine ⟨by omega, iL (by omega) (by omega), ?_⟩
    have hr : (List.replicate (a.Words.length : Int).toNat (0#64)).length = a.Words.length := by simp
    refine LoopW.up2 a.Words.length (fun k acc => acc = mixK (List.zipWith (fun x y => x ||| y) a.Words b.Words) (List.replicate a.Words.length 0#64) k) ?_ rfl (Nat.zero_le _) (by rw [mixK_zero]; rfl)
    rintro k _ rec hk rfl hrec
    have hml := mixK_length (new := List.zipWith (fun x y => x ||| y) a.Words b.Words) (old := List.replicate a.Words.length 0#64) (by rw [List.length_zipWith, List.length_replicate]; omega) k
    rw [List.length_replicate] at hml
    refine ⟨fun hlt => ?_, fun hge => ?_⟩
    · rw [hr] at hlt
      refine ⟨iX (by omega) (by omega), iX (by omega) (by omega), _, rfl, iX (by omega) (by omega), iI (by omega) (by omega), hrec _ (by omega) ?_⟩
      exact (mixStep (op := fun x y => x ||| y) (by omega) (by omega)).resolve_right (fun q => q hl)
    · rw [hr] at hge
      rw [mixK_full (by rw [List.length_zipWith, List.length_replicate]; omega) (by rw [List.length_replicate]; omega)]
      exact hΦ
end Go.Proofs.YtahlanamngfkcaaDoor

namespace Go.Proofs.YtahlanamngfkcaaDoor
open Go.RowKit
def sizesE (l : List Int) : Int := if (l.length : Int) < 1 ∨ 8 < (l.length : Int) then 6 else firstN (fun k => if ix l (k : Int) < 1 ∨ 4096 < ix l (k : Int) then 2 else 0) l.length
def szs (im : List (List Sec)) : List Int := im.map fun v => (v.length : Int)
def imgE (im : List (List Sec)) : Int := sizesE (szs im)
theorem ref07_Sizes_ok {l : List Int} {Φ : Int → Prop} (hΦ : Φ (sizesE l)) : ref07_Sizes_W l Φ := by
  unfold sizesE at hΦ
  refine ⟨fun h => by rw [if_pos h] at hΦ; exact hΦ, fun h => ?_⟩
  rw [if_neg h] at hΦ
  refine LoopW.firstL _ _ hΦ (fun k rec hk _ h1 h2 => ⟨fun _ => ⟨iX (by omega) (by omega), fun q => ?_, fun q => ⟨iI (by omega) (by omega), h2 (if_neg q)⟩⟩, fun q => absurd (by omega) q⟩) fun rec h1 _ => ⟨fun q => absurd q (by omega), fun _ => h1⟩
  have := h1 (by rw [if_pos q]; omega)
  rw [if_pos q] at this; exact this
theorem ref07_SizesOf_ok {im : List (List Sec)} {Φ : List Int → Prop} (hl : im.length ≤ 100000) (hΦ : Φ (szs im)) : ref07_SizesOf_W im Φ := by
  refine LoopW.mapL im (fun v => (v.length : Int)) (fun k acc rec hk hal _ hrec => ⟨fun _ => ⟨iX (by omega) (by omega), iL (by simp only [List.length_append, List.length_cons, List.length_nil]; omega) (by omega), iI (by omega) (by omega), hrec⟩, fun q => absurd (by omega) q⟩) fun rec => ⟨fun q => absurd q (by omega), fun _ => hΦ⟩
theorem ref07_Check_ok {im : List (List Sec)} {Φ : Int → Prop} (hl : im.length ≤ 100000) (hΦ : Φ (imgE im)) : ref07_Check_W im Φ := ref07_SizesOf_ok hl (ref07_Sizes_ok hΦ)
theorem image_sizes_ok {im : List (List Sec)} {Φ : List Int → Prop} (hl : im.length ≤ 100000) (hΦ : Φ (szs im)) : image_sizes_W im Φ := by
  refine ⟨by omega, iL (by omega) (by omega), ?_⟩
  refine LoopW.mapL im (fun v => (v.length : Int)) (fun k acc rec hk hal _ hrec => ⟨fun _ => ⟨iX (by omega) (by omega), iL (by simp only [List.length_append, List.length_cons, List.length_nil]; omega) (by omega), iI (by omega) (by omega), hrec⟩, fun q => absurd (by omega) q⟩) fun rec => ⟨fun q => absurd q (by omega), fun _ => hΦ⟩
def idxN (p : Nat → Bool) (n : Nat) : Int := match (List.range n).find? p with
  | some k => (k : Int)
  | none => -1
theorem idxN_hit {p : Nat → Bool} {n k : Nat} (hk : k < n) (h0 : ∀ j, j < k → p j = false) (h1 : p k = true) : idxN p n = (k : Int) := by
  unfold idxN
  have : (List.range n).find? p = some k := by
    rw [List.find?_range_eq_some]
    exact ⟨h1, List.mem_range.2 hk, fun j hj => by rw [h0 j hj]; rfl⟩
  rw [this]
theorem idxN_none {p : Nat → Bool} {n : Nat} (h0 : ∀ j, j < n → p j = false) : idxN p n = -1 := by
  unfold idxN
  have : (List.range n).find? p = none := by
    rw [List.find?_eq_none]
    intro j hj
    rw [h0 j (List.mem_range.1 hj)]; simp
  rw [this]
theorem LoopW.idxL {step : Int → (Int → Prop) → Prop} (n : Nat) (p : Nat → Bool) {Φ : Int → Prop} (hΦ : Φ (idxN p n)) (h : ∀ (k : Nat) rec, k < n → (p k = true → Φ (k : Int)) → (p k = false → rec ((k : Int) + 1)) → step (k : Int) rec)
    (he : ∀ rec, Φ (-1) → step (n : Int) rec) : LoopW step 0 := by
  refine LoopW.up n (fun k => ∀ j, j < k → p j = false) ?_ rfl (Nat.zero_le _) (fun j hj => absurd hj (Nat.not_lt_zero j))
  intro k rec hk hI hrec
  rcases Nat.lt_or_ge k n with hlt | hge
  · refine h k rec hlt (fun h1 => by rw [idxN_hit hlt hI h1] at hΦ; exact hΦ) fun h0 => hrec hlt fun j hj => ?_
    rcases Nat.lt_or_ge j k with h2 | h2
    · exact hI j h2
    · have : j = k := by omega
      subst this; exact h0
  · have e : k = n := by omega
    subst e
    exact he rec (by rw [idxN_none hI] at hΦ; exact hΦ)
theorem idxN_nonneg {p : Nat → Bool} {n : Nat} : 0 ≤ idxN p n ↔ ∃ k, k < n ∧ p k = true := by
  unfold idxN
  cases h : (List.range n).find? p with
  | some k => exact ⟨fun _ => ⟨k, List.mem_range.1 (List.mem_of_find?_eq_some h), List.find?_some h⟩, fun _ => by simp⟩
  | none =>
    rw [List.find?_eq_none] at h
    exact ⟨fun q => absurd q (by simp), fun ⟨k, hk, hp⟩ => absurd hp (h k (List.mem_range.2 hk))⟩
theorem image_checkSizes_ok {l : List Int} {Φ : Int → Prop} (hΦ : Φ (sizesE l)) : image_checkSizes_W l Φ := by
  unfold sizesE at hΦ
  refine ⟨fun h => by rw [if_pos h] at hΦ; exact hΦ, fun h => ?_⟩
  rw [if_neg h] at hΦ
  have hz : ∀ v : Int, v = idxN (fun k => decide ((ix l (k : Int) < 1) ∨ (4096 < ix l (k : Int)))) l.length → (decide (0 ≤ v) = true → Φ 2) ∧ (¬ (decide (0 ≤ v) = true) → Φ 0) := by
    rintro _ rfl
    rw [decide_eq_true_iff, idxN_nonneg]
    refine ⟨fun ⟨k, hk, hp⟩ => ?_, fun q => ?_⟩
    · have hne : firstN (fun k => if ix l (k : Int) < 1 ∨ 4096 < ix l (k : Int) then 2 else 0) l.length ≠ 0 := fun q0 => by
        have := firstN_zero.1 q0 k hk
        rw [if_pos (of_decide_eq_true hp)] at this; omega
      have h2 : ∀ n, firstN (fun k => if ix l (k : Int) < 1 ∨ 4096 < ix l (k : Int) then 2 else 0) n = 0 ∨ firstN (fun k => if ix l (k : Int) < 1 ∨ 4096 < ix l (k : Int) then 2 else 0) n = 2 := by
        intro n
        induction n with
        | zero => exact .inl rfl
        | succ n ih => unfold firstN; split
                       · exact ih
                       · split <;> simp
      rw [(h2 _).resolve_left hne] at hΦ; exact hΦ
    · rw [firstN_zero.2 fun k hk => if_neg fun hp => q ⟨k, hk, decide_eq_true hp⟩] at hΦ; exact hΦ
  exact LoopW.idxL (Φ := fun v => (decide (0 ≤ v) = true → Φ 2) ∧ (¬ (decide (0 ≤ v) = true) → Φ 0)) _ _ (hz _ rfl)
    (fun k rec hk h1 h2 => ⟨fun _ => ⟨iX (by omega) (by omega), h1, fun q => ⟨iI (by omega) (by omega), h2 (by simpa using q)⟩⟩, fun q => absurd (by omega) q⟩) fun rec h1 => ⟨fun q => absurd q (by omega), fun _ => h1⟩
theorem image_Check_ok {im : List (List Sec)} {Φ : Int → Prop} (hl : im.length ≤ 100000) (hΦ : Φ (imgE im)) : image_Check_W im Φ := image_sizes_ok hl (image_checkSizes_ok hΦ)
def spanP (l : List api_Span) (k : Nat) : Bool :=
  decide ((ix l (k : Int)).From = (if k = 0 then 0 else (ix l ((k : Int) - 1)).To) + 1 ∧ (ix l (k : Int)).From ≤ (ix l (k : Int)).To ∧ (ix l (k : Int)).To ≤ 1073741824 ∧ (if k = 0 then 0 else (ix l ((k : Int) - 1)).Epoch) < (ix l (k : Int)).Epoch ∧ (ix l (k : Int)).Epoch ≤ 1073741824)
def linB (l : List api_Span) : Bool := allN (spanP l) l.length
theorem span_bounds {l : List api_Span} : ∀ {k : Nat}, (∀ j, j < k → spanP l j = true) → ∀ j, j < k → 1 ≤ (ix l (j : Int)).To ∧ (ix l (j : Int)).To ≤ 1073741824 ∧ 1 ≤ (ix l (j : Int)).Epoch ∧ (ix l (j : Int)).Epoch ≤ 1073741824 ∧ 1 ≤ (ix l (j : Int)).From := by
  intro k h j
  induction j with
  | zero =>
    intro hj
    have := of_decide_eq_true (h 0 hj)
    rw [if_pos rfl, if_pos rfl] at this
    omega
  | succ j ih =>
    intro hj
    have h1 := ih (by omega)
    have := of_decide_eq_true (h (j + 1) hj)
    rw [if_neg (Nat.succ_ne_zero j), if_neg (Nat.succ_ne_zero j), show ((j + 1 : Nat) : Int) - 1 = (j : Int) by omega] at this
    omega
theorem delta_correct_ok {l : List api_Span} {Φ : Bool → Prop} (hl : l.length ≤ 1000000) (hΦ : Φ (linB l)) : delta_correct_W l Φ := by
  refine LoopW.upS l.length (fun s : Int × Int × Int × Int => s.2.2.2) (fun k s => (∀ j, j < k → spanP l j = true) ∧ s.1 = (if k = 0 then 0 else (ix l ((k : Int) - 1)).Epoch) ∧ s.2.2.1 = (if k = 0 then 0 else (ix l ((k : Int) - 1)).To)) ?_ 0 rfl (Nat.zero_le _) ⟨fun j hj => absurd hj (Nat.not_lt_zero j), rfl, rfl⟩
  rintro k ⟨ep, fr, to, i⟩ rec hk hi ⟨hz, he, ht⟩ hrec
  simp only at hi he ht
  subst hi
  have hb : 0 ≤ to ∧ to ≤ 1073741824 := by
    rw [ht]
    by_cases h0 : k = 0
    · rw [if_pos h0]; omega
    · rw [if_neg h0]
      have := span_bounds hz (k - 1) (by omega)
      rw [show (k : Int) - 1 = ((k - 1 : Nat) : Int) by omega]
      omega
  have no : k < l.length → ¬ ((ix l (k : Int)).From = to + 1 ∧ (ix l (k : Int)).From ≤ (ix l (k : Int)).To ∧ (ix l (k : Int)).To ≤ 1073741824 ∧ ep < (ix l (k : Int)).Epoch ∧ (ix l (k : Int)).Epoch ≤ 1073741824) → Φ false := by
    intro hlt h
    rw [he, ht] at h
    unfold linB at hΦ
    rw [allN_false hlt (decide_eq_false h)] at hΦ; exact hΦ
  have hep : 0 ≤ ep := by
    rw [he]
    by_cases h0 : k = 0
    · rw [if_pos h0]; omega
    · rw [if_neg h0]
      have := span_bounds hz (k - 1) (by omega)
      rw [show (k : Int) - 1 = ((k - 1 : Nat) : Int) by omega]
      omega
  refine ⟨fun hlt => ⟨iX (by omega) (by omega), iI (by omega) (by omega), fun q => no (by omega) (by omega), fun q => ⟨fun q2 => no (by omega) (by omega), fun q2 => ⟨fun q3 => no (by omega) (by omega), fun q3 => ⟨fun q4 => no (by omega) ?_, fun q4 => ⟨fun q5 => no (by omega) (by omega), fun q5 => ⟨iI (by omega) (by omega), hrec _ (by omega) rfl ⟨?_, ?_, ?_⟩⟩⟩⟩⟩⟩⟩, fun hge => ?_⟩
  · rw [decide_eq_true_iff] at q4; omega
  · rw [decide_eq_true_iff] at q4
    intro j hj
    rcases Nat.lt_or_ge j k with h2 | h2
    · exact hz j h2
    · have : j = k := by omega
      subst this
      unfold spanP
      rw [← he, ← ht]
      exact decide_eq_true (by omega)
  · simp only [Nat.succ_ne_zero, if_false]; rw [show ((k + 1 : Nat) : Int) - 1 = (k : Int) by omega]
  · simp only [Nat.succ_ne_zero, if_false]; rw [show ((k + 1 : Nat) : Int) - 1 = (k : Int) by omega]
  · have e : k = l.length := by omega
    unfold linB at hΦ
    rw [allN_true.2 (by rw [← e]; exact hz)] at hΦ; exact hΦ
def dirtyE (p : api_Point) (k : Nat) : Int := if chkB (ix p.Dirty (k : Int)) ≠ 0 then chkB (ix p.Dirty (k : Int)) else if (ix p.Dirty (k : Int)).Size ≠ ((ix p.Image (k : Int)).length : Int) then 22 else 0
def ptE (p : api_Point) : Int :=
  if p.Site < 0 ∨ 1073741824 < p.Site then 2 else if ¬ (linB p.Lineage = true) then 3 else if imgE p.Image ≠ 0 then imgE p.Image else if (p.Dirty.length : Int) ≠ (p.Image.length : Int) then 6 else firstN (dirtyE p) p.Dirty.length
theorem delta_Check_ok {p : api_Point} {Φ : Int → Prop} (hl : p.Lineage.length ≤ 1000000) (hi : p.Image.length ≤ 100000) (hΦ : Φ (ptE p)) : delta_Check_W p Φ := by
  unfold ptE at hΦ
  have hd : (decide ((0 ≤ p.Site) ∧ (p.Site ≤ 1073741824)) = true) ↔ ¬ (p.Site < 0 ∨ 1073741824 < p.Site) := by rw [decide_eq_true_iff]; omega
  refine ⟨fun h => by rw [if_pos (by rw [hd] at h; exact Classical.not_not.1 h)] at hΦ; exact hΦ, fun h => ?_⟩
  rw [if_neg (hd.1 (Classical.not_not.1 h))] at hΦ
  refine delta_correct_ok hl ⟨fun h => by rw [if_pos h] at hΦ; exact hΦ, fun h => ?_⟩
  rw [if_neg h] at hΦ
  refine image_Check_ok hi ⟨fun h => by rw [if_pos h] at hΦ; exact hΦ, fun h => ?_⟩
  rw [if_neg h] at hΦ
  refine ⟨fun h => by rw [if_pos h] at hΦ; exact hΦ, fun h => ?_⟩
  rw [if_neg h] at hΦ
  refine LoopW.firstL _ _ hΦ (fun k rec hk _ h1 h2 => ⟨fun _ => ⟨iX (by omega) (by omega), bitmap_Check_ok ⟨fun q => ?_, fun q => ⟨iX (by omega) (by omega), fun q2 => ?_, fun q2 => ⟨iI (by omega) (by omega), h2 ?_⟩⟩⟩⟩, fun q => absurd (by omega) q⟩) fun rec h1 _ => ⟨fun q => absurd q (by omega), fun _ => h1⟩
  · have e : dirtyE p k = chkB (ix p.Dirty (k : Int)) := if_pos q
    rw [e] at h1; exact h1 q
  · have e : dirtyE p k = 22 := by unfold dirtyE; rw [if_neg q, if_pos q2]
    rw [e] at h1; exact h1 (by omega)
  · unfold dirtyE; rw [if_neg q, if_neg q2]
end Go.Proofs.YtahlanamngfkcaaDoor

namespace Go.Proofs.YtahlanamngfkcaaDoor
open Go.RowKit
theorem mixK_get' {α : Type} {n k : Nat} {f : Nat → α} {old : List α} (ho : old.length = n) (hk : k < n) : mixK ((List.range n).map f) old (k + 1) = (mixK ((List.range n).map f) old k).set k (f k) :=
  (mixK_step (by rw [List.length_map, List.length_range, ho]) (by rw [List.getElem?_map, List.getElem?_range hk]; rfl)).symm
def sameSz (a b : List (List Sec)) : Bool := decide (szs a = szs b)
theorem szs_len (a : List (List Sec)) : (szs a).length = a.length := List.length_map _
theorem ix_szs {a : List (List Sec)} {k : Nat} (h : k < a.length) : ix (szs a) (k : Int) = ((ix a (k : Int)).length : Int) := by
  rw [ix_get (by rw [szs_len]; exact h), ix_get h]
  simp [szs]
theorem sameSz_allN {a b : List (List Sec)} (hl : a.length = b.length) : sameSz a b = allN (fun k => decide (((ix a (k : Int)).length : Int) = ((ix b (k : Int)).length : Int))) a.length := by
  unfold sameSz
  rw [Bool.eq_iff_iff, allN_true, decide_eq_true_iff]
  constructor
  · intro h k hk
    refine decide_eq_true ?_
    rw [← ix_szs hk, ← ix_szs (by omega), h]
  · intro h
    refine ext_ix (by rw [szs_len, szs_len, hl]) fun k hk => ?_
    rw [szs_len] at hk
    rw [ix_szs hk, ix_szs (by omega)]
    exact of_decide_eq_true (h k hk)
theorem sameSz_len {a b : List (List Sec)} (h : (a.length : Int) ≠ (b.length : Int)) : sameSz a b = false := by
  refine decide_eq_false fun e => h ?_
  rw [← szs_len a, ← szs_len b, e]
theorem delta_alike_ok {a b : List (List Sec)} {Φ : Bool → Prop} (hl : a.length ≤ 100000) (hΦ : Φ (sameSz a b)) : delta_alike_W a b Φ := by
  refine ⟨fun h => by rw [sameSz_len h] at hΦ; exact hΦ, fun h => ?_⟩
  rw [sameSz_allN (by omega)] at hΦ
  exact LoopW.allL _ _ hΦ (fun k rec hk _ h1 h2 => ⟨fun _ => ⟨iX (by omega) (by omega), iX (by omega) (by omega), fun q => h1 (by simpa using q), fun q => ⟨iI (by omega) (by omega), h2 (Classical.not_not.1 q)⟩⟩, fun q => absurd (by omega) q⟩) fun rec h1 _ => ⟨fun q => absurd q (by omega), fun _ => h1⟩
def markK (a b : api_Point) (k : Nat) : List api_Extent := exts (orB (ix a.Dirty (k : Int)) (ix b.Dirty (k : Int))).1
def marks (a b : api_Point) : List (List api_Extent) := (List.range a.Dirty.length).map (markK a b)
theorem delta_marked_ok {a b : api_Point} {Φ : List (List api_Extent) → Prop} (hl : a.Dirty.length ≤ 100000) (hb : a.Dirty.length = b.Dirty.length) (hΦ : Φ (marks a b)) : delta_marked_W a b Φ := by
  refine ⟨by omega, iL (by omega) (by omega), ?_⟩
  have hr : (List.replicate (a.Dirty.length : Int).toNat ([] : List api_Extent)).length = a.Dirty.length := by simp
  refine LoopW.up2 a.Dirty.length (fun k acc => acc = mixK (marks a b) (List.replicate (a.Dirty.length : Int).toNat ([] : List api_Extent)) k) ?_ rfl (Nat.zero_le _) (mixK_zero _ _).symm
  rintro k _ rec hk rfl hrec
  have hml := mixK_length (new := marks a b) (old := List.replicate (a.Dirty.length : Int).toNat ([] : List api_Extent)) (by rw [hr]; simp [marks]) k
  refine ⟨fun hlt => ?_, fun hge => ?_⟩
  · rw [hr] at hlt hml
    refine ⟨iX (by omega) (by omega), iX (by omega) (by omega), _, bitmap_Or_ok rfl, iX (by omega) (by rw [hml]; omega), iI (by omega) (by omega), hrec _ (by omega) ?_⟩
    exact (mixK_get' hr (by omega)).symm
  · rw [hr] at hge
    rw [mixK_full (by rw [hr]; simp [marks]) (by rw [hr]; omega)]
    exact hΦ
structure Fit (a b : api_Point) : Prop where
  da : a.Dirty.length = a.Image.length
  db : b.Dirty.length = a.Image.length
  n8 : a.Image.length ≤ 8
  ca : ∀ k : Nat, k < a.Image.length → chkB (ix a.Dirty (k : Int)) = 0 ∧ (ix a.Dirty (k : Int)).Size = ((ix a.Image (k : Int)).length : Int)
  cb : ∀ k : Nat, k < a.Image.length → chkB (ix b.Dirty (k : Int)) = 0 ∧ (ix b.Dirty (k : Int)).Size = ((ix a.Image (k : Int)).length : Int)
theorem ptE_zero {p : api_Point} (h : ptE p = 0) : p.Dirty.length = p.Image.length ∧ p.Image.length ≤ 8 ∧ ∀ k : Nat, k < p.Image.length → chkB (ix p.Dirty (k : Int)) = 0 ∧ (ix p.Dirty (k : Int)).Size = ((ix p.Image (k : Int)).length : Int) := by
  unfold ptE at h
  split at h
  · omega
  split at h
  · omega
  split at h
  · omega
  rename_i hi
  split at h
  · omega
  rename_i hd
  have hz := firstN_zero.1 h
  have h8 : p.Image.length ≤ 8 := by
    unfold imgE sizesE at hi
    rw [szs_len] at hi
    by_cases hq : (p.Image.length : Int) < 1 ∨ 8 < (p.Image.length : Int)
    · rw [if_pos hq] at hi; omega
    · omega
  refine ⟨by omega, h8, fun k hk => ?_⟩
  have := hz k (by omega)
  unfold dirtyE at this
  split at this
  · rename_i hq; exact absurd this hq
  · rename_i hq
    split at this
    · omega
    · rename_i hs; exact ⟨Classical.not_not.1 hq, Classical.not_not.1 hs⟩
theorem fit_of {a b : api_Point} (ha : ptE a = 0) (hb : ptE b = 0) (hs : sameSz a.Image b.Image = true) : Fit a b := by
  obtain ⟨a1, a2, a3⟩ := ptE_zero ha
  obtain ⟨b1, b2, b3⟩ := ptE_zero hb
  have hl : a.Image.length = b.Image.length := by
    have := congrArg List.length (of_decide_eq_true hs)
    rwa [szs_len, szs_len] at this
  rw [sameSz_allN hl, allN_true] at hs
  exact ⟨a1, by omega, a2, a3, fun k hk => by rw [of_decide_eq_true (hs k hk)]; exact b3 k (by omega)⟩
theorem Fit.or {a b : api_Point} (h : Fit a b) {k : Nat} (hk : k < a.Image.length) : (orB (ix a.Dirty (k : Int)) (ix b.Dirty (k : Int))).1 = ⟨(ix a.Dirty (k : Int)).Size, List.zipWith (fun x y => x ||| y) (ix a.Dirty (k : Int)).Words (ix b.Dirty (k : Int)).Words⟩ ∧
    chk (ix a.Dirty (k : Int)).Size (List.zipWith (fun x y => x ||| y) (ix a.Dirty (k : Int)).Words (ix b.Dirty (k : Int)).Words) = 0 := by
  obtain ⟨c1, c2⟩ := h.ca k hk
  obtain ⟨d1, d2⟩ := h.cb k hk
  have hs : (ix b.Dirty (k : Int)).Size = (ix a.Dirty (k : Int)).Size := by omega
  unfold chkB at c1 d1
  refine ⟨?_, ?_⟩
  · unfold orB
    rw [bothR_ok (bothE_4 (by simpa using c1) (by simpa using d1) (by omega))]; rfl
  · rw [hs] at d1
    exact chk_zip (· || ·) rfl (fun _ _ _ _ => BitVec.getLsbD_or) c1 d1
theorem Fit.len {a b : api_Point} (hf : Fit a b) {k : Nat} (hk : k < a.Image.length) : (ix a.Image (k : Int)).length ≤ 4096 := by
  have h := hf.ca k hk
  have := chkB_len (b := ix a.Dirty (k : Int)) (by rw [h.1]; simp)
  omega
def betR (a b : api_Point) : List (List api_Extent) × Int := if ptE a ≠ 0 then ([], ptE a) else if ptE b ≠ 0 then ([], ptE b) else if ¬ (sameSz a.Image b.Image = true) then ([], 22) else (marks a b, 0)
theorem delta_Between_ok {a b : api_Point} {Φ : List (List api_Extent) × Int → Prop} (ha : a.Lineage.length ≤ 1000000) (hb : b.Lineage.length ≤ 1000000) (ha2 : a.Image.length ≤ 100000) (hb2 : b.Image.length ≤ 100000) (hΦ : Φ (betR a b)) : delta_Between_W a b Φ := by
  unfold betR at hΦ
  refine LoopW.up 2 (fun k => (0 < k → ptE a = 0) ∧ (1 < k → ptE b = 0)) ?_ (k0 := 0) rfl (by decide) ⟨fun h => absurd h (by decide), fun h => absurd h (by decide)⟩
  intro k rec hk hI hrec
  refine ⟨fun hlt => ⟨iX (by omega) hlt, ?_⟩, fun hge => ?_⟩
  · have hlt2 : k < 2 := by simp only [List.length_cons, List.length_nil] at hlt; omega
    have hcase : k = 0 ∨ k = 1 := by omega
    rcases hcase with rfl | rfl
    · refine delta_Check_ok ha ha2 ⟨fun q => ?_, fun q => ⟨iI (by omega) (by omega), hrec (by omega) ⟨fun _ => Classical.not_not.1 q, by omega⟩⟩⟩
      have q' : ptE a ≠ 0 := q
      rw [if_pos q'] at hΦ; exact hΦ
    · refine delta_Check_ok hb hb2 ⟨fun q => ?_, fun q => ⟨iI (by omega) (by omega), hrec (by omega) ⟨fun _ => hI.1 (by omega), fun _ => Classical.not_not.1 q⟩⟩⟩
      have q' : ptE b ≠ 0 := q
      rw [if_neg (by rw [hI.1 (by omega)]; simp), if_pos q'] at hΦ; exact hΦ
  · have hk2 : k = 2 := by simp only [List.length_cons, List.length_nil] at hge; omega
    subst hk2
    have h1 := hI.1 (by omega)
    have h2 := hI.2 (by omega)
    rw [if_neg (by rw [h1]; simp), if_neg (by rw [h2]; simp)] at hΦ
    refine delta_alike_ok ha2 ⟨fun q => by rw [if_pos q] at hΦ; exact hΦ, fun q => ?_⟩
    rw [if_neg q] at hΦ
    have hf := fit_of h1 h2 (Classical.not_not.1 q)
    have := hf.n8
    exact delta_marked_ok (by rw [hf.da]; omega) (by rw [hf.da, hf.db]) hΦ
end Go.Proofs.YtahlanamngfkcaaDoor

namespace Go.Proofs.YtahlanamngfkcaaDoor
open Go.RowKit
def orK {S R : Type} (a : S → Prop) (b : R → Prop) : S ⊕ R → Prop
  | .inl s => a s
  | .inr r => b r
def loopS {S R : Type} (step : S → Option (S ⊕ R)) : Nat → S → Option R
  | 0, _ => none
  | n + 1, s => match step s with
    | none => none
    | some (.inl s') => loopS step n s'
    | some (.inr r) => some r
theorem LoopW.of_S {S R : Type} {step : S → (S → Prop) → Prop} {stepS : S → Option (S ⊕ R)} {K : R → Prop} (hs : ∀ s q rec, stepS s = some q → orK rec K q → step s rec) : ∀ (n : Nat) (s : S) {o : R}, loopS stepS n s = some o → K o → LoopW step s := by
  intro n s o h hK
  refine ⟨n, ?_⟩
  induction n generalizing s with
  | zero => cases h
  | succ n ih =>
    unfold loopS at h
    split at h
    · cases h
    · rename_i s' e
      exact hs s _ _ e (ih s' h)
    · rename_i r e
      cases h
      exact hs s _ _ e hK
theorem ofBind {α β : Type} {x : Option α} {f : α → Option β} {o : β} (h : Option.bind x f = some o) : ∃ v, x = some v ∧ f v = some o := Option.bind_eq_some_iff.1 h
theorem ofIf {α : Type} {p : Prop} [Decidable p] {x : Option α} {o : α} (h : (if p then x else none) = some o) : p ∧ x = some o := by
  by_cases hp : p
  · rw [if_pos hp] at h; exact ⟨hp, h⟩
  · rw [if_neg hp] at h; cases h
theorem ofT {α : Type} {p : Prop} [Decidable p] {x y : Option α} {o : α} (hp : p) (h : (if p then x else y) = some o) : x = some o := by rw [if_pos hp] at h; exact h
theorem ofF {α : Type} {p : Prop} [Decidable p] {x y : Option α} {o : α} (hp : ¬ p) (h : (if p then x else y) = some o) : y = some o := by rw [if_neg hp] at h; exact h
def bothS {α : Type} [DecidableEq α] (b : Bool) (x y : Option α) : Option α := if b = true then (if x = y then x else none) else y
theorem ofBoth {α : Type} [DecidableEq α] {b : Bool} {x y : Option α} {o : α} (h : bothS b x y = some o) : (b = true → x = some o) ∧ y = some o := by
  unfold bothS at h
  by_cases hb : b = true
  · rw [if_pos hb] at h
    by_cases he : x = y
    · rw [if_pos he] at h; exact ⟨fun _ => h, he ▸ h⟩
    · rw [if_neg he] at h; cases h
  · rw [if_neg hb] at h; exact ⟨fun q => absurd q hb, h⟩
theorem lfS {α : Type} {K : α → Prop} {a o : α} (h : some a = some o) (hK : K o) : K a := by
  cases h; exact hK
theorem mgS {α : Type} {x : Option Unit} {f : Unit → Option α} {o : α} {A B : Prop} (h : Option.bind x f = some o) (a : x = some () → True → A) (b : f () = some o → B) : A ∧ B := by
  obtain ⟨_, h1, h2⟩ := ofBind h
  exact ⟨a h1 trivial, b h2⟩
theorem adS {α : Type} {p : Prop} [Decidable p] {x : Option α} {o : α} {B : Prop} (h : (if p then x else none) = some o) (b : x = some o → B) : p ∧ B := ⟨(ofIf h).1, b (ofIf h).2⟩
theorem ifS {α : Type} {p : Prop} [Decidable p] {x y : Option α} {o : α} {A B : Prop} (h : (if p then x else y) = some o) (a : x = some o → A) (b : y = some o → B) : (p → A) ∧ (¬ p → B) := ⟨fun c => a (ofT c h), fun c => b (ofF c h)⟩
theorem imS {α : Type} {p : Prop} [Decidable p] {x y : Option α} {o : α} {A : Prop} (h : (if p then x else y) = some o) (a : x = some o → A) : p → A := fun c => a (ofT c h)
theorem nlS {α β : Type} [DecidableEq α] {l : List β} {x y : Option α} {o : α} {A B : Prop} (h : bothS l.isEmpty x y = some o) (a : x = some o → A) (b : y = some o → B) : (l = [] → A) ∧ B := ⟨fun c => a ((ofBoth h).1 (List.isEmpty_iff.2 c)), b (ofBoth h).2⟩
theorem blS {α β : Type} {x : Option α} {f : α → Option β} {o : β} {G : Prop} (h : Option.bind x f = some o) (k : ∀ v, x = some v → f v = some o → G) : G := by
  obtain ⟨v, h1, h2⟩ := ofBind h
  exact k v h1 h2
instance decI (x : Int) : Decidable (inI x) := inferInstanceAs (Decidable (_ ∧ _))
instance decX (i : Int) (n : Nat) : Decidable (inX i n) := inferInstanceAs (Decidable (_ ∧ _))
instance decS (a b : Int) (n : Nat) : Decidable (inS a b n) := inferInstanceAs (Decidable (_ ∧ _))
instance decL (n b : Nat) : Decidable (lenOk n b) := inferInstanceAs (Decidable (_ ∧ _))
def bitmap_Extents_S (x0 : api_Bitmap) : Option (List api_Extent) := some ((extR x0.Size x0.Words).map fun e => ⟨e.1, e.2⟩)
theorem bitmap_Extents_sound (x0 : api_Bitmap) {Φ : List api_Extent → Prop} {o} (h : bitmap_Extents_S x0 = some o) (hK : Φ o) : bitmap_Extents_W x0 Φ := by
  cases h; exact hK
def law47_one_S (x0 : Int) (x1 : BitVec 8) : Option (api_Write) :=
 some ((api_Write.mk 0 x0 ([(Sec.mk x1 (0#8) (0#8) (0#8) (0#8) (0#8) (0#8) (0#8))] : List Sec)))
theorem law47_one_sound (x0 : Int) (x1 : BitVec 8) {Φ : api_Write → Prop} {o} (h : law47_one_S x0 x1 = some o) (hK : Φ o) : law47_one_W x0 x1 Φ := by
 unfold law47_one_S at h
 unfold law47_one_W
 exact have t := lfS h hK; t
def ref07_SizesOf_L1_S (x0 : List (List Sec)) : (List Int × Int) → Option ((List Int × Int) ⊕ (List Int))
 | (v4, v11) =>
  if v11 < (x0.length : Int) then
   if inX v11 x0.length then
   if lenOk (v4 ++ ([((ix x0 v11).length : Int)] : List Int)).length 8 then
   if inI (v11 + 1) then
   some (.inl ((v4 ++ ([((ix x0 v11).length : Int)] : List Int)), v11 + 1))
   else none
   else none
   else none
  else
   some (.inr v4)
theorem ref07_SizesOf_L1_sound (x0 : List (List Sec)) (s : List Int × Int) {Φ : List Int → Prop} {rec1 : (List Int × Int) → Prop} {o} (h : ref07_SizesOf_L1_S x0 s = some o) (hK : (orK rec1 Φ) o) : ref07_SizesOf_L1 x0 Φ s rec1 := by
 obtain ⟨v4, v11⟩ := s
 unfold ref07_SizesOf_L1_S at h
 unfold ref07_SizesOf_L1
 exact ifS h (fun h => adS h fun h => adS h fun h => adS h fun h => have t := lfS h hK; t) fun h => have t := lfS h hK; t
def ref07_SizesOf_S (x0 : List (List Sec)) : Option (List Int) :=
 loopS (ref07_SizesOf_L1_S x0) 100000 (([] : List Int), 0)
theorem ref07_SizesOf_sound (x0 : List (List Sec)) {Φ : List Int → Prop} {o} (h : ref07_SizesOf_S x0 = some o) (hK : Φ o) : ref07_SizesOf_W x0 Φ := by
 unfold ref07_SizesOf_S at h
 unfold ref07_SizesOf_W
 exact LoopW.of_S (fun s q rec hs hq => ref07_SizesOf_L1_sound _ s hs hq) _ _ h hK
def ref07_Sizes_L1_S (x0 : List Int) : (Int) → Option ((Int) ⊕ (Int))
 | (v6) =>
  if v6 < (x0.length : Int) then
   Option.bind (
    if inX v6 x0.length then some () else none : Option Unit) fun _ =>
   if ((ix x0 v6) < 1) ∨ (4096 < (ix x0 v6)) then
    some (.inr 2)
   else
    if inI (v6 + 1) then
    some (.inl (v6 + 1))
    else none
  else
   some (.inr 0)
theorem ref07_Sizes_L1_sound (x0 : List Int) (s : Int) {Φ : Int → Prop} {rec1 : (Int) → Prop} {o} (h : ref07_Sizes_L1_S x0 s = some o) (hK : (orK rec1 Φ) o) : ref07_Sizes_L1 x0 Φ s rec1 := by
 unfold ref07_Sizes_L1_S at h
 unfold ref07_Sizes_L1
 exact ifS h (fun h => mgS h (fun h hK => (ofIf h).1) fun h => ifS h (fun h => have t := lfS h hK; t) fun h => adS h fun h => have t := lfS h hK; t) fun h => have t := lfS h hK; t
def ref07_Sizes_S (x0 : List Int) : Option (Int) :=
 if ((x0.length : Int) < 1) ∨ (8 < (x0.length : Int)) then
  some (6)
 else
  loopS (ref07_Sizes_L1_S x0) 100000 (0)
theorem ref07_Sizes_sound (x0 : List Int) {Φ : Int → Prop} {o} (h : ref07_Sizes_S x0 = some o) (hK : Φ o) : ref07_Sizes_W x0 Φ := by
 unfold ref07_Sizes_S at h
 unfold ref07_Sizes_W
 exact ifS h (fun h => have t := lfS h hK; t) fun h => LoopW.of_S (fun s q rec hs hq => ref07_Sizes_L1_sound _ s hs hq) _ _ h hK
def ref07_Check_S (x0 : List (List Sec)) : Option (Int) :=
 Option.bind (ref07_SizesOf_S x0) fun v2 =>
 Option.bind (ref07_Sizes_S v2) fun v11 =>
 some (v11)
theorem ref07_Check_sound (x0 : List (List Sec)) {Φ : Int → Prop} {o} (h : ref07_Check_S x0 = some o) (hK : Φ o) : ref07_Check_W x0 Φ := by
 unfold ref07_Check_S at h
 unfold ref07_Check_W
 exact blS h fun _ hv h => ref07_SizesOf_sound _ hv (blS h fun _ hv h => ref07_Sizes_sound _ hv (have t := lfS h hK; t))
def ref07_Copy_L1_S (x0 : List (List Sec)) : (List (List Sec) × Int) → Option ((List (List Sec) × Int) ⊕ (List (List Sec)))
 | (v4, v12) =>
  if v12 < (x0.length : Int) then
   if inX v12 x0.length then
   if lenOk (([] : List Sec) ++ (ix x0 v12)).length 8 then
   if lenOk (v4 ++ [(([] : List Sec) ++ (ix x0 v12))]).length 24 then
   if inI (v12 + 1) then
   some (.inl ((v4 ++ [(([] : List Sec) ++ (ix x0 v12))]), v12 + 1))
   else none
   else none
   else none
   else none
  else
   some (.inr v4)
theorem ref07_Copy_L1_sound (x0 : List (List Sec)) (s : List (List Sec) × Int) {Φ : List (List Sec) → Prop} {rec1 : (List (List Sec) × Int) → Prop} {o} (h : ref07_Copy_L1_S x0 s = some o) (hK : (orK rec1 Φ) o) : ref07_Copy_L1 x0 Φ s rec1 := by
 obtain ⟨v4, v12⟩ := s
 unfold ref07_Copy_L1_S at h
 unfold ref07_Copy_L1
 exact ifS h (fun h => adS h fun h => adS h fun h => adS h fun h => adS h fun h => have t := lfS h hK; t) fun h => have t := lfS h hK; t
def ref07_Copy_S (x0 : List (List Sec)) : Option (List (List Sec)) :=
 loopS (ref07_Copy_L1_S x0) 100000 (([] : List (List Sec)), 0)
theorem ref07_Copy_sound (x0 : List (List Sec)) {Φ : List (List Sec) → Prop} {o} (h : ref07_Copy_S x0 = some o) (hK : Φ o) : ref07_Copy_W x0 Φ := by
 unfold ref07_Copy_S at h
 unfold ref07_Copy_W
 exact LoopW.of_S (fun s q rec hs hq => ref07_Copy_L1_sound _ s hs hq) _ _ h hK
def ref07_FitsSizes_S (x0 : List Int) (x1 : api_Write) : Option (Int) :=
 if (x1.Volume < 0) ∨ ((x0.length : Int) ≤ x1.Volume) then
  some (7)
 else
  if (x1.Data.length : Int) = 0 then
   some (1)
  else
   Option.bind (
    if ¬ (x1.Start < 0) then
     if inX x1.Volume x0.length then
     if ¬ ((ix x0 x1.Volume) ≤ x1.Start) then
      if inI ((ix x0 x1.Volume) - x1.Start) then some () else none
     else some ()
     else none
    else some () : Option Unit) fun _ =>
   if (x1.Start < 0) ∨ (((ix x0 x1.Volume) ≤ x1.Start) ∨ (((ix x0 x1.Volume) - x1.Start) < (x1.Data.length : Int))) then
    some (2)
   else
    some (0)
theorem ref07_FitsSizes_sound (x0 : List Int) (x1 : api_Write) {Φ : Int → Prop} {o} (h : ref07_FitsSizes_S x0 x1 = some o) (hK : Φ o) : ref07_FitsSizes_W x0 x1 Φ := by
 unfold ref07_FitsSizes_S at h
 unfold ref07_FitsSizes_W
 exact ifS h (fun h => have t := lfS h hK; t) fun h => ifS h (fun h => have t := lfS h hK; t) fun h => mgS h (fun h hK => imS h fun h => adS h fun h => imS h fun h => (ofIf h).1) fun h => ifS h (fun h => have t := lfS h hK; t) fun h => have t := lfS h hK; t
def ref07_Fits_S (x0 : List (List Sec)) (x1 : api_Write) : Option (Int) :=
 Option.bind (ref07_Check_S x0) fun v4 =>
 if v4 ≠ 0 then
  some (v4)
 else
  Option.bind (ref07_SizesOf_S x0) fun v8 =>
  Option.bind (ref07_FitsSizes_S v8 x1) fun v14 =>
  some (v14)
theorem ref07_Fits_sound (x0 : List (List Sec)) (x1 : api_Write) {Φ : Int → Prop} {o} (h : ref07_Fits_S x0 x1 = some o) (hK : Φ o) : ref07_Fits_W x0 x1 Φ := by
 unfold ref07_Fits_S at h
 unfold ref07_Fits_W
 exact blS h fun _ hv h => ref07_Check_sound _ hv (ifS h (fun h => have t := lfS h hK; t) fun h => blS h fun v hv h => ⟨v, ref07_SizesOf_sound _ hv rfl, blS h fun v hv h => ⟨v, ref07_FitsSizes_sound _ _ hv rfl, have t := lfS h hK; t⟩⟩)
def ref07_Apply_L2_S (x1 : List api_Write) (v24 : Int) : (List (List Sec) × Int) → Option ((List (List Sec) × Int) ⊕ ((List (List Sec) × Int) ⊕ (List (List Sec) × Int × Int)))
 | (v37, v45) =>
  if v45 < (((ix x1 v24).Data).length : Int) then
   if inX ((ix x1 v24).Volume) v37.length then
   if inI (((ix x1 v24).Start) + v45) then
   if inX v45 ((ix x1 v24).Data).length then
   if inX (((ix x1 v24).Start) + v45) (ix v37 ((ix x1 v24).Volume)).length then
   if inI (v45 + 1) then
   some (.inl ((put v37 ((ix x1 v24).Volume) (put (ix v37 ((ix x1 v24).Volume)) (((ix x1 v24).Start) + v45) (ix ((ix x1 v24).Data) v45))), v45 + 1))
   else none
   else none
   else none
   else none
   else none
  else
   if inI (v24 + 1) then
   some (.inr (.inl (v37, v24 + 1)))
   else none
theorem ref07_Apply_L2_sound (x1 : List api_Write) (v24 : Int) (s : List (List Sec) × Int) {Φ : List (List Sec) × Int × Int → Prop} {rec1 : (List (List Sec) × Int) → Prop} {rec2 : (List (List Sec) × Int) → Prop} {o} (h : ref07_Apply_L2_S x1 v24 s = some o) (hK : (orK rec2 (orK rec1 Φ)) o) : ref07_Apply_L2 x1 v24 rec1 Φ s rec2 := by
 obtain ⟨v37, v45⟩ := s
 unfold ref07_Apply_L2_S at h
 unfold ref07_Apply_L2
 exact ifS h (fun h => adS h fun h => adS h fun h => adS h fun h => adS h fun h => adS h fun h => have t := lfS h hK; t) fun h => adS h fun h => have t := lfS h hK; t
def ref07_Apply_L1_S (x0 : List (List Sec)) (x1 : List api_Write) : (List (List Sec) × Int) → Option ((List (List Sec) × Int) ⊕ (List (List Sec) × Int × Int))
 | (v16, v24) =>
  if v24 < (x1.length : Int) then
   if inX v24 x1.length then
   Option.bind (ref07_Fits_S x0 (ix x1 v24)) fun v31 =>
   if v31 ≠ 0 then
    some (.inr (([] : List (List Sec)), v24, v31))
   else
    loopS (ref07_Apply_L2_S x1 v24) 100000 (v16, 0)
   else none
  else
   some (.inr (v16, 0, 0))
theorem ref07_Apply_L1_sound (x0 : List (List Sec)) (x1 : List api_Write) (s : List (List Sec) × Int) {Φ : List (List Sec) × Int × Int → Prop} {rec1 : (List (List Sec) × Int) → Prop} {o} (h : ref07_Apply_L1_S x0 x1 s = some o) (hK : (orK rec1 Φ) o) : ref07_Apply_L1 x0 x1 Φ s rec1 := by
 obtain ⟨v16, v24⟩ := s
 unfold ref07_Apply_L1_S at h
 unfold ref07_Apply_L1
 exact ifS h (fun h => adS h fun h => blS h fun _ hv h => ref07_Fits_sound _ _ hv (ifS h (fun h => have t := lfS h hK; t) fun h => LoopW.of_S (fun s q rec hs hq => ref07_Apply_L2_sound _ _ s hs hq) _ _ h hK)) fun h => have t := lfS h hK; t
def ref07_Apply_S (x0 : List (List Sec)) (x1 : List api_Write) : Option (List (List Sec) × Int × Int) :=
 Option.bind (ref07_Check_S x0) fun v3 =>
 if v3 ≠ 0 then
  some ((([] : List (List Sec)), 0, v3))
 else
  Option.bind (ref07_Copy_S x0) fun v7 =>
  loopS (ref07_Apply_L1_S x0 x1) 100000 (v7, 0)
theorem ref07_Apply_sound (x0 : List (List Sec)) (x1 : List api_Write) {Φ : List (List Sec) × Int × Int → Prop} {o} (h : ref07_Apply_S x0 x1 = some o) (hK : Φ o) : ref07_Apply_W x0 x1 Φ := by
 unfold ref07_Apply_S at h
 unfold ref07_Apply_W
 exact blS h fun _ hv h => ref07_Check_sound _ hv (ifS h (fun h => have t := lfS h hK; t) fun h => blS h fun _ hv h => ref07_Copy_sound _ hv (LoopW.of_S (fun s q rec hs hq => ref07_Apply_L1_sound _ _ s hs hq) _ _ h hK))
def ref02_New_S (x0 : Int) : Option (api_Bitmap × Int) :=
 if (x0 < 0) ∨ (4096 < x0) then
  some (((api_Bitmap.mk 0 ([] : List (BitVec 64))), 2))
 else
  if inI (x0 + 63) then
  if 0 ≤ (x0 + 63) ∧ inI (x0 + 63) then
  if 0 ≤ ((x0 + 63) / 64) then
  if lenOk ((x0 + 63) / 64).toNat 8 then
  some (((api_Bitmap.mk x0 (List.replicate ((x0 + 63) / 64).toNat (0#64))), 0))
  else none
  else none
  else none
  else none
theorem ref02_New_sound (x0 : Int) {Φ : api_Bitmap × Int → Prop} {o} (h : ref02_New_S x0 = some o) (hK : Φ o) : ref02_New_W x0 Φ := by
 unfold ref02_New_S at h
 unfold ref02_New_W
 exact ifS h (fun h => have t := lfS h hK; t) fun h => adS h fun h => adS h fun h => adS h fun h => adS h fun h => have t := lfS h hK; t
def ref43_Clean_L1_S (x0 : List Int) : (List api_Bitmap × Int) → Option ((List api_Bitmap × Int) ⊕ (List api_Bitmap))
 | (v4, v11) =>
  if v11 < (x0.length : Int) then
   if inX v11 x0.length then
   Option.bind (ref02_New_S (ix x0 v11)) fun v17 =>
   if lenOk (v4 ++ ([v17.1] : List api_Bitmap)).length 32 then
   if inI (v11 + 1) then
   some (.inl ((v4 ++ ([v17.1] : List api_Bitmap)), v11 + 1))
   else none
   else none
   else none
  else
   some (.inr v4)
theorem ref43_Clean_L1_sound (x0 : List Int) (s : List api_Bitmap × Int) {Φ : List api_Bitmap → Prop} {rec1 : (List api_Bitmap × Int) → Prop} {o} (h : ref43_Clean_L1_S x0 s = some o) (hK : (orK rec1 Φ) o) : ref43_Clean_L1 x0 Φ s rec1 := by
 obtain ⟨v4, v11⟩ := s
 unfold ref43_Clean_L1_S at h
 unfold ref43_Clean_L1
 exact ifS h (fun h => adS h fun h => blS h fun _ hv h => ref02_New_sound _ hv (adS h fun h => adS h fun h => have t := lfS h hK; t)) fun h => have t := lfS h hK; t
def ref43_Clean_S (x0 : List Int) : Option (List api_Bitmap) :=
 loopS (ref43_Clean_L1_S x0) 100000 (([] : List api_Bitmap), 0)
theorem ref43_Clean_sound (x0 : List Int) {Φ : List api_Bitmap → Prop} {o} (h : ref43_Clean_S x0 = some o) (hK : Φ o) : ref43_Clean_W x0 Φ := by
 unfold ref43_Clean_S at h
 unfold ref43_Clean_W
 exact LoopW.of_S (fun s q rec hs hq => ref43_Clean_L1_sound _ s hs hq) _ _ h hK
def ref02_Copy_S (x0 : api_Bitmap) : Option (api_Bitmap) :=
 if lenOk (([] : List (BitVec 64)) ++ x0.Words).length 8 then
 some ((api_Bitmap.mk x0.Size (([] : List (BitVec 64)) ++ x0.Words)))
 else none
theorem ref02_Copy_sound (x0 : api_Bitmap) {Φ : api_Bitmap → Prop} {o} (h : ref02_Copy_S x0 = some o) (hK : Φ o) : ref02_Copy_W x0 Φ := by
 unfold ref02_Copy_S at h
 unfold ref02_Copy_W
 exact adS h fun h => have t := lfS h hK; t
def ref02_bit_S (x0 : api_Bitmap) (x1 : Int) : Option (Bool) :=
 if 0 ≤ x1 ∧ inI x1 then
 if inX (x1 / 64) x0.Words.length then
 if 0 ≤ x1 then
 some (decide ((((ix x0.Words (x1 / 64)) >>> ((BitVec.ofInt 64 (x1 % 64)).toNat : Int).toNat) &&& (1#64)) = (1#64)))
 else none
 else none
 else none
theorem ref02_bit_sound (x0 : api_Bitmap) (x1 : Int) {Φ : Bool → Prop} {o} (h : ref02_bit_S x0 x1 = some o) (hK : Φ o) : ref02_bit_W x0 x1 Φ := by
 unfold ref02_bit_S at h
 unfold ref02_bit_W
 exact adS h fun h => adS h fun h => adS h fun h => have t := lfS h hK; t
def ref02_Check_L1_S (x0 : api_Bitmap) : (Int) → Option ((Int) ⊕ (Int))
 | (v10) =>
  if inI (64 * (x0.Words.length : Int)) then
  if v10 < (64 * (x0.Words.length : Int)) then
   Option.bind (ref02_bit_S x0 v10) fun v15 =>
   if v15 = true then
    some (.inr 3)
   else
    if inI (v10 + 1) then
    some (.inl (v10 + 1))
    else none
  else
   some (.inr 0)
  else none
theorem ref02_Check_L1_sound (x0 : api_Bitmap) (s : Int) {Φ : Int → Prop} {rec1 : (Int) → Prop} {o} (h : ref02_Check_L1_S x0 s = some o) (hK : (orK rec1 Φ) o) : ref02_Check_L1 x0 Φ s rec1 := by
 unfold ref02_Check_L1_S at h
 unfold ref02_Check_L1
 exact adS h fun h => ifS h (fun h => blS h fun _ hv h => ref02_bit_sound _ _ hv (ifS h (fun h => have t := lfS h hK; t) fun h => adS h fun h => have t := lfS h hK; t)) fun h => have t := lfS h hK; t
def ref02_Check_S (x0 : api_Bitmap) : Option (Int) :=
 Option.bind (
  if ¬ (x0.Size < 0) then
   if ¬ (4096 < x0.Size) then
    if inI (x0.Size + 63) then
    if 0 ≤ (x0.Size + 63) ∧ inI (x0.Size + 63) then some () else none
    else none
   else some ()
  else some () : Option Unit) fun _ =>
 if (x0.Size < 0) ∨ ((4096 < x0.Size) ∨ ((x0.Words.length : Int) ≠ ((x0.Size + 63) / 64))) then
  some (3)
 else
  loopS (ref02_Check_L1_S x0) 100000 (x0.Size)
theorem ref02_Check_sound (x0 : api_Bitmap) {Φ : Int → Prop} {o} (h : ref02_Check_S x0 = some o) (hK : Φ o) : ref02_Check_W x0 Φ := by
 unfold ref02_Check_S at h
 unfold ref02_Check_W
 exact mgS h (fun h hK => imS h fun h => imS h fun h => adS h fun h => (ofIf h).1) fun h => ifS h (fun h => have t := lfS h hK; t) fun h => LoopW.of_S (fun s q rec hs hq => ref02_Check_L1_sound _ s hs hq) _ _ h hK
def ref02_Fits_S (x0 : api_Extent) (x1 : Int) : Option (Bool) :=
 Option.bind (
  if 0 ≤ x0.Start then
   if 0 ≤ x0.Count then
    if x0.Start ≤ x1 then
     if inI (x1 - x0.Start) then some () else none
    else some ()
   else some ()
  else some () : Option Unit) fun _ =>
 some (decide ((0 ≤ x0.Start) ∧ ((0 ≤ x0.Count) ∧ ((x0.Start ≤ x1) ∧ (x0.Count ≤ (x1 - x0.Start))))))
theorem ref02_Fits_sound (x0 : api_Extent) (x1 : Int) {Φ : Bool → Prop} {o} (h : ref02_Fits_S x0 x1 = some o) (hK : Φ o) : ref02_Fits_W x0 x1 Φ := by
 unfold ref02_Fits_S at h
 unfold ref02_Fits_W
 exact mgS h (fun h hK => imS h fun h => imS h fun h => imS h fun h => (ofIf h).1) fun h => have t := lfS h hK; t
def ref02_change_L1_S (x1 : api_Extent) (x2 : Bool) (v13 : api_Bitmap) : (List (BitVec 64) × Int) → Option ((List (BitVec 64) × Int) ⊕ (api_Bitmap × Int))
 | (v22, v29) =>
  if inI (x1.Start + x1.Count) then
  if v29 < (x1.Start + x1.Count) then
   if x2 = true then
    if 0 ≤ v29 ∧ inI v29 then
    if inX (v29 / 64) v22.length then
    if 0 ≤ v29 then
    if inI (v29 + 1) then
    some (.inl ((put v22 (v29 / 64) ((ix v22 (v29 / 64)) ||| ((1#64) <<< ((BitVec.ofInt 64 (v29 % 64)).toNat : Int).toNat))), v29 + 1))
    else none
    else none
    else none
    else none
   else
    if 0 ≤ v29 ∧ inI v29 then
    if inX (v29 / 64) v22.length then
    if 0 ≤ v29 then
    if inI (v29 + 1) then
    some (.inl ((put v22 (v29 / 64) ((ix v22 (v29 / 64)) &&& ~~~((1#64) <<< ((BitVec.ofInt 64 (v29 % 64)).toNat : Int).toNat))), v29 + 1))
    else none
    else none
    else none
    else none
  else
   some (.inr ((api_Bitmap.mk v13.Size v22), 0))
  else none
theorem ref02_change_L1_sound (x1 : api_Extent) (x2 : Bool) (v13 : api_Bitmap) (s : List (BitVec 64) × Int) {Φ : api_Bitmap × Int → Prop} {rec1 : (List (BitVec 64) × Int) → Prop} {o} (h : ref02_change_L1_S x1 x2 v13 s = some o) (hK : (orK rec1 Φ) o) : ref02_change_L1 x1 x2 v13 Φ s rec1 := by
 obtain ⟨v22, v29⟩ := s
 unfold ref02_change_L1_S at h
 unfold ref02_change_L1
 exact adS h fun h => ifS h (fun h => ifS h (fun h => adS h fun h => adS h fun h => adS h fun h => adS h fun h => have t := lfS h hK; t) fun h => adS h fun h => adS h fun h => adS h fun h => adS h fun h => have t := lfS h hK; t) fun h => have t := lfS h hK; t
def ref02_change_S (x0 : api_Bitmap) (x1 : api_Extent) (x2 : Bool) : Option (api_Bitmap × Int) :=
 Option.bind (ref02_Check_S x0) fun v5 =>
 if v5 ≠ 0 then
  some (((api_Bitmap.mk 0 ([] : List (BitVec 64))), 3))
 else
  Option.bind (ref02_Fits_S x1 x0.Size) fun v9 =>
  if ¬ (v9 = true) then
   some (((api_Bitmap.mk 0 ([] : List (BitVec 64))), 2))
  else
   Option.bind (ref02_Copy_S x0) fun v13 =>
   loopS (ref02_change_L1_S x1 x2 v13) 100000 (v13.Words, x1.Start)
theorem ref02_change_sound (x0 : api_Bitmap) (x1 : api_Extent) (x2 : Bool) {Φ : api_Bitmap × Int → Prop} {o} (h : ref02_change_S x0 x1 x2 = some o) (hK : Φ o) : ref02_change_W x0 x1 x2 Φ := by
 unfold ref02_change_S at h
 unfold ref02_change_W
 exact blS h fun _ hv h => ref02_Check_sound _ hv (ifS h (fun h => have t := lfS h hK; t) fun h => blS h fun _ hv h => ref02_Fits_sound _ _ hv (ifS h (fun h => have t := lfS h hK; t) fun h => blS h fun _ hv h => ref02_Copy_sound _ hv (LoopW.of_S (fun s q rec hs hq => ref02_change_L1_sound _ _ _ s hs hq) _ _ h hK)))
def ref02_Set_S (x0 : api_Bitmap) (x1 : api_Extent) : Option (api_Bitmap × Int) :=
 Option.bind (ref02_change_S x0 x1 true) fun v5 =>
 some ((v5.1, v5.2))
theorem ref02_Set_sound (x0 : api_Bitmap) (x1 : api_Extent) {Φ : api_Bitmap × Int → Prop} {o} (h : ref02_Set_S x0 x1 = some o) (hK : Φ o) : ref02_Set_W x0 x1 Φ := by
 unfold ref02_Set_S at h
 unfold ref02_Set_W
 exact blS h fun _ hv h => ref02_change_sound _ _ _ hv (have t := lfS h hK; t)
def ref43_Mark_L2_S (x1 : List api_Write) : (List api_Bitmap × Int) → Option ((List api_Bitmap × Int) ⊕ ((List api_Bitmap × Int) ⊕ (List api_Bitmap)))
 | (v40, v47) =>
  if v47 < (x1.length : Int) then
   if inX v47 x1.length then
   if inX ((ix x1 v47).Volume) v40.length then
   Option.bind (ref02_Set_S (ix v40 ((ix x1 v47).Volume)) (api_Extent.mk ((ix x1 v47).Start) (((ix x1 v47).Data).length : Int))) fun v77 =>
   if inI (v47 + 1) then
   some (.inl ((put v40 ((ix x1 v47).Volume) v77.1), v47 + 1))
   else none
   else none
   else none
  else
   some (.inr (.inr v40))
theorem ref43_Mark_L2_sound (x1 : List api_Write) (s : List api_Bitmap × Int) {Φ : List api_Bitmap → Prop} {rec1 : (List api_Bitmap × Int) → Prop} {rec2 : (List api_Bitmap × Int) → Prop} {o} (h : ref43_Mark_L2_S x1 s = some o) (hK : (orK rec2 (orK rec1 Φ)) o) : ref43_Mark_L2 x1 Φ s rec2 := by
 obtain ⟨v40, v47⟩ := s
 unfold ref43_Mark_L2_S at h
 unfold ref43_Mark_L2
 exact ifS h (fun h => adS h fun h => adS h fun h => blS h fun v hv h => ⟨v, ref02_Set_sound _ _ hv rfl, adS h fun h => have t := lfS h hK; t⟩) fun h => have t := lfS h hK; t
def ref43_Mark_L1_S (x0 : List api_Bitmap) (x1 : List api_Write) : (List api_Bitmap × Int) → Option ((List api_Bitmap × Int) ⊕ (List api_Bitmap))
 | (v5, v12) =>
  if v12 < (x0.length : Int) then
   if inX v12 x0.length then
   Option.bind (ref02_Copy_S (ix x0 v12)) fun v19 =>
   if lenOk (v5 ++ ([v19] : List api_Bitmap)).length 32 then
   if inI (v12 + 1) then
   some (.inl ((v5 ++ ([v19] : List api_Bitmap)), v12 + 1))
   else none
   else none
   else none
  else
   loopS (ref43_Mark_L2_S x1) 100000 (v5, 0)
theorem ref43_Mark_L1_sound (x0 : List api_Bitmap) (x1 : List api_Write) (s : List api_Bitmap × Int) {Φ : List api_Bitmap → Prop} {rec1 : (List api_Bitmap × Int) → Prop} {o} (h : ref43_Mark_L1_S x0 x1 s = some o) (hK : (orK rec1 Φ) o) : ref43_Mark_L1 x0 x1 Φ s rec1 := by
 obtain ⟨v5, v12⟩ := s
 unfold ref43_Mark_L1_S at h
 unfold ref43_Mark_L1
 exact ifS h (fun h => adS h fun h => blS h fun _ hv h => ref02_Copy_sound _ hv (adS h fun h => adS h fun h => have t := lfS h hK; t)) fun h => LoopW.of_S (fun s q rec hs hq => ref43_Mark_L2_sound _ s hs hq) _ _ h hK
def ref43_Mark_S (x0 : List api_Bitmap) (x1 : List api_Write) : Option (List api_Bitmap) :=
 loopS (ref43_Mark_L1_S x0 x1) 100000 (([] : List api_Bitmap), 0)
theorem ref43_Mark_sound (x0 : List api_Bitmap) (x1 : List api_Write) {Φ : List api_Bitmap → Prop} {o} (h : ref43_Mark_S x0 x1 = some o) (hK : Φ o) : ref43_Mark_W x0 x1 Φ := by
 unfold ref43_Mark_S at h
 unfold ref43_Mark_W
 exact LoopW.of_S (fun s q rec hs hq => ref43_Mark_L1_sound _ _ s hs hq) _ _ h hK
def law47_point_S (x0 : Int) (x1 : List (List Sec)) (x2 : List api_Span) (x3 : List api_Write) : Option (api_Point) :=
 Option.bind (ref07_Apply_S x1 x3) fun v5 =>
 Option.bind (ref07_SizesOf_S x1) fun v12 =>
 Option.bind (ref43_Clean_S v12) fun v21 =>
 Option.bind (ref43_Mark_S v21 x3) fun v30 =>
 some ((api_Point.mk x0 x2 v30 v5.1))
theorem law47_point_sound (x0 : Int) (x1 : List (List Sec)) (x2 : List api_Span) (x3 : List api_Write) {Φ : api_Point → Prop} {o} (h : law47_point_S x0 x1 x2 x3 = some o) (hK : Φ o) : law47_point_W x0 x1 x2 x3 Φ := by
 unfold law47_point_S at h
 unfold law47_point_W
 exact blS h fun _ hv h => ref07_Apply_sound _ _ hv (blS h fun _ hv h => ref07_SizesOf_sound _ hv (blS h fun _ hv h => ref43_Clean_sound _ hv (blS h fun _ hv h => ref43_Mark_sound _ _ hv (have t := lfS h hK; t))))
def delta_in_S (x0 : Int) (x1 : Int) : Option (Bool) :=
 some (decide ((x1 ≤ x0) ∧ (x0 ≤ 1073741824)))
theorem delta_in_sound (x0 : Int) (x1 : Int) {Φ : Bool → Prop} {o} (h : delta_in_S x0 x1 = some o) (hK : Φ o) : delta_in_W x0 x1 Φ := by
 unfold delta_in_S at h
 unfold delta_in_W
 exact have t := lfS h hK; t
def delta_correct_L1_S (x0 : List api_Span) : (Int × Int × Int × Int) → Option ((Int × Int × Int × Int) ⊕ (Bool))
 | (v5, _, v7, v8) =>
  if v8 < (x0.length : Int) then
   if inX v8 x0.length then
   if inI (v7 + 1) then
   if ((ix x0 v8).From) ≠ (v7 + 1) then
    some (.inr false)
   else
    if ((ix x0 v8).To) < ((ix x0 v8).From) then
     some (.inr false)
    else
     if 1073741824 < ((ix x0 v8).To) then
      some (.inr false)
     else
      Option.bind (delta_in_S ((ix x0 v8).Epoch) 1) fun v30 =>
      if ¬ (v30 = true) then
       some (.inr false)
      else
       if ((ix x0 v8).Epoch) ≤ v5 then
        some (.inr false)
       else
        if inI (v8 + 1) then
        some (.inl ((ix x0 v8).Epoch, (ix x0 v8).From, (ix x0 v8).To, v8 + 1))
        else none
   else none
   else none
  else
   some (.inr true)
theorem delta_correct_L1_sound (x0 : List api_Span) (s : Int × Int × Int × Int) {Φ : Bool → Prop} {rec1 : (Int × Int × Int × Int) → Prop} {o} (h : delta_correct_L1_S x0 s = some o) (hK : (orK rec1 Φ) o) : delta_correct_L1 x0 Φ s rec1 := by
 obtain ⟨v5, v6, v7, v8⟩ := s
 unfold delta_correct_L1_S at h
 unfold delta_correct_L1
 exact ifS h (fun h => adS h fun h => adS h fun h => ifS h (fun h => have t := lfS h hK; t) fun h => ifS h (fun h => have t := lfS h hK; t) fun h => ifS h (fun h => have t := lfS h hK; t) fun h => blS h fun _ hv h => delta_in_sound _ _ hv (ifS h (fun h => have t := lfS h hK; t) fun h => ifS h (fun h => have t := lfS h hK; t) fun h => adS h fun h => have t := lfS h hK; t)) fun h => have t := lfS h hK; t
def delta_correct_S (x0 : List api_Span) : Option (Bool) :=
 loopS (delta_correct_L1_S x0) 100000 (0, 0, 0, 0)
theorem delta_correct_sound (x0 : List api_Span) {Φ : Bool → Prop} {o} (h : delta_correct_S x0 = some o) (hK : Φ o) : delta_correct_W x0 Φ := by
 unfold delta_correct_S at h
 unfold delta_correct_W
 exact LoopW.of_S (fun s q rec hs hq => delta_correct_L1_sound _ s hs hq) _ _ h hK
def image_sizes_1_S (x0 : List Sec) : Option (Int) :=
 some ((x0.length : Int))
theorem image_sizes_1_sound (x0 : List Sec) {Φ : Int → Prop} {o} (h : image_sizes_1_S x0 = some o) (hK : Φ o) : image_sizes_1_W x0 Φ := by
 unfold image_sizes_1_S at h
 unfold image_sizes_1_W
 exact have t := lfS h hK; t
def image_mapped_api_Sector_int__image_sizes_1_L1_S (x0 : List (List Sec)) : (List Int × Int) → Option ((List Int × Int) ⊕ (List Int))
 | (v12, v19) =>
  if v19 < (x0.length : Int) then
   if inX v19 x0.length then
   Option.bind (image_sizes_1_S (ix x0 v19)) fun v26 =>
   if lenOk (v12 ++ ([v26] : List Int)).length 8 then
   if inI (v19 + 1) then
   some (.inl ((v12 ++ ([v26] : List Int)), v19 + 1))
   else none
   else none
   else none
  else
   some (.inr v12)
theorem image_mapped_api_Sector_int__image_sizes_1_L1_sound (x0 : List (List Sec)) (s : List Int × Int) {Φ : List Int → Prop} {rec1 : (List Int × Int) → Prop} {o} (h : image_mapped_api_Sector_int__image_sizes_1_L1_S x0 s = some o) (hK : (orK rec1 Φ) o) : image_mapped_api_Sector_int__image_sizes_1_L1 x0 Φ s rec1 := by
 obtain ⟨v12, v19⟩ := s
 unfold image_mapped_api_Sector_int__image_sizes_1_L1_S at h
 unfold image_mapped_api_Sector_int__image_sizes_1_L1
 exact ifS h (fun h => adS h fun h => blS h fun _ hv h => image_sizes_1_sound _ hv (adS h fun h => adS h fun h => have t := lfS h hK; t)) fun h => have t := lfS h hK; t
def image_mapped_api_Sector_int__image_sizes_1_S (x0 : List (List Sec)) : Option (List Int) :=
 if 0 ≤ (x0.length : Int) then
 if lenOk (x0.length : Int).toNat 8 then
 loopS (image_mapped_api_Sector_int__image_sizes_1_L1_S x0) 100000 (([] : List Int), 0)
 else none
 else none
theorem image_mapped_api_Sector_int__image_sizes_1_sound (x0 : List (List Sec)) {Φ : List Int → Prop} {o} (h : image_mapped_api_Sector_int__image_sizes_1_S x0 = some o) (hK : Φ o) : image_mapped_api_Sector_int__image_sizes_1_W x0 Φ := by
 unfold image_mapped_api_Sector_int__image_sizes_1_S at h
 unfold image_mapped_api_Sector_int__image_sizes_1_W
 exact adS h fun h => adS h fun h => LoopW.of_S (fun s q rec hs hq => image_mapped_api_Sector_int__image_sizes_1_L1_sound _ s hs hq) _ _ h hK
def image_sizes_S (x0 : List (List Sec)) : Option (List Int) :=
 Option.bind (image_mapped_api_Sector_int__image_sizes_1_S x0) fun v2 =>
 some (v2)
theorem image_sizes_sound (x0 : List (List Sec)) {Φ : List Int → Prop} {o} (h : image_sizes_S x0 = some o) (hK : Φ o) : image_sizes_W x0 Φ := by
 unfold image_sizes_S at h
 unfold image_sizes_W
 exact blS h fun _ hv h => image_mapped_api_Sector_int__image_sizes_1_sound _ hv (have t := lfS h hK; t)
def image_checkSizes_1_S (x0 : Int) : Option (Bool) :=
 some (decide ((x0 < 1) ∨ (4096 < x0)))
theorem image_checkSizes_1_sound (x0 : Int) {Φ : Bool → Prop} {o} (h : image_checkSizes_1_S x0 = some o) (hK : Φ o) : image_checkSizes_1_W x0 Φ := by
 unfold image_checkSizes_1_S at h
 unfold image_checkSizes_1_W
 exact have t := lfS h hK; t
def slices_IndexFunc_int_int__image_checkSizes_1_L1_S (x0 : List Int) : (Int) → Option ((Int) ⊕ (Int))
 | (v4) =>
  if v4 < (x0.length : Int) then
   if inX v4 x0.length then
   Option.bind (image_checkSizes_1_S (ix x0 v4)) fun v10 =>
   if v10 = true then
    some (.inr v4)
   else
    if inI (v4 + 1) then
    some (.inl (v4 + 1))
    else none
   else none
  else
   some (.inr (-1))
theorem slices_IndexFunc_int_int__image_checkSizes_1_L1_sound (x0 : List Int) (s : Int) {Φ : Int → Prop} {rec1 : (Int) → Prop} {o} (h : slices_IndexFunc_int_int__image_checkSizes_1_L1_S x0 s = some o) (hK : (orK rec1 Φ) o) : slices_IndexFunc_int_int__image_checkSizes_1_L1 x0 Φ s rec1 := by
 unfold slices_IndexFunc_int_int__image_checkSizes_1_L1_S at h
 unfold slices_IndexFunc_int_int__image_checkSizes_1_L1
 exact ifS h (fun h => adS h fun h => blS h fun _ hv h => image_checkSizes_1_sound _ hv (ifS h (fun h => have t := lfS h hK; t) fun h => adS h fun h => have t := lfS h hK; t)) fun h => have t := lfS h hK; t
def slices_IndexFunc_int_int__image_checkSizes_1_S (x0 : List Int) : Option (Int) :=
 loopS (slices_IndexFunc_int_int__image_checkSizes_1_L1_S x0) 100000 (0)
theorem slices_IndexFunc_int_int__image_checkSizes_1_sound (x0 : List Int) {Φ : Int → Prop} {o} (h : slices_IndexFunc_int_int__image_checkSizes_1_S x0 = some o) (hK : Φ o) : slices_IndexFunc_int_int__image_checkSizes_1_W x0 Φ := by
 unfold slices_IndexFunc_int_int__image_checkSizes_1_S at h
 unfold slices_IndexFunc_int_int__image_checkSizes_1_W
 exact LoopW.of_S (fun s q rec hs hq => slices_IndexFunc_int_int__image_checkSizes_1_L1_sound _ s hs hq) _ _ h hK
def slices_ContainsFunc_int_int__image_checkSizes_1_S (x0 : List Int) : Option (Bool) :=
 Option.bind (slices_IndexFunc_int_int__image_checkSizes_1_S x0) fun v2 =>
 some (decide (0 ≤ v2))
theorem slices_ContainsFunc_int_int__image_checkSizes_1_sound (x0 : List Int) {Φ : Bool → Prop} {o} (h : slices_ContainsFunc_int_int__image_checkSizes_1_S x0 = some o) (hK : Φ o) : slices_ContainsFunc_int_int__image_checkSizes_1_W x0 Φ := by
 unfold slices_ContainsFunc_int_int__image_checkSizes_1_S at h
 unfold slices_ContainsFunc_int_int__image_checkSizes_1_W
 exact blS h fun _ hv h => slices_IndexFunc_int_int__image_checkSizes_1_sound _ hv (have t := lfS h hK; t)
def image_checkSizes_S (x0 : List Int) : Option (Int) :=
 if ((x0.length : Int) < 1) ∨ (8 < (x0.length : Int)) then
  some (6)
 else
  Option.bind (slices_ContainsFunc_int_int__image_checkSizes_1_S x0) fun v4 =>
  if v4 = true then
   some (2)
  else
   some (0)
theorem image_checkSizes_sound (x0 : List Int) {Φ : Int → Prop} {o} (h : image_checkSizes_S x0 = some o) (hK : Φ o) : image_checkSizes_W x0 Φ := by
 unfold image_checkSizes_S at h
 unfold image_checkSizes_W
 exact ifS h (fun h => have t := lfS h hK; t) fun h => blS h fun _ hv h => slices_ContainsFunc_int_int__image_checkSizes_1_sound _ hv (ifS h (fun h => have t := lfS h hK; t) fun h => have t := lfS h hK; t)
def image_Check_S (x0 : List (List Sec)) : Option (Int) :=
 Option.bind (image_sizes_S x0) fun v2 =>
 Option.bind (image_checkSizes_S v2) fun v11 =>
 some (v11)
theorem image_Check_sound (x0 : List (List Sec)) {Φ : Int → Prop} {o} (h : image_Check_S x0 = some o) (hK : Φ o) : image_Check_W x0 Φ := by
 unfold image_Check_S at h
 unfold image_Check_W
 exact blS h fun _ hv h => image_sizes_sound _ hv (blS h fun _ hv h => image_checkSizes_sound _ hv (have t := lfS h hK; t))
def bitmap_words_S (x0 : Int) : Option (Int) :=
 if inI (x0 + 64) then
 if inI ((x0 + 64) - 1) then
 if 0 ≤ ((x0 + 64) - 1) ∧ inI ((x0 + 64) - 1) then
 some (((x0 + 64) - 1) / 64)
 else none
 else none
 else none
theorem bitmap_words_sound (x0 : Int) {Φ : Int → Prop} {o} (h : bitmap_words_S x0 = some o) (hK : Φ o) : bitmap_words_W x0 Φ := by
 unfold bitmap_words_S at h
 unfold bitmap_words_W
 exact adS h fun h => adS h fun h => adS h fun h => have t := lfS h hK; t
def bitmap_Check_J1_S (x0 : api_Bitmap) : Option (Int) :=
 if 0 ≤ x0.Size then
 Option.bind (
  if 0 < (x0.Size % 64) then
   if inI ((x0.Words.length : Int) - 1) then
   if inX ((x0.Words.length : Int) - 1) x0.Words.length then
   if 0 ≤ (x0.Size % 64) then some () else none
   else none
   else none
  else some () : Option Unit) fun _ =>
 if (0 < (x0.Size % 64)) ∧ (((ix x0.Words ((x0.Words.length : Int) - 1)) >>> (x0.Size % 64 : Int).toNat) ≠ (0#64)) then
  some (3)
 else
  some (0)
 else none
theorem bitmap_Check_J1_sound (x0 : api_Bitmap) {Φ : Int → Prop} {o} (h : bitmap_Check_J1_S x0 = some o) (hK : Φ o) : bitmap_Check_J1 x0 Φ := by
 unfold bitmap_Check_J1_S at h
 unfold bitmap_Check_J1
 exact adS h fun h => mgS h (fun h hK => imS h fun h => adS h fun h => adS h fun h => (ofIf h).1) fun h => ifS h (fun h => have t := lfS h hK; t) fun h => have t := lfS h hK; t
def bitmap_Check_S (x0 : api_Bitmap) : Option (Int) :=
 if x0.Size < 0 then
  some (3)
 else
  if 4096 < x0.Size then
   some (3)
  else
   Option.bind (bitmap_words_S x0.Size) fun v19 =>
   if (x0.Words.length : Int) ≠ v19 then
    some (3)
   else
    bitmap_Check_J1_S x0
theorem bitmap_Check_sound (x0 : api_Bitmap) {Φ : Int → Prop} {o} (h : bitmap_Check_S x0 = some o) (hK : Φ o) : bitmap_Check_W x0 Φ := by
 unfold bitmap_Check_S at h
 unfold bitmap_Check_W
 exact ifS h (fun h => have t := lfS h hK; t) fun h => ifS h (fun h => have t := lfS h hK; t) fun h => blS h fun v hv h => ⟨v, bitmap_words_sound _ hv rfl, ifS h (fun h => have t := lfS h hK; t) fun h => bitmap_Check_J1_sound _ h hK⟩
def delta_Check_L1_S (x0 : api_Point) : (Int) → Option ((Int) ⊕ (Int))
 | (v20) =>
  if v20 < (x0.Dirty.length : Int) then
   if inX v20 x0.Dirty.length then
   Option.bind (bitmap_Check_S (ix x0.Dirty v20)) fun v28 =>
   if v28 ≠ 0 then
    some (.inr v28)
   else
    if inX v20 x0.Image.length then
    if ((ix x0.Dirty v20).Size) ≠ ((ix x0.Image v20).length : Int) then
     some (.inr 22)
    else
     if inI (v20 + 1) then
     some (.inl (v20 + 1))
     else none
    else none
   else none
  else
   some (.inr 0)
theorem delta_Check_L1_sound (x0 : api_Point) (s : Int) {Φ : Int → Prop} {rec1 : (Int) → Prop} {o} (h : delta_Check_L1_S x0 s = some o) (hK : (orK rec1 Φ) o) : delta_Check_L1 x0 Φ s rec1 := by
 unfold delta_Check_L1_S at h
 unfold delta_Check_L1
 exact ifS h (fun h => adS h fun h => blS h fun _ hv h => bitmap_Check_sound _ hv (ifS h (fun h => have t := lfS h hK; t) fun h => adS h fun h => ifS h (fun h => have t := lfS h hK; t) fun h => adS h fun h => have t := lfS h hK; t)) fun h => have t := lfS h hK; t
def delta_Check_S (x0 : api_Point) : Option (Int) :=
 Option.bind (delta_in_S x0.Site 0) fun v5 =>
 if ¬ (v5 = true) then
  some (2)
 else
  Option.bind (delta_correct_S x0.Lineage) fun v9 =>
  if ¬ (v9 = true) then
   some (3)
  else
   Option.bind (image_Check_S x0.Image) fun v13 =>
   if v13 ≠ 0 then
    some (v13)
   else
    if (x0.Dirty.length : Int) ≠ (x0.Image.length : Int) then
     some (6)
    else
     loopS (delta_Check_L1_S x0) 100000 (0)
theorem delta_Check_sound (x0 : api_Point) {Φ : Int → Prop} {o} (h : delta_Check_S x0 = some o) (hK : Φ o) : delta_Check_W x0 Φ := by
 unfold delta_Check_S at h
 unfold delta_Check_W
 exact blS h fun _ hv h => delta_in_sound _ _ hv (ifS h (fun h => have t := lfS h hK; t) fun h => blS h fun _ hv h => delta_correct_sound _ hv (ifS h (fun h => have t := lfS h hK; t) fun h => blS h fun _ hv h => image_Check_sound _ hv (ifS h (fun h => have t := lfS h hK; t) fun h => ifS h (fun h => have t := lfS h hK; t) fun h => LoopW.of_S (fun s q rec hs hq => delta_Check_L1_sound _ s hs hq) _ _ h hK)))
def reverse_last_S (x0 : List api_Span) : Option (Int) :=
 if (x0.length : Int) = 0 then
  some (0)
 else
  if inI ((x0.length : Int) - 1) then
  if inX ((x0.length : Int) - 1) x0.length then
  some ((ix x0 ((x0.length : Int) - 1)).To)
  else none
  else none
theorem reverse_last_sound (x0 : List api_Span) {Φ : Int → Prop} {o} (h : reverse_last_S x0 = some o) (hK : Φ o) : reverse_last_W x0 Φ := by
 unfold reverse_last_S at h
 unfold reverse_last_W
 exact ifS h (fun h => have t := lfS h hK; t) fun h => adS h fun h => adS h fun h => have t := lfS h hK; t
def reverse_Undo_1_S (_ : Int) (x1 : api_Bitmap) : Option (List api_Extent) :=
 Option.bind (bitmap_Extents_S x1) fun v3 =>
 some (v3)
theorem reverse_Undo_1_sound (x0 : Int) (x1 : api_Bitmap) {Φ : List api_Extent → Prop} {o} (h : reverse_Undo_1_S x0 x1 = some o) (hK : Φ o) : reverse_Undo_1_W x0 x1 Φ := by
 unfold reverse_Undo_1_S at h
 unfold reverse_Undo_1_W
 exact blS h fun _ hv h => bitmap_Extents_sound _ hv (have t := lfS h hK; t)
def reverse_volumes_api_Extent__reverse_Undo_1_L1_S (x0 : List api_Bitmap) : (List (List api_Extent) × Int) → Option ((List (List api_Extent) × Int) ⊕ (List (List api_Extent)))
 | (v4, v11) =>
  if v11 < (x0.length : Int) then
   if inX v11 x0.length then
   Option.bind (reverse_Undo_1_S v11 (ix x0 v11)) fun v19 =>
   if lenOk (v4 ++ ([v19] : List (List api_Extent))).length 24 then
   if inI (v11 + 1) then
   some (.inl ((v4 ++ ([v19] : List (List api_Extent))), v11 + 1))
   else none
   else none
   else none
  else
   some (.inr v4)
theorem reverse_volumes_api_Extent__reverse_Undo_1_L1_sound (x0 : List api_Bitmap) (s : List (List api_Extent) × Int) {Φ : List (List api_Extent) → Prop} {rec1 : (List (List api_Extent) × Int) → Prop} {o} (h : reverse_volumes_api_Extent__reverse_Undo_1_L1_S x0 s = some o) (hK : (orK rec1 Φ) o) : reverse_volumes_api_Extent__reverse_Undo_1_L1 x0 Φ s rec1 := by
 obtain ⟨v4, v11⟩ := s
 unfold reverse_volumes_api_Extent__reverse_Undo_1_L1_S at h
 unfold reverse_volumes_api_Extent__reverse_Undo_1_L1
 exact ifS h (fun h => adS h fun h => blS h fun _ hv h => reverse_Undo_1_sound _ _ hv (adS h fun h => adS h fun h => have t := lfS h hK; t)) fun h => have t := lfS h hK; t
def reverse_volumes_api_Extent__reverse_Undo_1_S (x0 : List api_Bitmap) : Option (List (List api_Extent)) :=
 loopS (reverse_volumes_api_Extent__reverse_Undo_1_L1_S x0) 100000 (([] : List (List api_Extent)), 0)
theorem reverse_volumes_api_Extent__reverse_Undo_1_sound (x0 : List api_Bitmap) {Φ : List (List api_Extent) → Prop} {o} (h : reverse_volumes_api_Extent__reverse_Undo_1_S x0 = some o) (hK : Φ o) : reverse_volumes_api_Extent__reverse_Undo_1_W x0 Φ := by
 unfold reverse_volumes_api_Extent__reverse_Undo_1_S at h
 unfold reverse_volumes_api_Extent__reverse_Undo_1_W
 exact LoopW.of_S (fun s q rec hs hq => reverse_volumes_api_Extent__reverse_Undo_1_L1_sound _ s hs hq) _ _ h hK
def reverse_Undo_S (x0 : api_Point) (x1 : Int) : Option (List (List api_Extent) × Int) :=
 Option.bind (delta_Check_S x0) fun v5 =>
 if v5 ≠ 0 then
  some ((([] : List (List api_Extent)), v5))
 else
  if x1 < 0 then
   some ((([] : List (List api_Extent)), 2))
  else
   Option.bind (reverse_last_S x0.Lineage) fun v28 =>
   if v28 < x1 then
    some ((([] : List (List api_Extent)), 2))
   else
    Option.bind (reverse_volumes_api_Extent__reverse_Undo_1_S x0.Dirty) fun v32 =>
    some ((v32, 0))
theorem reverse_Undo_sound (x0 : api_Point) (x1 : Int) {Φ : List (List api_Extent) × Int → Prop} {o} (h : reverse_Undo_S x0 x1 = some o) (hK : Φ o) : reverse_Undo_W x0 x1 Φ := by
 unfold reverse_Undo_S at h
 unfold reverse_Undo_W
 exact blS h fun _ hv h => delta_Check_sound _ hv (ifS h (fun h => have t := lfS h hK; t) fun h => ifS h (fun h => have t := lfS h hK; t) fun h => blS h fun _ hv h => reverse_last_sound _ hv (ifS h (fun h => have t := lfS h hK; t) fun h => blS h fun _ hv h => reverse_volumes_api_Extent__reverse_Undo_1_sound _ hv (have t := lfS h hK; t)))
def delta_alike_1_S (x0 : List Sec) (x1 : List Sec) : Option (Bool) :=
 some (decide ((x0.length : Int) = (x1.length : Int)))
theorem delta_alike_1_sound (x0 : List Sec) (x1 : List Sec) {Φ : Bool → Prop} {o} (h : delta_alike_1_S x0 x1 = some o) (hK : Φ o) : delta_alike_1_W x0 x1 Φ := by
 unfold delta_alike_1_S at h
 unfold delta_alike_1_W
 exact have t := lfS h hK; t
def slices_EqualFunc_api_Image_api_Image_api_Sector_api_Sector__delta_alike_1_L1_S (x0 : List (List Sec)) (x1 : List (List Sec)) : (Int) → Option ((Int) ⊕ (Bool))
 | (v6) =>
  if v6 < (x0.length : Int) then
   if inX v6 x0.length then
   if inX v6 x1.length then
   Option.bind (delta_alike_1_S (ix x0 v6) (ix x1 v6)) fun v16 =>
   if ¬ (v16 = true) then
    some (.inr false)
   else
    if inI (v6 + 1) then
    some (.inl (v6 + 1))
    else none
   else none
   else none
  else
   some (.inr true)
theorem slices_EqualFunc_api_Image_api_Image_api_Sector_api_Sector__delta_alike_1_L1_sound (x0 : List (List Sec)) (x1 : List (List Sec)) (s : Int) {Φ : Bool → Prop} {rec1 : (Int) → Prop} {o} (h : slices_EqualFunc_api_Image_api_Image_api_Sector_api_Sector__delta_alike_1_L1_S x0 x1 s = some o) (hK : (orK rec1 Φ) o) : slices_EqualFunc_api_Image_api_Image_api_Sector_api_Sector__delta_alike_1_L1 x0 x1 Φ s rec1 := by
 unfold slices_EqualFunc_api_Image_api_Image_api_Sector_api_Sector__delta_alike_1_L1_S at h
 unfold slices_EqualFunc_api_Image_api_Image_api_Sector_api_Sector__delta_alike_1_L1
 exact ifS h (fun h => adS h fun h => adS h fun h => blS h fun _ hv h => delta_alike_1_sound _ _ hv (ifS h (fun h => have t := lfS h hK; t) fun h => adS h fun h => have t := lfS h hK; t)) fun h => have t := lfS h hK; t
def slices_EqualFunc_api_Image_api_Image_api_Sector_api_Sector__delta_alike_1_S (x0 : List (List Sec)) (x1 : List (List Sec)) : Option (Bool) :=
 if (x0.length : Int) ≠ (x1.length : Int) then
  some (false)
 else
  loopS (slices_EqualFunc_api_Image_api_Image_api_Sector_api_Sector__delta_alike_1_L1_S x0 x1) 100000 (0)
theorem slices_EqualFunc_api_Image_api_Image_api_Sector_api_Sector__delta_alike_1_sound (x0 : List (List Sec)) (x1 : List (List Sec)) {Φ : Bool → Prop} {o} (h : slices_EqualFunc_api_Image_api_Image_api_Sector_api_Sector__delta_alike_1_S x0 x1 = some o) (hK : Φ o) : slices_EqualFunc_api_Image_api_Image_api_Sector_api_Sector__delta_alike_1_W x0 x1 Φ := by
 unfold slices_EqualFunc_api_Image_api_Image_api_Sector_api_Sector__delta_alike_1_S at h
 unfold slices_EqualFunc_api_Image_api_Image_api_Sector_api_Sector__delta_alike_1_W
 exact ifS h (fun h => have t := lfS h hK; t) fun h => LoopW.of_S (fun s q rec hs hq => slices_EqualFunc_api_Image_api_Image_api_Sector_api_Sector__delta_alike_1_L1_sound _ _ s hs hq) _ _ h hK
def delta_alike_S (x0 : List (List Sec)) (x1 : List (List Sec)) : Option (Bool) :=
 Option.bind (slices_EqualFunc_api_Image_api_Image_api_Sector_api_Sector__delta_alike_1_S x0 x1) fun v3 =>
 some (v3)
theorem delta_alike_sound (x0 : List (List Sec)) (x1 : List (List Sec)) {Φ : Bool → Prop} {o} (h : delta_alike_S x0 x1 = some o) (hK : Φ o) : delta_alike_W x0 x1 Φ := by
 unfold delta_alike_S at h
 unfold delta_alike_W
 exact blS h fun _ hv h => slices_EqualFunc_api_Image_api_Image_api_Sector_api_Sector__delta_alike_1_sound _ _ hv (have t := lfS h hK; t)
def bitmap_Or_1_S (x0 : BitVec 64) (x1 : BitVec 64) : Option (BitVec 64) :=
 some (x0 ||| x1)
theorem bitmap_Or_1_sound (x0 : BitVec 64) (x1 : BitVec 64) {Φ : BitVec 64 → Prop} {o} (h : bitmap_Or_1_S x0 x1 = some o) (hK : Φ o) : bitmap_Or_1_W x0 x1 Φ := by
 unfold bitmap_Or_1_S at h
 unfold bitmap_Or_1_W
 exact have t := lfS h hK; t
def bitmap_both__bitmap_Or_1_L1_S (x0 : api_Bitmap) (x1 : api_Bitmap) : (List (BitVec 64) × Int) → Option ((List (BitVec 64) × Int) ⊕ (api_Bitmap × Int))
 | (v25, v32) =>
  if v32 < ((List.replicate (x0.Words.length : Int).toNat (0#64)).length : Int) then
   if inX v32 x0.Words.length then
   if inX v32 x1.Words.length then
   Option.bind (bitmap_Or_1_S (ix x0.Words v32) (ix x1.Words v32)) fun v40 =>
   if inX v32 v25.length then
   if inI (v32 + 1) then
   some (.inl ((put v25 v32 v40), v32 + 1))
   else none
   else none
   else none
   else none
  else
   some (.inr ((api_Bitmap.mk x0.Size v25), 0))
theorem bitmap_both__bitmap_Or_1_L1_sound (x0 : api_Bitmap) (x1 : api_Bitmap) (s : List (BitVec 64) × Int) {Φ : api_Bitmap × Int → Prop} {rec1 : (List (BitVec 64) × Int) → Prop} {o} (h : bitmap_both__bitmap_Or_1_L1_S x0 x1 s = some o) (hK : (orK rec1 Φ) o) : bitmap_both__bitmap_Or_1_L1 x0 x1 Φ s rec1 := by
 obtain ⟨v25, v32⟩ := s
 unfold bitmap_both__bitmap_Or_1_L1_S at h
 unfold bitmap_both__bitmap_Or_1_L1
 exact ifS h (fun h => adS h fun h => adS h fun h => blS h fun v hv h => ⟨v, bitmap_Or_1_sound _ _ hv rfl, adS h fun h => adS h fun h => have t := lfS h hK; t⟩) fun h => have t := lfS h hK; t
def bitmap_both__bitmap_Or_1_S (x0 : api_Bitmap) (x1 : api_Bitmap) : Option (api_Bitmap × Int) :=
 Option.bind (bitmap_Check_S x0) fun v6 =>
 if v6 ≠ 0 then
  some (((api_Bitmap.mk 0 ([] : List (BitVec 64))), v6))
 else
  Option.bind (bitmap_Check_S x1) fun v10 =>
  if v10 ≠ 0 then
   some (((api_Bitmap.mk 0 ([] : List (BitVec 64))), v10))
  else
   if x0.Size ≠ x1.Size then
    some (((api_Bitmap.mk 0 ([] : List (BitVec 64))), 22))
   else
    if 0 ≤ (x0.Words.length : Int) then
    if lenOk (x0.Words.length : Int).toNat 8 then
    loopS (bitmap_both__bitmap_Or_1_L1_S x0 x1) 100000 ((List.replicate (x0.Words.length : Int).toNat (0#64)), 0)
    else none
    else none
theorem bitmap_both__bitmap_Or_1_sound (x0 : api_Bitmap) (x1 : api_Bitmap) {Φ : api_Bitmap × Int → Prop} {o} (h : bitmap_both__bitmap_Or_1_S x0 x1 = some o) (hK : Φ o) : bitmap_both__bitmap_Or_1_W x0 x1 Φ := by
 unfold bitmap_both__bitmap_Or_1_S at h
 unfold bitmap_both__bitmap_Or_1_W
 exact blS h fun _ hv h => bitmap_Check_sound _ hv (ifS h (fun h => have t := lfS h hK; t) fun h => blS h fun _ hv h => bitmap_Check_sound _ hv (ifS h (fun h => have t := lfS h hK; t) fun h => ifS h (fun h => have t := lfS h hK; t) fun h => adS h fun h => adS h fun h => LoopW.of_S (fun s q rec hs hq => bitmap_both__bitmap_Or_1_L1_sound _ _ s hs hq) _ _ h hK))
def bitmap_Or_S (x0 : api_Bitmap) (x1 : api_Bitmap) : Option (api_Bitmap × Int) :=
 Option.bind (bitmap_both__bitmap_Or_1_S x0 x1) fun v6 =>
 some ((v6.1, v6.2))
theorem bitmap_Or_sound (x0 : api_Bitmap) (x1 : api_Bitmap) {Φ : api_Bitmap × Int → Prop} {o} (h : bitmap_Or_S x0 x1 = some o) (hK : Φ o) : bitmap_Or_W x0 x1 Φ := by
 unfold bitmap_Or_S at h
 unfold bitmap_Or_W
 exact blS h fun _ hv h => bitmap_both__bitmap_Or_1_sound _ _ hv (have t := lfS h hK; t)
def delta_marked_L1_S (x0 : api_Point) (x1 : api_Point) : (List (List api_Extent) × Int) → Option ((List (List api_Extent) × Int) ⊕ (List (List api_Extent)))
 | (v19, v26) =>
  if v26 < ((List.replicate (x0.Dirty.length : Int).toNat ([] : List api_Extent)).length : Int) then
   if inX v26 x0.Dirty.length then
   if inX v26 x1.Dirty.length then
   Option.bind (bitmap_Or_S (ix x0.Dirty v26) (ix x1.Dirty v26)) fun v36 =>
   Option.bind (bitmap_Extents_S v36.1) fun v100 =>
   if inX v26 v19.length then
   if inI (v26 + 1) then
   some (.inl ((put v19 v26 v100), v26 + 1))
   else none
   else none
   else none
   else none
  else
   some (.inr v19)
theorem delta_marked_L1_sound (x0 : api_Point) (x1 : api_Point) (s : List (List api_Extent) × Int) {Φ : List (List api_Extent) → Prop} {rec1 : (List (List api_Extent) × Int) → Prop} {o} (h : delta_marked_L1_S x0 x1 s = some o) (hK : (orK rec1 Φ) o) : delta_marked_L1 x0 x1 Φ s rec1 := by
 obtain ⟨v19, v26⟩ := s
 unfold delta_marked_L1_S at h
 unfold delta_marked_L1
 exact ifS h (fun h => adS h fun h => adS h fun h => blS h fun v hv h => ⟨v, bitmap_Or_sound _ _ hv rfl, blS h fun _ hv h => bitmap_Extents_sound _ hv (adS h fun h => adS h fun h => have t := lfS h hK; t)⟩) fun h => have t := lfS h hK; t
def delta_marked_S (x0 : api_Point) (x1 : api_Point) : Option (List (List api_Extent)) :=
 if 0 ≤ (x0.Dirty.length : Int) then
 if lenOk (x0.Dirty.length : Int).toNat 24 then
 loopS (delta_marked_L1_S x0 x1) 100000 ((List.replicate (x0.Dirty.length : Int).toNat ([] : List api_Extent)), 0)
 else none
 else none
theorem delta_marked_sound (x0 : api_Point) (x1 : api_Point) {Φ : List (List api_Extent) → Prop} {o} (h : delta_marked_S x0 x1 = some o) (hK : Φ o) : delta_marked_W x0 x1 Φ := by
 unfold delta_marked_S at h
 unfold delta_marked_W
 exact adS h fun h => adS h fun h => LoopW.of_S (fun s q rec hs hq => delta_marked_L1_sound _ _ s hs hq) _ _ h hK
def delta_Between_L1_S (x0 : api_Point) (x1 : api_Point) : (Int) → Option ((Int) ⊕ (List (List api_Extent) × Int))
 | (v13) =>
  if v13 < (([x0, x1] : List api_Point).length : Int) then
   if inX v13 ([x0, x1] : List api_Point).length then
   Option.bind (delta_Check_S (ix ([x0, x1] : List api_Point) v13)) fun v23 =>
   if v23 ≠ 0 then
    some (.inr (([] : List (List api_Extent)), v23))
   else
    if inI (v13 + 1) then
    some (.inl (v13 + 1))
    else none
   else none
  else
   Option.bind (delta_alike_S x0.Image x1.Image) fun v28 =>
   if ¬ (v28 = true) then
    some (.inr (([] : List (List api_Extent)), 22))
   else
    Option.bind (delta_marked_S x0 x1) fun v32 =>
    some (.inr (v32, 0))
theorem delta_Between_L1_sound (x0 : api_Point) (x1 : api_Point) (s : Int) {Φ : List (List api_Extent) × Int → Prop} {rec1 : (Int) → Prop} {o} (h : delta_Between_L1_S x0 x1 s = some o) (hK : (orK rec1 Φ) o) : delta_Between_L1 x0 x1 Φ s rec1 := by
 unfold delta_Between_L1_S at h
 unfold delta_Between_L1
 exact ifS h (fun h => adS h fun h => blS h fun _ hv h => delta_Check_sound _ hv (ifS h (fun h => have t := lfS h hK; t) fun h => adS h fun h => have t := lfS h hK; t)) fun h => blS h fun _ hv h => delta_alike_sound _ _ hv (ifS h (fun h => have t := lfS h hK; t) fun h => blS h fun _ hv h => delta_marked_sound _ _ hv (have t := lfS h hK; t))
def delta_Between_S (x0 : api_Point) (x1 : api_Point) : Option (List (List api_Extent) × Int) :=
 loopS (delta_Between_L1_S x0 x1) 100000 (0)
theorem delta_Between_sound (x0 : api_Point) (x1 : api_Point) {Φ : List (List api_Extent) × Int → Prop} {o} (h : delta_Between_S x0 x1 = some o) (hK : Φ o) : delta_Between_W x0 x1 Φ := by
 unfold delta_Between_S at h
 unfold delta_Between_W
 exact LoopW.of_S (fun s q rec hs hq => delta_Between_L1_sound _ _ s hs hq) _ _ h hK
def reverse_Extents_S (x0 : api_Point) (x1 : api_Point) : Option (List (List api_Extent) × Int) :=
 Option.bind (delta_Between_S x0 x1) fun v9 =>
 some ((v9.1, v9.2))
theorem reverse_Extents_sound (x0 : api_Point) (x1 : api_Point) {Φ : List (List api_Extent) × Int → Prop} {o} (h : reverse_Extents_S x0 x1 = some o) (hK : Φ o) : reverse_Extents_W x0 x1 Φ := by
 unfold reverse_Extents_S at h
 unfold reverse_Extents_W
 exact blS h fun _ hv h => delta_Between_sound _ _ hv (have t := lfS h hK; t)
def delta_Ancestor_L3_S (x0 : List api_Span) (x1 : List api_Span) : (Int × Int × Int) → Option ((Int × Int × Int) ⊕ (Int × Int))
 | (v11, v12, v13) =>
  Option.bind (
   if v13 < (if (x1.length : Int) < (x0.length : Int) then (x1.length : Int) else (x0.length : Int)) then
    if inX v13 x0.length then
    if inX v13 x1.length then some () else none
    else none
   else some () : Option Unit) fun _ =>
  if (v13 < (if (x1.length : Int) < (x0.length : Int) then (x1.length : Int) else (x0.length : Int))) ∧ (((ix x0 v13).Epoch) = ((ix x1 v13).Epoch)) then
   if inX v13 x0.length then
   if inX v13 x1.length then
   if ((ix x0 v13).To) ≠ ((ix x1 v13).To) then
    some (.inr (if ((ix x1 v13).To) < ((ix x0 v13).To) then ((ix x1 v13).To) else ((ix x0 v13).To), (ix x0 v13).Epoch))
   else
    if inI (v13 + 1) then
    some (.inl (if ((ix x1 v13).To) < ((ix x0 v13).To) then ((ix x1 v13).To) else ((ix x0 v13).To), (ix x0 v13).Epoch, v13 + 1))
    else none
   else none
   else none
  else
   some (.inr (v11, v12))
theorem delta_Ancestor_L3_sound (x0 : List api_Span) (x1 : List api_Span) (s : Int × Int × Int) {Φ : Int × Int → Prop} {rec3 : (Int × Int × Int) → Prop} {o} (h : delta_Ancestor_L3_S x0 x1 s = some o) (hK : (orK rec3 Φ) o) : delta_Ancestor_L3 x0 x1 Φ s rec3 := by
 obtain ⟨v11, v12, v13⟩ := s
 unfold delta_Ancestor_L3_S at h
 unfold delta_Ancestor_L3
 exact mgS h (fun h hK => imS h fun h => adS h fun h => (ofIf h).1) fun h => ifS h (fun h => adS h fun h => adS h fun h => ifS h (fun h => have t := lfS h hK; t) fun h => adS h fun h => have t := lfS h hK; t) fun h => have t := lfS h hK; t
def delta_Ancestor_J1_S (x0 : List api_Span) (x1 : List api_Span) : Option (Int × Int) :=
 loopS (delta_Ancestor_L3_S x0 x1) 100000 (0, 0, 0)
theorem delta_Ancestor_J1_sound (x0 : List api_Span) (x1 : List api_Span) {Φ : Int × Int → Prop} {o} (h : delta_Ancestor_J1_S x0 x1 = some o) (hK : Φ o) : delta_Ancestor_J1 x0 x1 Φ := by
 unfold delta_Ancestor_J1_S at h
 unfold delta_Ancestor_J1
 exact LoopW.of_S (fun s q rec hs hq => delta_Ancestor_L3_sound _ _ s hs hq) _ _ h hK
def delta_Ancestor_S (x0 : List api_Span) (x1 : List api_Span) : Option (Int × Int) :=
 Option.bind (delta_correct_S x0) fun v72 =>
 if ¬ (v72 = true) then
  some ((0, 0))
 else
  Option.bind (delta_correct_S x1) fun v76 =>
  if ¬ (v76 = true) then
   some ((0, 0))
  else
   delta_Ancestor_J1_S x0 x1
theorem delta_Ancestor_sound (x0 : List api_Span) (x1 : List api_Span) {Φ : Int × Int → Prop} {o} (h : delta_Ancestor_S x0 x1 = some o) (hK : Φ o) : delta_Ancestor_W x0 x1 Φ := by
 unfold delta_Ancestor_S at h
 unfold delta_Ancestor_W
 exact blS h fun _ hv h => delta_correct_sound _ hv (ifS h (fun h => have t := lfS h hK; t) fun h => blS h fun _ hv h => delta_correct_sound _ hv (ifS h (fun h => have t := lfS h hK; t) fun h => delta_Ancestor_J1_sound _ _ h hK))
def slices_Clone_int_int_S (x0 : List Int) : Option (List Int) :=
 bothS (x0).isEmpty (
  some (([] : List Int))) (
  if lenOk (([] : List Int) ++ x0).length 8 then
  some ((([] : List Int) ++ x0))
  else none)
theorem slices_Clone_int_int_sound (x0 : List Int) {Φ : List Int → Prop} {o} (h : slices_Clone_int_int_S x0 = some o) (hK : Φ o) : slices_Clone_int_int_W x0 Φ := by
 unfold slices_Clone_int_int_S at h
 unfold slices_Clone_int_int_W
 exact nlS h (fun h => have t := lfS h hK; t) fun h => adS h fun h => have t := lfS h hK; t
def slices_Clone_api_Sector_api_Sector_S (x0 : List Sec) : Option (List Sec) :=
 bothS (x0).isEmpty (
  some (([] : List Sec))) (
  if lenOk (([] : List Sec) ++ x0).length 8 then
  some ((([] : List Sec) ++ x0))
  else none)
theorem slices_Clone_api_Sector_api_Sector_sound (x0 : List Sec) {Φ : List Sec → Prop} {o} (h : slices_Clone_api_Sector_api_Sector_S x0 = some o) (hK : Φ o) : slices_Clone_api_Sector_api_Sector_W x0 Φ := by
 unfold slices_Clone_api_Sector_api_Sector_S at h
 unfold slices_Clone_api_Sector_api_Sector_W
 exact nlS h (fun h => have t := lfS h hK; t) fun h => adS h fun h => have t := lfS h hK; t
def image_New_1_S (x0 : Int) : Option (List Sec) :=
 if 0 ≤ x0 then
 if lenOk x0.toNat 8 then
 some ((List.replicate x0.toNat sec0))
 else none
 else none
theorem image_New_1_sound (x0 : Int) {Φ : List Sec → Prop} {o} (h : image_New_1_S x0 = some o) (hK : Φ o) : image_New_1_W x0 Φ := by
 unfold image_New_1_S at h
 unfold image_New_1_W
 exact adS h fun h => adS h fun h => have t := lfS h hK; t
def image_mapped_int_api_Sector__image_New_1_L1_S (x0 : List Int) : (List (List Sec) × Int) → Option ((List (List Sec) × Int) ⊕ (List (List Sec)))
 | (v12, v20) =>
  if v20 < (x0.length : Int) then
   if inX v20 x0.length then
   Option.bind (image_New_1_S (ix x0 v20)) fun v26 =>
   if lenOk (v12 ++ [v26]).length 24 then
   if inI (v20 + 1) then
   some (.inl ((v12 ++ [v26]), v20 + 1))
   else none
   else none
   else none
  else
   some (.inr v12)
theorem image_mapped_int_api_Sector__image_New_1_L1_sound (x0 : List Int) (s : List (List Sec) × Int) {Φ : List (List Sec) → Prop} {rec1 : (List (List Sec) × Int) → Prop} {o} (h : image_mapped_int_api_Sector__image_New_1_L1_S x0 s = some o) (hK : (orK rec1 Φ) o) : image_mapped_int_api_Sector__image_New_1_L1 x0 Φ s rec1 := by
 obtain ⟨v12, v20⟩ := s
 unfold image_mapped_int_api_Sector__image_New_1_L1_S at h
 unfold image_mapped_int_api_Sector__image_New_1_L1
 exact ifS h (fun h => adS h fun h => blS h fun _ hv h => image_New_1_sound _ hv (adS h fun h => adS h fun h => have t := lfS h hK; t)) fun h => have t := lfS h hK; t
def image_mapped_int_api_Sector__image_New_1_S (x0 : List Int) : Option (List (List Sec)) :=
 if 0 ≤ (x0.length : Int) then
 if lenOk (x0.length : Int).toNat 24 then
 loopS (image_mapped_int_api_Sector__image_New_1_L1_S x0) 100000 (([] : List (List Sec)), 0)
 else none
 else none
theorem image_mapped_int_api_Sector__image_New_1_sound (x0 : List Int) {Φ : List (List Sec) → Prop} {o} (h : image_mapped_int_api_Sector__image_New_1_S x0 = some o) (hK : Φ o) : image_mapped_int_api_Sector__image_New_1_W x0 Φ := by
 unfold image_mapped_int_api_Sector__image_New_1_S at h
 unfold image_mapped_int_api_Sector__image_New_1_W
 exact adS h fun h => adS h fun h => LoopW.of_S (fun s q rec hs hq => image_mapped_int_api_Sector__image_New_1_L1_sound _ s hs hq) _ _ h hK
def image_New_S (x0 : List Int) : Option (List (List Sec) × Int) :=
 Option.bind (image_checkSizes_S x0) fun v2 =>
 if v2 ≠ 0 then
  some ((([] : List (List Sec)), v2))
 else
  Option.bind (image_mapped_int_api_Sector__image_New_1_S x0) fun v6 =>
  some ((v6, 0))
theorem image_New_sound (x0 : List Int) {Φ : List (List Sec) × Int → Prop} {o} (h : image_New_S x0 = some o) (hK : Φ o) : image_New_W x0 Φ := by
 unfold image_New_S at h
 unfold image_New_W
 exact blS h fun _ hv h => image_checkSizes_sound _ hv (ifS h (fun h => have t := lfS h hK; t) fun h => blS h fun _ hv h => image_mapped_int_api_Sector__image_New_1_sound _ hv (have t := lfS h hK; t))
def cycle_in_S (x0 : Int) (x1 : Int) (x2 : Int) : Option (Bool) :=
 some (decide ((x1 ≤ x0) ∧ (x0 ≤ x2)))
theorem cycle_in_sound (x0 : Int) (x1 : Int) (x2 : Int) {Φ : Bool → Prop} {o} (h : cycle_in_S x0 x1 x2 = some o) (hK : Φ o) : cycle_in_W x0 x1 x2 Φ := by
 unfold cycle_in_S at h
 unfold cycle_in_W
 exact have t := lfS h hK; t
def cycle_positions_1_S (x0 : Int) : Option (Bool) :=
 Option.bind (cycle_in_S x0 0 1073741824) fun v1 =>
 some (decide (¬ (v1 = true)))
theorem cycle_positions_1_sound (x0 : Int) {Φ : Bool → Prop} {o} (h : cycle_positions_1_S x0 = some o) (hK : Φ o) : cycle_positions_1_W x0 Φ := by
 unfold cycle_positions_1_S at h
 unfold cycle_positions_1_W
 exact blS h fun _ hv h => cycle_in_sound _ _ _ hv (have t := lfS h hK; t)
def slices_IndexFunc_int_int__cycle_positions_1_L1_S (x0 : List Int) : (Int) → Option ((Int) ⊕ (Int))
 | (v4) =>
  if v4 < (x0.length : Int) then
   if inX v4 x0.length then
   Option.bind (cycle_positions_1_S (ix x0 v4)) fun v10 =>
   if v10 = true then
    some (.inr v4)
   else
    if inI (v4 + 1) then
    some (.inl (v4 + 1))
    else none
   else none
  else
   some (.inr (-1))
theorem slices_IndexFunc_int_int__cycle_positions_1_L1_sound (x0 : List Int) (s : Int) {Φ : Int → Prop} {rec1 : (Int) → Prop} {o} (h : slices_IndexFunc_int_int__cycle_positions_1_L1_S x0 s = some o) (hK : (orK rec1 Φ) o) : slices_IndexFunc_int_int__cycle_positions_1_L1 x0 Φ s rec1 := by
 unfold slices_IndexFunc_int_int__cycle_positions_1_L1_S at h
 unfold slices_IndexFunc_int_int__cycle_positions_1_L1
 exact ifS h (fun h => adS h fun h => blS h fun _ hv h => cycle_positions_1_sound _ hv (ifS h (fun h => have t := lfS h hK; t) fun h => adS h fun h => have t := lfS h hK; t)) fun h => have t := lfS h hK; t
def slices_IndexFunc_int_int__cycle_positions_1_S (x0 : List Int) : Option (Int) :=
 loopS (slices_IndexFunc_int_int__cycle_positions_1_L1_S x0) 100000 (0)
theorem slices_IndexFunc_int_int__cycle_positions_1_sound (x0 : List Int) {Φ : Int → Prop} {o} (h : slices_IndexFunc_int_int__cycle_positions_1_S x0 = some o) (hK : Φ o) : slices_IndexFunc_int_int__cycle_positions_1_W x0 Φ := by
 unfold slices_IndexFunc_int_int__cycle_positions_1_S at h
 unfold slices_IndexFunc_int_int__cycle_positions_1_W
 exact LoopW.of_S (fun s q rec hs hq => slices_IndexFunc_int_int__cycle_positions_1_L1_sound _ s hs hq) _ _ h hK
def slices_ContainsFunc_int_int__cycle_positions_1_S (x0 : List Int) : Option (Bool) :=
 Option.bind (slices_IndexFunc_int_int__cycle_positions_1_S x0) fun v2 =>
 some (decide (0 ≤ v2))
theorem slices_ContainsFunc_int_int__cycle_positions_1_sound (x0 : List Int) {Φ : Bool → Prop} {o} (h : slices_ContainsFunc_int_int__cycle_positions_1_S x0 = some o) (hK : Φ o) : slices_ContainsFunc_int_int__cycle_positions_1_W x0 Φ := by
 unfold slices_ContainsFunc_int_int__cycle_positions_1_S at h
 unfold slices_ContainsFunc_int_int__cycle_positions_1_W
 exact blS h fun _ hv h => slices_IndexFunc_int_int__cycle_positions_1_sound _ hv (have t := lfS h hK; t)
def cycle_positions_S (x0 : List Int) (x1 : Int) : Option (Int) :=
 Option.bind (cycle_in_S (x0.length : Int) x1 8) fun v2 =>
 if ¬ (v2 = true) then
  some (6)
 else
  Option.bind (slices_ContainsFunc_int_int__cycle_positions_1_S x0) fun v6 =>
  if v6 = true then
   some (2)
  else
   some (0)
theorem cycle_positions_sound (x0 : List Int) (x1 : Int) {Φ : Int → Prop} {o} (h : cycle_positions_S x0 x1 = some o) (hK : Φ o) : cycle_positions_W x0 x1 Φ := by
 unfold cycle_positions_S at h
 unfold cycle_positions_W
 exact blS h fun _ hv h => cycle_in_sound _ _ _ hv (ifS h (fun h => have t := lfS h hK; t) fun h => blS h fun _ hv h => slices_ContainsFunc_int_int__cycle_positions_1_sound _ hv (ifS h (fun h => have t := lfS h hK; t) fun h => have t := lfS h hK; t))
def image_fits_S (x0 : List (List Sec)) (x1 : api_Write) : Option (Int) :=
 if (x1.Volume < 0) ∨ ((x0.length : Int) ≤ x1.Volume) then
  some (7)
 else
  if (x1.Data.length : Int) = 0 then
   some (1)
  else
   Option.bind (
    if ¬ (x1.Start < 0) then
     if inX x1.Volume x0.length then
     if inI (((ix x0 x1.Volume).length : Int) - (x1.Data.length : Int)) then some () else none
     else none
    else some () : Option Unit) fun _ =>
   if (x1.Start < 0) ∨ ((((ix x0 x1.Volume).length : Int) - (x1.Data.length : Int)) < x1.Start) then
    some (2)
   else
    some (0)
theorem image_fits_sound (x0 : List (List Sec)) (x1 : api_Write) {Φ : Int → Prop} {o} (h : image_fits_S x0 x1 = some o) (hK : Φ o) : image_fits_W x0 x1 Φ := by
 unfold image_fits_S at h
 unfold image_fits_W
 exact ifS h (fun h => have t := lfS h hK; t) fun h => ifS h (fun h => have t := lfS h hK; t) fun h => mgS h (fun h hK => imS h fun h => adS h fun h => (ofIf h).1) fun h => ifS h (fun h => have t := lfS h hK; t) fun h => have t := lfS h hK; t
def image_Fits_S (x0 : List (List Sec)) (x1 : api_Write) : Option (Int) :=
 Option.bind (image_Check_S x0) fun v4 =>
 if v4 ≠ 0 then
  some (v4)
 else
  Option.bind (image_fits_S x0 x1) fun v8 =>
  some (v8)
theorem image_Fits_sound (x0 : List (List Sec)) (x1 : api_Write) {Φ : Int → Prop} {o} (h : image_Fits_S x0 x1 = some o) (hK : Φ o) : image_Fits_W x0 x1 Φ := by
 unfold image_Fits_S at h
 unfold image_Fits_W
 exact blS h fun _ hv h => image_Check_sound _ hv (ifS h (fun h => have t := lfS h hK; t) fun h => blS h fun _ hv h => image_fits_sound _ _ hv (have t := lfS h hK; t))
def coalesce_Check_1_S (x0 : api_Write) (y800 : List (List Sec)) : Option (Int) :=
 Option.bind (image_Fits_S y800 x0) fun v4 =>
 some (v4)
theorem coalesce_Check_1_sound (x0 : api_Write) (y800 : List (List Sec)) {Φ : Int → Prop} {o} (h : coalesce_Check_1_S x0 y800 = some o) (hK : Φ o) : coalesce_Check_1_W x0 y800 Φ := by
 unfold coalesce_Check_1_S at h
 unfold coalesce_Check_1_W
 exact blS h fun _ hv h => image_Fits_sound _ _ hv (have t := lfS h hK; t)
def coalesce_check__coalesce_Check_1_L1_S (x0 : List api_Write) (y910 : List (List Sec)) : (Int) → Option ((Int) ⊕ (Int))
 | (v5) =>
  if v5 < (x0.length : Int) then
   if inX v5 x0.length then
   Option.bind (coalesce_Check_1_S (ix x0 v5) y910) fun v16 =>
   if v16 ≠ 0 then
    some (.inr v16)
   else
    if v5 = 0 then
     if inI (v5 + 1) then
     some (.inl (v5 + 1))
     else none
    else
     if inI (v5 - 1) then
     if inX (v5 - 1) x0.length then
     Option.bind (
      if ¬ (((ix x0 v5).Volume) < ((ix x0 (v5 - 1)).Volume)) then
       if ((ix x0 v5).Volume) = ((ix x0 (v5 - 1)).Volume) then
        if inI (((ix x0 (v5 - 1)).Start) + (((ix x0 (v5 - 1)).Data).length : Int)) then some () else none
       else some ()
      else some () : Option Unit) fun _ =>
     if (((ix x0 v5).Volume) < ((ix x0 (v5 - 1)).Volume)) ∨ ((((ix x0 v5).Volume) = ((ix x0 (v5 - 1)).Volume)) ∧ (((ix x0 v5).Start) ≤ (((ix x0 (v5 - 1)).Start) + (((ix x0 (v5 - 1)).Data).length : Int)))) then
      some (.inr 3)
     else
      if inI (v5 + 1) then
      some (.inl (v5 + 1))
      else none
     else none
     else none
   else none
  else
   some (.inr 0)
theorem coalesce_check__coalesce_Check_1_L1_sound (x0 : List api_Write) (y910 : List (List Sec)) (s : Int) {Φ : Int → Prop} {rec1 : (Int) → Prop} {o} (h : coalesce_check__coalesce_Check_1_L1_S x0 y910 s = some o) (hK : (orK rec1 Φ) o) : coalesce_check__coalesce_Check_1_L1 x0 y910 Φ s rec1 := by
 unfold coalesce_check__coalesce_Check_1_L1_S at h
 unfold coalesce_check__coalesce_Check_1_L1
 exact ifS h (fun h => adS h fun h => blS h fun _ hv h => coalesce_Check_1_sound _ _ hv (ifS h (fun h => have t := lfS h hK; t) fun h => ifS h (fun h => adS h fun h => have t := lfS h hK; t) fun h => adS h fun h => adS h fun h => mgS h (fun h hK => imS h fun h => imS h fun h => (ofIf h).1) fun h => ifS h (fun h => have t := lfS h hK; t) fun h => adS h fun h => have t := lfS h hK; t)) fun h => have t := lfS h hK; t
def coalesce_check__coalesce_Check_1_S (x0 : List api_Write) (y910 : List (List Sec)) : Option (Int) :=
 loopS (coalesce_check__coalesce_Check_1_L1_S x0 y910) 100000 (0)
theorem coalesce_check__coalesce_Check_1_sound (x0 : List api_Write) (y910 : List (List Sec)) {Φ : Int → Prop} {o} (h : coalesce_check__coalesce_Check_1_S x0 y910 = some o) (hK : Φ o) : coalesce_check__coalesce_Check_1_W x0 y910 Φ := by
 unfold coalesce_check__coalesce_Check_1_S at h
 unfold coalesce_check__coalesce_Check_1_W
 exact LoopW.of_S (fun s q rec hs hq => coalesce_check__coalesce_Check_1_L1_sound _ _ s hs hq) _ _ h hK
def coalesce_Check_S (x0 : List api_Write) (x1 : List Int) : Option (Int) :=
 Option.bind (image_New_S x1) fun v3 =>
 if v3.2 ≠ 0 then
  some (v3.2)
 else
  Option.bind (coalesce_check__coalesce_Check_1_S x0 v3.1) fun v12 =>
  some (v12)
theorem coalesce_Check_sound (x0 : List api_Write) (x1 : List Int) {Φ : Int → Prop} {o} (h : coalesce_Check_S x0 x1 = some o) (hK : Φ o) : coalesce_Check_W x0 x1 Φ := by
 unfold coalesce_Check_S at h
 unfold coalesce_Check_W
 exact blS h fun _ hv h => image_New_sound _ hv (ifS h (fun h => have t := lfS h hK; t) fun h => blS h fun _ hv h => coalesce_check__coalesce_Check_1_sound _ _ hv (have t := lfS h hK; t))
def cycle_Check_S (x0 : api_Cycle) (x1 : List Int) : Option (Int) :=
 Option.bind (image_New_S x1) fun v5 =>
 if v5.2 ≠ 0 then
  some (v5.2)
 else
  if (x0.Base < 0) ∨ ((x0.Number ≤ x0.Base) ∨ (1073741824 < x0.Number)) then
   some (2)
  else
   Option.bind (cycle_in_S x0.Time 0 1073741824) fun v13 =>
   if ¬ (v13 = true) then
    some (24)
   else
    Option.bind (cycle_positions_S x0.Positions 0) fun v17 =>
    if v17 ≠ 0 then
     some (v17)
    else
     Option.bind (coalesce_Check_S x0.Writes x1) fun v21 =>
     some (v21)
theorem cycle_Check_sound (x0 : api_Cycle) (x1 : List Int) {Φ : Int → Prop} {o} (h : cycle_Check_S x0 x1 = some o) (hK : Φ o) : cycle_Check_W x0 x1 Φ := by
 unfold cycle_Check_S at h
 unfold cycle_Check_W
 exact blS h fun _ hv h => image_New_sound _ hv (ifS h (fun h => have t := lfS h hK; t) fun h => ifS h (fun h => have t := lfS h hK; t) fun h => blS h fun _ hv h => cycle_in_sound _ _ _ hv (ifS h (fun h => have t := lfS h hK; t) fun h => blS h fun _ hv h => cycle_positions_sound _ _ hv (ifS h (fun h => have t := lfS h hK; t) fun h => blS h fun _ hv h => coalesce_Check_sound _ _ hv (have t := lfS h hK; t))))
def reverse_Cycle_L3_S (x1 : api_Point) (v11 : List (List api_Extent) × Int) (v39 : List Int) (v46 : Int) : (List api_Write × Int) → Option ((List api_Write × Int) ⊕ ((List api_Write × List Int × Int) ⊕ (api_Cycle × Int)))
 | (v67, v74) =>
  if v74 < ((ix v11.1 v46).length : Int) then
   if inX v74 (ix v11.1 v46).length then
   if inI (((ix (ix v11.1 v46) v74).Start) + ((ix (ix v11.1 v46) v74).Count)) then
   if inS ((ix (ix v11.1 v46) v74).Start) (((ix (ix v11.1 v46) v74).Start) + ((ix (ix v11.1 v46) v74).Count)) (ix x1.Image v46).length then
   Option.bind (slices_Clone_api_Sector_api_Sector_S (sub (ix x1.Image v46) ((ix (ix v11.1 v46) v74).Start) (((ix (ix v11.1 v46) v74).Start) + ((ix (ix v11.1 v46) v74).Count)))) fun v102 =>
   if lenOk (v67 ++ ([(api_Write.mk v46 ((ix (ix v11.1 v46) v74).Start) v102)] : List api_Write)).length 40 then
   if inI (v74 + 1) then
   some (.inl ((v67 ++ ([(api_Write.mk v46 ((ix (ix v11.1 v46) v74).Start) v102)] : List api_Write)), v74 + 1))
   else none
   else none
   else none
   else none
   else none
  else
   if inI (v46 + 1) then
   some (.inr (.inl (v67, (v39 ++ ([((ix x1.Image v46).length : Int)] : List Int)), v46 + 1)))
   else none
theorem reverse_Cycle_L3_sound (x1 : api_Point) (v11 : List (List api_Extent) × Int) (v39 : List Int) (v46 : Int) (s : List api_Write × Int) {Φ : api_Cycle × Int → Prop} {rec2 : (List api_Write × List Int × Int) → Prop} {rec3 : (List api_Write × Int) → Prop} {o} (h : reverse_Cycle_L3_S x1 v11 v39 v46 s = some o) (hK : (orK rec3 (orK rec2 Φ)) o) : reverse_Cycle_L3 x1 v11 v39 v46 rec2 Φ s rec3 := by
 obtain ⟨v67, v74⟩ := s
 unfold reverse_Cycle_L3_S at h
 unfold reverse_Cycle_L3
 exact ifS h (fun h => adS h fun h => adS h fun h => adS h fun h => blS h fun v hv h => ⟨v, slices_Clone_api_Sector_api_Sector_sound _ hv rfl, adS h fun h => adS h fun h => have t := lfS h hK; t⟩) fun h => adS h fun h => have t := lfS h hK; t
def reverse_Cycle_L2_S (x1 : api_Point) (x2 : Int) (x3 : Int) (v11 : List (List api_Extent) × Int) (v18 : Int × Int) (v23 : List Int) : (List api_Write × List Int × Int) → Option ((List api_Write × List Int × Int) ⊕ (api_Cycle × Int))
 | (v32, v39, v46) =>
  if v46 < (x1.Image.length : Int) then
   if inX v46 x1.Image.length then
   if lenOk (v39 ++ ([((ix x1.Image v46).length : Int)] : List Int)).length 8 then
   if inX v46 v11.1.length then
   loopS (reverse_Cycle_L3_S x1 v11 v39 v46) 100000 (v32, 0)
   else none
   else none
   else none
  else
   Option.bind (cycle_Check_S (api_Cycle.mk v18.1 x2 x3 v23 v32) v39) fun v176 =>
   if v176 ≠ 0 then
    some (.inr ((api_Cycle.mk 0 0 0 ([] : List Int) ([] : List api_Write)), v176))
   else
    some (.inr ((api_Cycle.mk v18.1 x2 x3 v23 v32), 0))
theorem reverse_Cycle_L2_sound (x1 : api_Point) (x2 : Int) (x3 : Int) (v11 : List (List api_Extent) × Int) (v18 : Int × Int) (v23 : List Int) (s : List api_Write × List Int × Int) {Φ : api_Cycle × Int → Prop} {rec2 : (List api_Write × List Int × Int) → Prop} {o} (h : reverse_Cycle_L2_S x1 x2 x3 v11 v18 v23 s = some o) (hK : (orK rec2 Φ) o) : reverse_Cycle_L2 x1 x2 x3 v11 v18 v23 Φ s rec2 := by
 obtain ⟨v32, v39, v46⟩ := s
 unfold reverse_Cycle_L2_S at h
 unfold reverse_Cycle_L2
 exact ifS h (fun h => adS h fun h => adS h fun h => adS h fun h => LoopW.of_S (fun s q rec hs hq => reverse_Cycle_L3_sound _ _ _ _ s hs hq) _ _ h hK) fun h => blS h fun _ hv h => cycle_Check_sound _ _ hv (ifS h (fun h => have t := lfS h hK; t) fun h => have t := lfS h hK; t)
def reverse_Cycle_J1_S (x1 : api_Point) (x2 : Int) (x3 : Int) (x4 : List Int) (v11 : List (List api_Extent) × Int) (v18 : Int × Int) : Option (api_Cycle × Int) :=
 Option.bind (slices_Clone_int_int_S x4) fun v23 =>
 loopS (reverse_Cycle_L2_S x1 x2 x3 v11 v18 v23) 100000 (([] : List api_Write), ([] : List Int), 0)
theorem reverse_Cycle_J1_sound (x1 : api_Point) (x2 : Int) (x3 : Int) (x4 : List Int) (v11 : List (List api_Extent) × Int) (v18 : Int × Int) {Φ : api_Cycle × Int → Prop} {o} (h : reverse_Cycle_J1_S x1 x2 x3 x4 v11 v18 = some o) (hK : Φ o) : reverse_Cycle_J1 x1 x2 x3 x4 v11 v18 Φ := by
 unfold reverse_Cycle_J1_S at h
 unfold reverse_Cycle_J1
 exact blS h fun _ hv h => slices_Clone_int_int_sound _ hv (LoopW.of_S (fun s q rec hs hq => reverse_Cycle_L2_sound _ _ _ _ _ _ s hs hq) _ _ h hK)
def reverse_Cycle_S (x0 : api_Point) (x1 : api_Point) (x2 : Int) (x3 : Int) (x4 : List Int) : Option (api_Cycle × Int) :=
 Option.bind (delta_Between_S x0 x1) fun v11 =>
 if v11.2 ≠ 0 then
  some (((api_Cycle.mk 0 0 0 ([] : List Int) ([] : List api_Write)), v11.2))
 else
  Option.bind (delta_Ancestor_S x0.Lineage x1.Lineage) fun v18 =>
  if x2 ≤ v18.1 then
   some (((api_Cycle.mk 0 0 0 ([] : List Int) ([] : List api_Write)), 2))
  else
   Option.bind (reverse_last_S x1.Lineage) fun v186 =>
   if x2 < v186 then
    some (((api_Cycle.mk 0 0 0 ([] : List Int) ([] : List api_Write)), 2))
   else
    reverse_Cycle_J1_S x1 x2 x3 x4 v11 v18
theorem reverse_Cycle_sound (x0 : api_Point) (x1 : api_Point) (x2 : Int) (x3 : Int) (x4 : List Int) {Φ : api_Cycle × Int → Prop} {o} (h : reverse_Cycle_S x0 x1 x2 x3 x4 = some o) (hK : Φ o) : reverse_Cycle_W x0 x1 x2 x3 x4 Φ := by
 unfold reverse_Cycle_S at h
 unfold reverse_Cycle_W
 exact blS h fun _ hv h => delta_Between_sound _ _ hv (ifS h (fun h => have t := lfS h hK; t) fun h => blS h fun _ hv h => delta_Ancestor_sound _ _ hv (ifS h (fun h => have t := lfS h hK; t) fun h => blS h fun _ hv h => reverse_last_sound _ hv (ifS h (fun h => have t := lfS h hK; t) fun h => reverse_Cycle_J1_sound _ _ _ _ _ _ h hK)))
def ref02_SameExtents_L1_S (x0 : List api_Extent) (x1 : List api_Extent) : (Int) → Option ((Int) ⊕ (Bool))
 | (v6) =>
  if v6 < (x0.length : Int) then
   if inX v6 x0.length then
   if inX v6 x1.length then
   if (ix x0 v6) ≠ (ix x1 v6) then
    some (.inr false)
   else
    if inI (v6 + 1) then
    some (.inl (v6 + 1))
    else none
   else none
   else none
  else
   some (.inr true)
theorem ref02_SameExtents_L1_sound (x0 : List api_Extent) (x1 : List api_Extent) (s : Int) {Φ : Bool → Prop} {rec1 : (Int) → Prop} {o} (h : ref02_SameExtents_L1_S x0 x1 s = some o) (hK : (orK rec1 Φ) o) : ref02_SameExtents_L1 x0 x1 Φ s rec1 := by
 unfold ref02_SameExtents_L1_S at h
 unfold ref02_SameExtents_L1
 exact ifS h (fun h => adS h fun h => adS h fun h => ifS h (fun h => have t := lfS h hK; t) fun h => adS h fun h => have t := lfS h hK; t) fun h => have t := lfS h hK; t
def ref02_SameExtents_S (x0 : List api_Extent) (x1 : List api_Extent) : Option (Bool) :=
 if (x0.length : Int) ≠ (x1.length : Int) then
  some (false)
 else
  loopS (ref02_SameExtents_L1_S x0 x1) 100000 (0)
theorem ref02_SameExtents_sound (x0 : List api_Extent) (x1 : List api_Extent) {Φ : Bool → Prop} {o} (h : ref02_SameExtents_S x0 x1 = some o) (hK : Φ o) : ref02_SameExtents_W x0 x1 Φ := by
 unfold ref02_SameExtents_S at h
 unfold ref02_SameExtents_W
 exact ifS h (fun h => have t := lfS h hK; t) fun h => LoopW.of_S (fun s q rec hs hq => ref02_SameExtents_L1_sound _ _ s hs hq) _ _ h hK
def ref47_SameExtents_L1_S (x0 : List (List api_Extent)) (x1 : List (List api_Extent)) : (Int) → Option ((Int) ⊕ (Bool))
 | (v6) =>
  if v6 < (x0.length : Int) then
   if inX v6 x0.length then
   if inX v6 x1.length then
   Option.bind (ref02_SameExtents_S (ix x0 v6) (ix x1 v6)) fun v16 =>
   if ¬ (v16 = true) then
    some (.inr false)
   else
    if inI (v6 + 1) then
    some (.inl (v6 + 1))
    else none
   else none
   else none
  else
   some (.inr true)
theorem ref47_SameExtents_L1_sound (x0 : List (List api_Extent)) (x1 : List (List api_Extent)) (s : Int) {Φ : Bool → Prop} {rec1 : (Int) → Prop} {o} (h : ref47_SameExtents_L1_S x0 x1 s = some o) (hK : (orK rec1 Φ) o) : ref47_SameExtents_L1 x0 x1 Φ s rec1 := by
 unfold ref47_SameExtents_L1_S at h
 unfold ref47_SameExtents_L1
 exact ifS h (fun h => adS h fun h => adS h fun h => blS h fun v hv h => ⟨v, ref02_SameExtents_sound _ _ hv rfl, ifS h (fun h => have t := lfS h hK; t) fun h => adS h fun h => have t := lfS h hK; t⟩) fun h => have t := lfS h hK; t
def ref47_SameExtents_S (x0 : List (List api_Extent)) (x1 : List (List api_Extent)) : Option (Bool) :=
 if (x0.length : Int) ≠ (x1.length : Int) then
  some (false)
 else
  loopS (ref47_SameExtents_L1_S x0 x1) 100000 (0)
theorem ref47_SameExtents_sound (x0 : List (List api_Extent)) (x1 : List (List api_Extent)) {Φ : Bool → Prop} {o} (h : ref47_SameExtents_S x0 x1 = some o) (hK : Φ o) : ref47_SameExtents_W x0 x1 Φ := by
 unfold ref47_SameExtents_S at h
 unfold ref47_SameExtents_W
 exact ifS h (fun h => have t := lfS h hK; t) fun h => LoopW.of_S (fun s q rec hs hq => ref47_SameExtents_L1_sound _ _ s hs hq) _ _ h hK
def law47_awake_S : Option (Bool) :=
 Option.bind (law47_one_S 0 (8#8)) fun v10 =>
 Option.bind (law47_point_S 0 ([([(Sec.mk (1#8) (0#8) (0#8) (0#8) (0#8) (0#8) (0#8) (0#8)), (Sec.mk (2#8) (0#8) (0#8) (0#8) (0#8) (0#8) (0#8) (0#8)), (Sec.mk (3#8) (0#8) (0#8) (0#8) (0#8) (0#8) (0#8) (0#8))] : List Sec)] : List (List Sec)) ([(api_Span.mk 1 1 4)] : List api_Span) ([v10] : List api_Write)) fun v30 =>
 Option.bind (law47_one_S 2 (9#8)) fun v41 =>
 Option.bind (law47_point_S 1 ([([(Sec.mk (1#8) (0#8) (0#8) (0#8) (0#8) (0#8) (0#8) (0#8)), (Sec.mk (2#8) (0#8) (0#8) (0#8) (0#8) (0#8) (0#8) (0#8)), (Sec.mk (3#8) (0#8) (0#8) (0#8) (0#8) (0#8) (0#8) (0#8))] : List Sec)] : List (List Sec)) ([(api_Span.mk 1 1 4), (api_Span.mk 2 5 6)] : List api_Span) ([v41] : List api_Write)) fun v58 =>
 Option.bind (reverse_Undo_S v30 4) fun v70 =>
 Option.bind (reverse_Extents_S v30 v58) fun v79 =>
 Option.bind (reverse_Cycle_S v30 v58 6 7 ([] : List Int)) fun v85 =>
 if (v70.2 ≠ 0) ∨ ((v79.2 ≠ 0) ∨ ((v85.2 ≠ 0) ∨ ((v85.1.Base ≠ 4) ∨ ((v85.1.Writes.length : Int) ≠ 2)))) then
  some (false)
 else
  Option.bind (ref47_SameExtents_S v70.1 ([([(api_Extent.mk 0 1)] : List api_Extent)] : List (List api_Extent))) fun v116 =>
  if v116 = true then
   Option.bind (ref47_SameExtents_S v79.1 ([([(api_Extent.mk 0 1), (api_Extent.mk 2 1)] : List api_Extent)] : List (List api_Extent))) fun v133 =>
   if v133 = true then
    if inX 0 v85.1.Writes.length then
    if inX 0 ((ix v85.1.Writes 0).Data).length then
    if (ix ((ix v85.1.Writes 0).Data) 0) = (Sec.mk (1#8) (0#8) (0#8) (0#8) (0#8) (0#8) (0#8) (0#8)) then
     if inX 1 v85.1.Writes.length then
     if inX 0 ((ix v85.1.Writes 1).Data).length then
     some (decide ((ix ((ix v85.1.Writes 1).Data) 0) = (Sec.mk (9#8) (0#8) (0#8) (0#8) (0#8) (0#8) (0#8) (0#8))))
     else none
     else none
    else
     some (false)
    else none
    else none
   else
    some (false)
  else
   some (false)
theorem law47_awake_sound {Φ : Bool → Prop} {o} (h : law47_awake_S = some o) (hK : Φ o) : law47_awake_W Φ := by
 unfold law47_awake_S at h
 unfold law47_awake_W
 exact blS h fun _ hv h => law47_one_sound _ _ hv (blS h fun _ hv h => law47_point_sound _ _ _ _ hv (blS h fun _ hv h => law47_one_sound _ _ hv (blS h fun _ hv h => law47_point_sound _ _ _ _ hv (blS h fun _ hv h => reverse_Undo_sound _ _ hv (blS h fun _ hv h => reverse_Extents_sound _ _ hv (blS h fun _ hv h => reverse_Cycle_sound _ _ _ _ _ hv (ifS h (fun h => have t := lfS h hK; t) fun h => blS h fun _ hv h => ref47_SameExtents_sound _ _ hv (ifS h (fun h => blS h fun _ hv h => ref47_SameExtents_sound _ _ hv (ifS h (fun h => adS h fun h => adS h fun h => ifS h (fun h => adS h fun h => adS h fun h => have t := lfS h hK; t) fun h => have t := lfS h hK; t) fun h => have t := lfS h hK; t)) fun h => have t := lfS h hK; t))))))))
end Go.Proofs.YtahlanamngfkcaaDoor

namespace Go.Proofs.YtahlanamngfkcaaDoor
open Go.RowKit
def lastTo (l : List api_Span) : Int := if (l.length : Int) = 0 then 0 else (ix l ((l.length : Int) - 1)).To
theorem reverse_last_ok {l : List api_Span} {Φ : Int → Prop} (hl : l.length ≤ 1000000) (hΦ : Φ (lastTo l)) : reverse_last_W l Φ := by
  unfold lastTo at hΦ
  refine ⟨fun h => by rw [if_pos h] at hΦ; exact hΦ, fun h => ⟨iI (by omega) (by omega), iX (by omega) (by omega), by rw [if_neg h] at hΦ; exact hΦ⟩⟩
theorem marks_len (a b : api_Point) : (marks a b).length = a.Dirty.length ∧ ∀ x ∈ marks a b, x.length ≤ 1000000 := by
  refine ⟨by simp [marks], fun x hx => ?_⟩
  obtain ⟨y, _, rfl⟩ := List.mem_map.1 hx
  exact Nat.le_trans (exts_len _) (by decide)
theorem law47_awake_ok {Φ : Bool → Prop} (h : Φ true) : law47_awake_W Φ := law47_awake_sound (by kernel_rfl) h
end Go.Proofs.YtahlanamngfkcaaDoor

namespace Go.Proofs.YtahlanamngfkcaaDoor
open Go.RowKit
def ancL : List api_Span → List api_Span → Int → Int → Int × Int
  | x :: xs, y :: ys, c, e => if x.Epoch ≠ y.Epoch then (c, e) else if x.To ≠ y.To then (if y.To < x.To then y.To else x.To, x.Epoch) else ancL xs ys (if y.To < x.To then y.To else x.To) x.Epoch
  | [], _, c, e => (c, e)
  | _ :: _, [], c, e => (c, e)
theorem ancL_end {xs ys : List api_Span} {c e : Int} (h : xs = [] ∨ ys = []) : ancL xs ys c e = (c, e) := by
  rcases h with rfl | rfl
  · cases ys <;> rfl
  · cases xs <;> rfl
def ancR (a b : List api_Span) : Int × Int := if linB a = true ∧ linB b = true then ancL a b 0 0 else (0, 0)
theorem anc_round {a b : List api_Span} {k : Nat} (h1 : k < a.length) (h2 : k < b.length) {c e : Int} {Φ : Int × Int → Prop} (hΦ : Φ (ancL (a.drop k) (b.drop k) c e)) :
    ((ix a (k : Int)).Epoch ≠ (ix b (k : Int)).Epoch → Φ (c, e)) ∧ (¬ ((ix a (k : Int)).Epoch ≠ (ix b (k : Int)).Epoch) → ((ix a (k : Int)).To ≠ (ix b (k : Int)).To → Φ (if (ix b (k : Int)).To < (ix a (k : Int)).To then (ix b (k : Int)).To else (ix a (k : Int)).To, (ix a (k : Int)).Epoch)) ∧
      (¬ ((ix a (k : Int)).To ≠ (ix b (k : Int)).To) → Φ (ancL (a.drop (k + 1)) (b.drop (k + 1)) (if (ix b (k : Int)).To < (ix a (k : Int)).To then (ix b (k : Int)).To else (ix a (k : Int)).To) (ix a (k : Int)).Epoch))) := by
  rw [drop_ix h1, drop_ix h2] at hΦ
  unfold ancL at hΦ
  refine ⟨fun q => by rw [if_pos q] at hΦ; exact hΦ, fun q => ⟨fun q2 => ?_, fun q2 => ?_⟩⟩
  · rw [if_neg q, if_pos q2] at hΦ; exact hΦ
  · rw [if_neg q, if_neg q2] at hΦ; exact hΦ
theorem delta_Ancestor_ok {a b : List api_Span} {Φ : Int × Int → Prop} (ha : a.length ≤ 1000000) (hb : b.length ≤ 1000000) (hΦ : Φ (ancR a b)) : delta_Ancestor_W a b Φ := by
  unfold ancR at hΦ
  refine delta_correct_ok ha ⟨fun q => by rw [if_neg fun z => q z.1] at hΦ; exact hΦ, fun q => delta_correct_ok hb ⟨fun q2 => by rw [if_neg fun z => q2 z.2] at hΦ; exact hΦ, fun q2 => ?_⟩⟩
  rw [if_pos ⟨Classical.not_not.1 q, Classical.not_not.1 q2⟩] at hΦ
  refine LoopW.upS (min a.length b.length) (fun s : Int × Int × Int => s.2.2) (fun k s => Φ (ancL (a.drop k) (b.drop k) s.1 s.2.1)) ?_ 0 rfl (Nat.zero_le _) hΦ
  rintro k ⟨c, e, i⟩ rec hk hi hI hrec
  simp only at hi hI
  subst hi
  have hmin : ((k : Int) < (if (b.length : Int) < (a.length : Int) then (b.length : Int) else (a.length : Int))) ↔ k < a.length ∧ k < b.length := by split <;> omega
  refine ⟨fun h => ?_, fun h => ?_, fun h => ?_⟩
  · rw [hmin] at h; exact ⟨iX (by omega) (by omega), iX (by omega) (by omega)⟩
  · rw [hmin] at h
    obtain ⟨h1, h2⟩ := anc_round h.1.1 h.1.2 hI
    obtain ⟨h3, h4⟩ := h2 (fun z => z h.2)
    exact ⟨iX (by omega) (by omega), iX (by omega) (by omega), h3, fun z => ⟨iI (by omega) (by omega), hrec _ (by omega) rfl (h4 z)⟩⟩
  · rw [hmin] at h
    by_cases hlt : k < a.length ∧ k < b.length
    · exact (anc_round hlt.1 hlt.2 hI).1 fun z => h ⟨hlt, z⟩
    · rw [ancL_end (by
        rcases Nat.lt_or_ge k a.length with h1 | h1
        · exact .inr (List.drop_eq_nil_of_le (by omega))
        · exact .inl (List.drop_eq_nil_of_le h1))] at hI
      exact hI
theorem cloneI_ok {l : List Int} {Φ : List Int → Prop} (hl : l.length ≤ 1000000) (hΦ : Φ l) : slices_Clone_int_int_W l Φ :=
  ⟨fun h => by rw [h] at hΦ; exact hΦ, iL (by rw [List.nil_append]; exact hl) (by omega), hΦ⟩
theorem cloneS_ok {l : List Sec} {Φ : List Sec → Prop} (hl : l.length ≤ 1000000) (hΦ : Φ l) : slices_Clone_api_Sector_api_Sector_W l Φ :=
  ⟨fun h => by rw [h] at hΦ; exact hΦ, iL (by rw [List.nil_append]; exact hl) (by omega), hΦ⟩
def wrK (im : List (List Sec)) (l : List (List api_Extent)) (v i : Nat) : api_Write := ⟨(v : Int), (ix (ix l (v : Int)) (i : Int)).Start, sub (ix im (v : Int)) (ix (ix l (v : Int)) (i : Int)).Start ((ix (ix l (v : Int)) (i : Int)).Start + (ix (ix l (v : Int)) (i : Int)).Count)⟩
def contV (im : List (List Sec)) (l : List (List api_Extent)) (v m : Nat) : List api_Write := (List.range m).map (wrK im l v)
def cont (im : List (List Sec)) (l : List (List api_Extent)) (n : Nat) : List api_Write := (List.range n).flatMap fun v => contV im l v (ix l (v : Int)).length
theorem contV_succ (im : List (List Sec)) (l : List (List api_Extent)) (v m : Nat) : contV im l v (m + 1) = contV im l v m ++ [wrK im l v m] := by
  unfold contV; rw [List.range_succ, List.map_append]; rfl
theorem cont_succ (im : List (List Sec)) (l : List (List api_Extent)) (n : Nat) : cont im l (n + 1) = cont im l n ++ contV im l n (ix l (n : Int)).length := by
  unfold cont; rw [List.range_succ, List.flatMap_append]; simp
structure Within (im : List (List Sec)) (l : List (List api_Extent)) : Prop where
  len : l.length = im.length
  n8 : im.length ≤ 8
  small : ∀ v : Nat, v < im.length → (ix im (v : Int)).length ≤ 4096 ∧ (ix l (v : Int)).length ≤ 4096
  ext : ∀ v : Nat, v < im.length → ∀ i : Nat, i < (ix l (v : Int)).length → 0 ≤ (ix (ix l (v : Int)) (i : Int)).Start ∧ 0 ≤ (ix (ix l (v : Int)) (i : Int)).Count ∧ (ix (ix l (v : Int)) (i : Int)).Start + (ix (ix l (v : Int)) (i : Int)).Count ≤ ((ix im (v : Int)).length : Int)
theorem sub_le {α : Type} (xs : List α) (lo hi : Int) : (sub xs lo hi).length ≤ xs.length := by
  unfold sub; rw [List.length_take, List.length_drop]; omega
theorem contV_len (im : List (List Sec)) (l : List (List api_Extent)) (v m : Nat) : (contV im l v m).length = m := by unfold contV; simp
theorem cont_len {im : List (List Sec)} {l : List (List api_Extent)} (h : Within im l) : ∀ {n : Nat}, n ≤ im.length → (cont im l n).length ≤ 4096 * n
  | 0, _ => Nat.zero_le _
  | n + 1, hn => by
    rw [cont_succ, List.length_append, contV_len]
    have := cont_len h (n := n) (by omega)
    have := (h.small n (by omega)).2
    omega
def fitE (sizes : List Int) (w : api_Write) : Int := if w.Volume < 0 ∨ (sizes.length : Int) ≤ w.Volume then 7 else if (w.Data.length : Int) = 0 then 1 else if w.Start < 0 ∨ ix sizes w.Volume - w.Start < (w.Data.length : Int) then 2 else 0
def orderB (l : List api_Write) (k : Nat) : Prop := (ix l (k : Int)).Volume < (ix l ((k : Int) - 1)).Volume ∨ ((ix l (k : Int)).Volume = (ix l ((k : Int) - 1)).Volume ∧ (ix l (k : Int)).Start ≤ (ix l ((k : Int) - 1)).Start + ((ix l ((k : Int) - 1)).Data.length : Int))
instance (l : List api_Write) (k : Nat) : Decidable (orderB l k) := by unfold orderB; infer_instance
def wrE (sizes : List Int) (l : List api_Write) (k : Nat) : Int := if fitE sizes (ix l (k : Int)) ≠ 0 then fitE sizes (ix l (k : Int)) else if k = 0 then 0 else if orderB l k then 3 else 0
def wrsE (sizes : List Int) (l : List api_Write) : Int := firstN (wrE sizes l) l.length
def posE (l : List Int) : Int := if 8 < (l.length : Int) then 6 else firstN (fun k => if ix l (k : Int) < 0 ∨ 1073741824 < ix l (k : Int) then 2 else 0) l.length
def cycE (c : api_Cycle) (sizes : List Int) : Int :=
  if sizesE sizes ≠ 0 then sizesE sizes else if c.Base < 0 ∨ (c.Number ≤ c.Base ∨ 1073741824 < c.Number) then 2 else if c.Time < 0 ∨ 1073741824 < c.Time then 24 else if posE c.Positions ≠ 0 then posE c.Positions else wrsE sizes c.Writes
theorem sizes_ok {l : List Int} (h : ¬ sizesE l ≠ 0) : l.length ≤ 8 ∧ 1 ≤ l.length ∧ ∀ k : Nat, k < l.length → 1 ≤ ix l (k : Int) ∧ ix l (k : Int) ≤ 4096 := by
  have h0 := Classical.not_not.1 h
  unfold sizesE at h0
  split at h0
  · omega
  · refine ⟨by omega, by omega, fun k hk => ?_⟩
    have := firstN_zero.1 h0 k hk
    split at this <;> omega
theorem ref07_FitsSizes_ok {sizes : List Int} {w : api_Write} {Φ : Int → Prop} (hs : ¬ sizesE sizes ≠ 0) (hΦ : Φ (fitE sizes w)) : ref07_FitsSizes_W sizes w Φ := by
  unfold fitE at hΦ
  refine ⟨fun q => by rw [if_pos q] at hΦ; exact hΦ, fun q => ⟨fun q2 => by rw [if_neg q, if_pos q2] at hΦ; exact hΦ, fun q2 => ?_⟩⟩
  rw [if_neg q, if_neg q2] at hΦ
  obtain ⟨v, hv⟩ := Int.eq_ofNat_of_zero_le (show 0 ≤ w.Volume by omega)
  have hz := (sizes_ok hs).2.2 v (by omega)
  rw [hv] at hΦ ⊢
  refine ⟨fun q3 => ⟨iX (by omega) (by omega), fun q4 => iI (by omega) (by omega)⟩, fun q3 => ?_, fun q3 => ?_⟩
  · rw [if_pos (by omega)] at hΦ; exact hΦ
  · rw [if_neg (by omega)] at hΦ; exact hΦ
theorem fitE_zero {sizes : List Int} {w : api_Write} (hs : ¬ sizesE sizes ≠ 0) (h : fitE sizes w = 0) : 0 ≤ w.Volume ∧ w.Volume < (sizes.length : Int) ∧ 1 ≤ w.Data.length ∧ 0 ≤ w.Start ∧ w.Start + (w.Data.length : Int) ≤ ix sizes w.Volume ∧ ix sizes w.Volume ≤ 4096 := by
  unfold fitE at h
  split at h
  · omega
  split at h
  · omega
  split at h
  · omega
  obtain ⟨v, hv⟩ := Int.eq_ofNat_of_zero_le (show 0 ≤ w.Volume by omega)
  have hz := (sizes_ok hs).2.2 v (by omega)
  rw [← hv] at hz
  omega
theorem wrE_fit {sizes : List Int} {l : List api_Write} {k : Nat} (h : wrE sizes l k = 0) : fitE sizes (ix l (k : Int)) = 0 := by
  unfold wrE at h
  split at h
  · rename_i q; exact absurd h q
  · rename_i q; exact Classical.not_not.1 q
theorem wr_round {sizes : List Int} {l : List api_Write} {k : Nat} (hs : ¬ sizesE sizes ≠ 0) (hz : ∀ j, j < k → wrE sizes l j = 0) (hk : k ≠ 0) : 0 ≤ (ix l ((k : Int) - 1)).Start ∧ (ix l ((k : Int) - 1)).Start + ((ix l ((k : Int) - 1)).Data.length : Int) ≤ 4096 := by
  have := fitE_zero hs (wrE_fit (hz (k - 1) (by omega)))
  rw [show ((k - 1 : Nat) : Int) = (k : Int) - 1 by omega] at this
  omega
theorem contains_ok {p : Nat → Bool} {n : Nat} {e : Int} {Φ : Int → Prop} (he : e ≠ 0) (hΦ : Φ (firstN (fun k => if p k = true then e else 0) n)) : (decide (0 ≤ idxN p n) = true → Φ e) ∧ (¬ (decide (0 ≤ idxN p n) = true) → Φ 0) := by
  rw [decide_eq_true_iff, idxN_nonneg]
  refine ⟨fun ⟨k, hk, hp⟩ => ?_, fun q => ?_⟩
  · have hne : firstN (fun k => if p k = true then e else 0) n ≠ 0 := fun q0 => by
      have := firstN_zero.1 q0 k hk
      rw [if_pos hp] at this; exact he this
    have h2 : ∀ m, firstN (fun k => if p k = true then e else 0) m = 0 ∨ firstN (fun k => if p k = true then e else 0) m = e := by
      intro m
      induction m with
      | zero => exact .inl rfl
      | succ m ih =>
        unfold firstN
        split
        · exact ih
        · split <;> simp
    rw [(h2 _).resolve_left hne] at hΦ; exact hΦ
  · rw [firstN_zero.2 fun k hk => if_neg fun hp => q ⟨k, hk, hp⟩] at hΦ; exact hΦ
theorem cycle_positions_ok {l : List Int} {Φ : Int → Prop} (hl : l.length ≤ 1000000) (hΦ : Φ (posE l)) : cycle_positions_W l 0 Φ := by
  unfold posE at hΦ
  have hd : (decide ((0 : Int) ≤ (l.length : Int) ∧ (l.length : Int) ≤ 8) = true) ↔ ¬ 8 < (l.length : Int) := by rw [decide_eq_true_iff]; omega
  refine ⟨fun q => by rw [if_pos (by rw [hd] at q; exact Classical.not_not.1 q)] at hΦ; exact hΦ, fun q => ?_⟩
  rw [if_neg (hd.1 (Classical.not_not.1 q))] at hΦ
  have e : (fun k : Nat => if ix l (k : Int) < 0 ∨ 1073741824 < ix l (k : Int) then (2 : Int) else 0) = fun k : Nat => if decide (¬ (decide ((0 : Int) ≤ ix l (k : Int) ∧ ix l (k : Int) ≤ 1073741824) = true)) = true then 2 else 0 := by
    funext k
    by_cases h : ix l (k : Int) < 0 ∨ 1073741824 < ix l (k : Int)
    · rw [if_pos h, if_pos (decide_eq_true (by rw [decide_eq_true_iff]; omega))]
    · rw [if_neg h, if_neg (by rw [decide_eq_true_iff, decide_eq_true_iff]; omega)]
  rw [e] at hΦ
  refine LoopW.idxL (Φ := fun v => (decide (0 ≤ v) = true → Φ 2) ∧ (¬ (decide (0 ≤ v) = true) → Φ 0)) l.length _ (contains_ok (by omega) hΦ) (fun k rec hk h1 h2 => ⟨fun _ => ⟨iX (by omega) (by omega), h1, fun q => ⟨iI (by omega) (by omega), h2 (by simpa using q)⟩⟩, fun q => absurd (by omega) q⟩) fun rec h1 => ⟨fun q => absurd q (by omega), fun _ => h1⟩
def zeroIm (sizes : List Int) : List (List Sec) := sizes.map fun n => List.replicate n.toNat sec0
theorem szs_zero {sizes : List Int} (h : ¬ sizesE sizes ≠ 0) : szs (zeroIm sizes) = sizes := by
  have hs := sizes_ok h
  unfold szs zeroIm
  rw [List.map_map]
  apply ext_ix (by simp)
  intro k hk
  rw [List.length_map] at hk
  rw [ix_get (by rw [List.length_map]; exact hk), List.getElem_map]
  have := hs.2.2 k hk
  rw [ix_get hk] at this ⊢
  simp only [Function.comp, List.length_replicate]
  omega
theorem image_New_ok {sizes : List Int} {Φ : List (List Sec) × Int → Prop} (h1 : sizesE sizes ≠ 0 → Φ ([], sizesE sizes)) (h2 : ¬ sizesE sizes ≠ 0 → Φ (zeroIm sizes, 0)) : image_New_W sizes Φ := by
  refine image_checkSizes_ok ⟨fun q => h1 q, fun q => ?_⟩
  have hs := sizes_ok q
  refine ⟨by omega, iL (by omega) (by omega), ?_⟩
  refine LoopW.mapL sizes (fun n => List.replicate n.toNat sec0) (fun k acc rec hk hal _ hrec => ⟨fun _ => ⟨iX (by omega) (by omega), ?_⟩, fun q => absurd (by omega) q⟩) fun rec => ⟨fun q => absurd q (by omega), fun _ => h2 q⟩
  have := hs.2.2 k hk
  exact ⟨by omega, iL (by omega) (by omega), iL (by simp only [List.length_append, List.length_cons, List.length_nil]; omega) (by omega), iI (by omega) (by omega), hrec⟩
theorem image_fits_ok {im : List (List Sec)} {w : api_Write} {Φ : Int → Prop} (hs : ¬ sizesE (szs im) ≠ 0) (hd : w.Data.length ≤ 1000000) (hΦ : Φ (fitE (szs im) w)) : image_fits_W im w Φ := by
  unfold fitE at hΦ
  rw [szs_len] at hΦ
  refine ⟨fun q => by rw [if_pos q] at hΦ; exact hΦ, fun q => ⟨fun q2 => by rw [if_neg q, if_pos q2] at hΦ; exact hΦ, fun q2 => ?_⟩⟩
  rw [if_neg q, if_neg q2] at hΦ
  obtain ⟨v, hv⟩ := Int.eq_ofNat_of_zero_le (show 0 ≤ w.Volume by omega)
  have hz := (sizes_ok hs).2.2 v (by rw [szs_len]; omega)
  rw [hv] at hΦ ⊢
  rw [ix_szs (show v < im.length by omega)] at hΦ hz
  refine ⟨fun q3 => ⟨iX (by omega) (by omega), iI (by omega) (by omega)⟩, fun q3 => ?_, fun q3 => ?_⟩
  · rw [if_pos (by omega)] at hΦ; exact hΦ
  · rw [if_neg (by omega)] at hΦ; exact hΦ
theorem image_Fits_ok {im : List (List Sec)} {w : api_Write} {Φ : Int → Prop} (hs : ¬ sizesE (szs im) ≠ 0) (hd : w.Data.length ≤ 1000000) (hΦ : Φ (fitE (szs im) w)) : image_Fits_W im w Φ := by
  have h8 := (sizes_ok hs).1
  rw [szs_len] at h8
  exact image_Check_ok (by omega) ⟨fun q => absurd q hs, fun _ => image_fits_ok hs hd hΦ⟩
theorem coalesce_check_ok {im : List (List Sec)} {l : List api_Write} {Φ : Int → Prop} (hs : ¬ sizesE (szs im) ≠ 0) (hl : l.length ≤ 1000000) (hd : ∀ w ∈ l, w.Data.length ≤ 1000000) (hΦ : Φ (wrsE (szs im) l)) : coalesce_check__coalesce_Check_1_W l im Φ := by
  refine LoopW.firstL _ _ hΦ (fun k rec hk hz h1 h2 => ⟨fun hlt => ⟨iX (by omega) (by omega), image_Fits_ok hs (hd _ (ix_mem (iX (by omega) hlt))) ⟨fun q => ?_, fun q => ⟨fun h0 => ?_, fun h0 => ?_⟩⟩⟩, fun q => absurd (by omega) q⟩) fun rec h1 _ => ⟨fun q => absurd q (by omega), fun _ => h1⟩
  · have e : wrE (szs im) l k = fitE (szs im) (ix l (k : Int)) := if_pos q
    rw [e] at h1; exact h1 q
  · exact ⟨iI (by omega) (by omega), h2 (by unfold wrE; rw [if_neg q, if_pos (by omega)])⟩
  · have hr := wr_round hs hz (show k ≠ 0 by omega)
    refine ⟨iI (by omega) (by omega), iX (by omega) (by omega), fun _ _ => iI (by omega) (by omega), fun q2 => ?_, fun q2 => ⟨iI (by omega) (by omega), h2 ?_⟩⟩
    · have e : wrE (szs im) l k = 3 := by unfold wrE; rw [if_neg q, if_neg (by omega), if_pos (by unfold orderB; omega)]
      rw [e] at h1; exact h1 (by omega)
    · unfold wrE; rw [if_neg q, if_neg (by omega), if_neg (by unfold orderB; omega)]
theorem coalesce_Check_ok {sizes : List Int} {l : List api_Write} {Φ : Int → Prop} (hs : ¬ sizesE sizes ≠ 0) (hl : l.length ≤ 1000000) (hd : ∀ w ∈ l, w.Data.length ≤ 1000000) (hΦ : Φ (wrsE sizes l)) : coalesce_Check_W l sizes Φ := by
  refine image_New_ok (fun q => absurd q hs) fun _ => ⟨fun q => absurd rfl q, fun _ => ?_⟩
  have e := szs_zero hs
  exact coalesce_check_ok (im := zeroIm sizes) (by rw [e]; exact hs) hl hd (by rw [e]; exact hΦ)
theorem cycle_Check_ok {c : api_Cycle} {sizes : List Int} {Φ : Int → Prop} (hp : c.Positions.length ≤ 1000000) (hl : c.Writes.length ≤ 1000000) (hd : ∀ w ∈ c.Writes, w.Data.length ≤ 1000000) (hΦ : Φ (cycE c sizes)) : cycle_Check_W c sizes Φ := by
  unfold cycE at hΦ
  refine image_New_ok (fun q => ⟨fun _ => by rw [if_pos q] at hΦ; exact hΦ, fun q2 => absurd q q2⟩) fun q => ⟨fun q2 => absurd rfl q2, fun _ => ⟨fun q2 => by rw [if_neg q, if_pos q2] at hΦ; exact hΦ, fun q2 => ?_⟩⟩
  rw [if_neg q, if_neg q2] at hΦ
  have hd3 : (decide ((0 : Int) ≤ c.Time ∧ c.Time ≤ 1073741824) = true) ↔ ¬ (c.Time < 0 ∨ 1073741824 < c.Time) := by rw [decide_eq_true_iff]; omega
  refine ⟨fun q3 => by rw [if_pos (by rw [hd3] at q3; exact Classical.not_not.1 q3)] at hΦ; exact hΦ, fun q3 => ?_⟩
  rw [if_neg (hd3.1 (Classical.not_not.1 q3))] at hΦ
  exact cycle_positions_ok hp ⟨fun q4 => by rw [if_pos q4] at hΦ; exact hΦ, fun q4 => by rw [if_neg q4] at hΦ; exact coalesce_Check_ok q hl hd hΦ⟩
end Go.Proofs.YtahlanamngfkcaaDoor

namespace Go.Proofs.YtahlanamngfkcaaDoor
open Go.RowKit
theorem exts_within {b : api_Bitmap} {n : Nat} (hn : b.Size = (n : Int)) : ∀ i : Nat, i < (exts b).length → 0 ≤ (ix (exts b) (i : Int)).Start ∧ 0 ≤ (ix (exts b) (i : Int)).Count ∧ (ix (exts b) (i : Int)).Start + (ix (exts b) (i : Int)).Count ≤ (n : Int) := by
  intro i hi
  unfold exts at hi ⊢
  rw [List.length_map] at hi
  rw [ix_toX]
  by_cases h : chk b.Size b.Words ≠ 0
  · rw [extR_form h] at hi; exact absurd hi (Nat.not_lt_zero _)
  · rw [extR_ok h (k := n) (by omega)] at hi ⊢
    exact exB_get (extsK_facts b.Words n).1 hi
theorem marks_within {a b : api_Point} (hf : Fit a b) (hi : b.Image.length = a.Image.length) (hz : ∀ k : Nat, k < a.Image.length → (ix b.Image (k : Int)).length = (ix a.Image (k : Int)).length) : Within b.Image (marks a b) := by
  have hml := (marks_len a b).1
  have hda := hf.da
  have hdb := hf.db
  have h8 := hf.n8
  have hk : ∀ v : Nat, v < b.Image.length → ix (marks a b) (v : Int) = markK a b v := by
    intro v hv
    rw [ix_get (by omega)]
    unfold marks
    rw [List.getElem_map, List.getElem_range]
  refine ⟨by omega, by omega, fun v hv => ?_, fun v hv => ?_⟩
  · rw [hk v hv]
    refine ⟨?_, exts_len _⟩
    rw [hz v (by omega)]; exact hf.len (by omega)
  · rw [hk v hv]
    unfold markK
    refine exts_within ?_
    rw [(hf.or (show v < a.Image.length by omega)).1, hz v (by omega)]
    exact (hf.ca v (by omega)).2
def zeroC : api_Cycle := ⟨0, 0, 0, [], []⟩
def cycOf (a b : api_Point) (n t : Int) (ps : List Int) : api_Cycle := ⟨(ancR a.Lineage b.Lineage).1, n, t, ps, cont b.Image (betR a b).1 b.Image.length⟩
def cycR (a b : api_Point) (n t : Int) (ps : List Int) : api_Cycle × Int :=
  if (betR a b).2 ≠ 0 then (zeroC, (betR a b).2) else if n ≤ (ancR a.Lineage b.Lineage).1 ∨ n < lastTo b.Lineage then (zeroC, 2) else if cycE (cycOf a b n t ps) (szs b.Image) ≠ 0 then (zeroC, cycE (cycOf a b n t ps) (szs b.Image)) else (cycOf a b n t ps, 0)
theorem betR_zero {a b : api_Point} (h : ¬ (betR a b).2 ≠ 0) : (betR a b).1 = marks a b ∧ ptE a = 0 ∧ ptE b = 0 ∧ sameSz a.Image b.Image = true ∧ Fit a b ∧ Within b.Image (marks a b) := by
  unfold betR at h ⊢
  by_cases h1 : ptE a ≠ 0
  · rw [if_pos h1] at h; exact absurd h1 h
  by_cases h2 : ptE b ≠ 0
  · rw [if_neg h1, if_pos h2] at h; exact absurd h2 h
  by_cases h3 : sameSz a.Image b.Image = true
  · rw [if_neg h1, if_neg h2, if_neg (fun q => q h3)]
    have hf := fit_of (Classical.not_not.1 h1) (Classical.not_not.1 h2) h3
    have hl : a.Image.length = b.Image.length := by
      have := congrArg List.length (of_decide_eq_true h3)
      rwa [szs_len, szs_len] at this
    refine ⟨rfl, Classical.not_not.1 h1, Classical.not_not.1 h2, h3, hf, marks_within hf hl.symm fun k hk => ?_⟩
    rw [sameSz_allN hl, allN_true] at h3
    have := of_decide_eq_true (h3 k hk)
    omega
  · rw [if_neg h1, if_neg h2, if_pos h3] at h; exact absurd (by simp) h
theorem cont_data {im : List (List Sec)} {l : List (List api_Extent)} (h : Within im l) {n : Nat} (hn : n ≤ im.length) : ∀ w ∈ cont im l n, w.Data.length ≤ 1000000 := by
  intro w hw
  unfold cont at hw
  rw [List.mem_flatMap] at hw
  obtain ⟨v, hv, hw⟩ := hw
  unfold contV at hw
  rw [List.mem_map] at hw
  obtain ⟨i, _, rfl⟩ := hw
  have h1 := (h.small v (by have := List.mem_range.1 hv; omega)).1
  have h2 := sub_le (ix im (v : Int)) (ix (ix l (v : Int)) (i : Int)).Start ((ix (ix l (v : Int)) (i : Int)).Start + (ix (ix l (v : Int)) (i : Int)).Count)
  show (sub _ _ _).length ≤ _
  omega
theorem reverse_Cycle_ok {a b : api_Point} {n t : Int} {ps : List Int} {Φ : api_Cycle × Int → Prop} (ha : a.Lineage.length ≤ 1000000) (hb : b.Lineage.length ≤ 1000000) (ha2 : a.Image.length ≤ 100000) (hb2 : b.Image.length ≤ 100000) (hp : ps.length ≤ 1000000) (hΦ : Φ (cycR a b n t ps)) : reverse_Cycle_W a b n t ps Φ := by
  unfold cycR at hΦ
  refine delta_Between_ok ha hb ha2 hb2 ⟨fun q => by rw [if_pos q] at hΦ; exact hΦ, fun q => delta_Ancestor_ok ha hb ⟨fun q2 => by rw [if_neg q, if_pos (.inl q2)] at hΦ; exact hΦ, fun q2 => reverse_last_ok hb ⟨fun q3 => by rw [if_neg q, if_pos (.inr q3)] at hΦ; exact hΦ, fun q3 => cloneI_ok hp ?_⟩⟩⟩
  rw [if_neg q, if_neg (by omega)] at hΦ
  obtain ⟨e1, _, _, _, _, hw⟩ := betR_zero q
  have hw' : Within b.Image (betR a b).1 := by rw [e1]; exact hw
  have hl := hw'.len
  have h8 := hw'.n8
  have hszl := szs_len b.Image
  refine LoopW.upS b.Image.length (fun s : List api_Write × List Int × Int => s.2.2) (fun k s => s.1 = cont b.Image (betR a b).1 k ∧ s.2.1 = (szs b.Image).take k) ?_ 0 rfl (Nat.zero_le _) ⟨rfl, rfl⟩
  rintro k ⟨ws, sz, i⟩ rec hk hi ⟨hws, hsz⟩ hrec
  simp only at hi hws hsz
  subst hi
  subst hws
  have hsl : sz.length = k := by rw [hsz, List.length_take]; omega
  refine ⟨fun hlt => ?_, fun hge => ?_⟩
  · have hk' : k < b.Image.length := by omega
    have hsm := hw'.small k hk'
    have hcl := cont_len hw' (n := k) (by omega)
    refine ⟨iX (by omega) (by omega), iL (by simp only [List.length_append, List.length_cons, List.length_nil]; omega) (by omega), iX (by omega) (by omega), ?_⟩
    refine LoopW.up2 (ix (betR a b).1 (k : Int)).length (fun m acc => acc = cont b.Image (betR a b).1 k ++ contV b.Image (betR a b).1 k m) ?_ rfl (Nat.zero_le _) (by simp [contV])
    rintro m _ rec2 hm rfl hrec2
    have hvl := contV_len b.Image (betR a b).1 k m
    refine ⟨fun hmlt => ?_, fun hmge => ⟨iI (by omega) (by omega), hrec _ (by omega) rfl ⟨?_, ?_⟩⟩⟩
    · have he := hw'.ext k hk' m (by omega)
      have hsb := sub_le (ix b.Image (k : Int)) (ix (ix (betR a b).1 (k : Int)) (m : Int)).Start ((ix (ix (betR a b).1 (k : Int)) (m : Int)).Start + (ix (ix (betR a b).1 (k : Int)) (m : Int)).Count)
      refine ⟨iX (by omega) (by omega), iI (by omega) (by omega), iS (by omega) (by omega) (by omega), _, cloneS_ok (by omega) rfl, iL (by simp only [List.length_append, List.length_cons, List.length_nil]; omega) (by omega), iI (by omega) (by omega), hrec2 _ (by omega) ?_⟩
      rw [contV_succ, List.append_assoc]; rfl
    · rw [cont_succ, show (ix (betR a b).1 (k : Int)).length = m by omega]
    · simp only
      rw [hsz, take_ix (by rw [szs_len]; exact hk'), ix_szs hk']
  · have hke : k = b.Image.length := by omega
    rw [List.take_of_length_le (by omega)] at hsz
    subst hsz
    subst hke
    refine cycle_Check_ok hp ?_ (cont_data hw' (Nat.le_refl _)) ⟨fun q4 => ?_, fun q4 => ?_⟩
    · have := cont_len hw' (n := b.Image.length) (Nat.le_refl _)
      show (cont b.Image (betR a b).1 b.Image.length).length ≤ 1000000
      omega
    · have q5 : cycE (cycOf a b n t ps) (szs b.Image) ≠ 0 := q4
      rw [if_pos q5] at hΦ; exact hΦ
    · have q5 : ¬ cycE (cycOf a b n t ps) (szs b.Image) ≠ 0 := q4
      rw [if_neg q5] at hΦ; exact hΦ
end Go.Proofs.YtahlanamngfkcaaDoor

namespace Go.Proofs.YtahlanamngfkcaaDoor
open Go.RowKit
theorem ix_put {α : Type} [Dt α] (xs : List α) {i j : Nat} (x : α) (hi : i < xs.length) : ix (put xs (i : Int) x) (j : Int) = if j = i then x else ix xs (j : Int) := by
  show (xs.set i x).getD j default = if j = i then x else xs.getD j default
  rw [List.getD_eq_getElem?_getD, List.getD_eq_getElem?_getD]
  by_cases h : j = i
  · subst h; rw [List.getElem?_set_self hi, if_pos rfl]; rfl
  · rw [List.getElem?_set_ne (by omega), if_neg h]
theorem put_put {α : Type} (xs : List α) (i : Int) (x y : α) : put (put xs i x) i y = put xs i y := by unfold put; rw [List.set_set]
theorem ix_put_self {α : Type} [Dt α] {xs : List α} {i : Int} (x : α) (hi : inX i xs.length) : ix (put xs i x) i = x := by
  obtain ⟨k, rfl⟩ := Int.eq_ofNat_of_zero_le hi.1
  rw [ix_put xs x (by have := hi.2; omega), if_pos rfl]
theorem ix_paste {α : Type} [Dt α] {xs ys : List α} {s i : Nat} (h : s + ys.length ≤ xs.length) : ix (paste xs (s : Int) ys) (i : Int) = if s ≤ i ∧ i < s + ys.length then ix ys ((i : Int) - (s : Int)) else ix xs (i : Int) := by
  show (paste xs (s : Int) ys).getD i default = if _ then ys.getD ((i : Int) - (s : Int)).toNat default else xs.getD i default
  unfold paste
  rw [Int.toNat_natCast, List.getD_eq_getElem?_getD, List.getD_eq_getElem?_getD, List.getD_eq_getElem?_getD]
  have e1 : (xs.take s).length = s := by rw [List.length_take]; omega
  have e2 : ys.take (xs.length - s) = ys := List.take_of_length_le (by omega)
  have e3 : min ys.length (xs.length - s) = ys.length := by omega
  rw [e2, e3]
  by_cases h1 : i < s
  · rw [if_neg (by omega), List.getElem?_append_left (by omega), List.getElem?_take_of_lt h1]
  · by_cases h2 : i < s + ys.length
    · rw [if_pos (by omega), List.getElem?_append_right (by omega), e1, List.getElem?_append_left (by omega), show ((i : Int) - (s : Int)).toNat = i - s by omega]
    · rw [if_neg (by omega), List.getElem?_append_right (by omega), e1, List.getElem?_append_right (by omega), List.getElem?_drop]
      congr 2
      omega
theorem paste_len' {α : Type} {xs ys : List α} {s : Nat} (h : s ≤ xs.length) : (paste xs (s : Int) ys).length = xs.length := paste_len ⟨by omega, by omega, by omega⟩
theorem paste_nil {α : Type} [Dt α] {xs : List α} {s : Nat} (h : s ≤ xs.length) : paste xs (s : Int) [] = xs :=
  ext_ix (paste_len' h) fun k _ => by rw [ix_paste (by simpa using h), if_neg fun q => by have := q.2; rw [List.length_nil] at this; omega]
theorem paste_step {α : Type} [Dt α] {xs ys : List α} {s m : Nat} (h : s + ys.length ≤ xs.length) (hm : m < ys.length) : put (paste xs (s : Int) (ys.take m)) ((s : Int) + (m : Int)) (ix ys (m : Int)) = paste xs (s : Int) (ys.take (m + 1)) := by
  have l1 : (ys.take m).length = m := by rw [List.length_take]; omega
  have l2 : (ys.take (m + 1)).length = m + 1 := by rw [List.length_take]; omega
  have p1 : (paste xs (s : Int) (ys.take m)).length = xs.length := paste_len' (by omega)
  refine ext_ix (by rw [put_len, p1, paste_len' (by omega)]) fun k hk => ?_
  rw [put_len, p1] at hk
  rw [show (s : Int) + (m : Int) = ((s + m : Nat) : Int) by omega, ix_put _ _ (by omega), ix_paste (by omega), ix_paste (by omega), l1, l2]
  have tk : ∀ q j : Nat, j < q → j < ys.length → ix (ys.take q) (j : Int) = ix ys (j : Int) := fun q j h1 h2 => by
    rw [ix_get (by rw [List.length_take]; omega), ix_get h2, List.getElem_take]
  by_cases h1 : k = s + m
  · rw [if_pos h1, if_pos (by omega), show (k : Int) - (s : Int) = (m : Int) by omega, tk _ _ (by omega) hm]
  · rw [if_neg h1]
    by_cases h2 : s ≤ k ∧ k < s + m
    · rw [if_pos h2, if_pos (by omega), show (k : Int) - (s : Int) = ((k - s : Nat) : Int) by omega, tk _ _ (by omega) (by omega), tk _ _ (by omega) (by omega)]
    · rw [if_neg h2, if_neg (by omega)]
def apply1 (im : List (List Sec)) (w : api_Write) : List (List Sec) := put im w.Volume (paste (ix im w.Volume) w.Start w.Data)
def appL (im : List (List Sec)) (l : List api_Write) : List (List Sec) := l.foldl apply1 im
structure FitW (sizes : List Int) (w : api_Write) (v s : Nat) : Prop where
  vol : w.Volume = (v : Int)
  start : w.Start = (s : Int)
  hv : v < sizes.length
  len : 1 ≤ w.Data.length
  le : ((s + w.Data.length : Nat) : Int) ≤ ix sizes (v : Int)
  top : ix sizes (v : Int) ≤ 4096
theorem fitW_of {sizes : List Int} {w : api_Write} (hs : ¬ sizesE sizes ≠ 0) (h : fitE sizes w = 0) : ∃ v s : Nat, FitW sizes w v s := by
  have := fitE_zero hs h
  obtain ⟨v, hv⟩ := Int.eq_ofNat_of_zero_le this.1
  obtain ⟨s, hst⟩ := Int.eq_ofNat_of_zero_le this.2.2.2.1
  rw [hv, hst] at this
  exact ⟨v, s, hv, hst, by omega, by omega, by omega, by omega⟩
theorem fitE_of {sizes : List Int} {w : api_Write} {v s : Nat} (h : FitW sizes w v s) : fitE sizes w = 0 := by
  have h1 := h.hv
  have h2 := h.len
  have h3 := h.le
  unfold fitE
  rw [h.vol, h.start, if_neg (by omega), if_neg (by omega), if_neg (by omega)]
theorem szs_apply1 {im : List (List Sec)} {w : api_Write} {v s : Nat} (h : FitW (szs im) w v s) : szs (apply1 im w) = szs im := by
  have hv := h.hv
  rw [szs_len] at hv
  have hle := h.le
  rw [ix_szs hv] at hle
  unfold apply1
  rw [h.vol, h.start]
  refine ext_ix (by rw [szs_len, szs_len, put_len]) fun k hk => ?_
  rw [szs_len, put_len] at hk
  rw [ix_szs (by rw [put_len]; exact hk), ix_szs hk, ix_put _ _ hv]
  by_cases hkv : k = v
  · rw [if_pos hkv, paste_len' (by omega), hkv]
  · rw [if_neg hkv]
theorem szs_appL {im : List (List Sec)} (hs : ¬ sizesE (szs im) ≠ 0) : ∀ {l : List api_Write}, (∀ w ∈ l, fitE (szs im) w = 0) → szs (appL im l) = szs im := by
  intro l
  induction l generalizing im with
  | nil => intro _; rfl
  | cons w l ih =>
    intro h
    obtain ⟨v, s, hw⟩ := fitW_of hs (h w (List.mem_cons_self ..))
    have e := szs_apply1 hw
    show szs (appL (apply1 im w) l) = _
    rw [ih (by rw [e]; exact hs) fun x hx => by rw [e]; exact h x (List.mem_cons_of_mem _ hx), e]
def sec (im : List (List Sec)) (v i : Nat) : Sec := ix (ix im (v : Int)) (i : Int)
def covW (w : api_Write) (v i : Nat) : Prop := w.Volume = (v : Int) ∧ w.Start ≤ (i : Int) ∧ (i : Int) < w.Start + (w.Data.length : Int)
instance (w : api_Write) (v i : Nat) : Decidable (covW w v i) := by unfold covW; infer_instance
theorem sec_apply1 {im : List (List Sec)} {w : api_Write} {v0 s0 : Nat} (h : FitW (szs im) w v0 s0) (v i : Nat) : sec (apply1 im w) v i = if covW w v i then ix w.Data ((i : Int) - w.Start) else sec im v i := by
  have hv := h.hv
  rw [szs_len] at hv
  have hle := h.le
  rw [ix_szs hv] at hle
  have h1 := h.vol
  have h2 := h.start
  have hc : covW w v i ↔ v = v0 ∧ s0 ≤ i ∧ i < s0 + w.Data.length := by unfold covW; omega
  have e : sec (apply1 im w) v i = ix (if v = v0 then paste (ix im (v0 : Int)) (s0 : Int) w.Data else ix im (v : Int)) (i : Int) := by
    unfold sec apply1
    rw [h1, h2, ix_put _ _ hv]
  rw [e]
  by_cases hkv : v = v0
  · rw [if_pos hkv, ix_paste (by omega)]
    subst hkv
    by_cases hq : s0 ≤ i ∧ i < s0 + w.Data.length
    · rw [if_pos hq, if_pos (hc.2 ⟨rfl, hq⟩), h2]
    · rw [if_neg hq, if_neg (fun q => hq (hc.1 q).2)]; rfl
  · rw [if_neg hkv, if_neg (fun q => hkv (hc.1 q).1)]; rfl
theorem sec_none {v i : Nat} : ∀ {l : List api_Write} {im : List (List Sec)}, ¬ sizesE (szs im) ≠ 0 → (∀ w ∈ l, fitE (szs im) w = 0) → (∀ w ∈ l, ¬ covW w v i) → sec (appL im l) v i = sec im v i := by
  intro l
  induction l with
  | nil => intro im _ _ _; rfl
  | cons w l ih =>
    intro im hs h hn
    obtain ⟨v0, s0, hw⟩ := fitW_of hs (h w (List.mem_cons_self ..))
    have e := szs_apply1 hw
    show sec (appL (apply1 im w) l) v i = _
    rw [ih (by rw [e]; exact hs) (fun x hx => by rw [e]; exact h x (List.mem_cons_of_mem _ hx)) fun x hx => hn x (List.mem_cons_of_mem _ hx), sec_apply1 hw, if_neg (hn w (List.mem_cons_self ..))]
theorem sec_same {b : List (List Sec)} {v i : Nat} : ∀ {l : List api_Write} {im : List (List Sec)}, ¬ sizesE (szs im) ≠ 0 → (∀ w ∈ l, fitE (szs im) w = 0) → (∀ w ∈ l, covW w v i → ix w.Data ((i : Int) - w.Start) = sec b v i) → (∃ w ∈ l, covW w v i) ∨ sec im v i = sec b v i → sec (appL im l) v i = sec b v i := by
  intro l
  induction l with
  | nil =>
    intro im _ _ _ h
    rcases h with ⟨w, hw, _⟩ | h
    · exact absurd hw List.not_mem_nil
    · exact h
  | cons w l ih =>
    intro im hs h hd hc
    obtain ⟨v0, s0, hw⟩ := fitW_of hs (h w (List.mem_cons_self ..))
    have e := szs_apply1 hw
    refine ih (im := apply1 im w) (by rw [e]; exact hs) (fun x hx => by rw [e]; exact h x (List.mem_cons_of_mem _ hx)) (fun x hx => hd x (List.mem_cons_of_mem _ hx)) ?_
    rw [sec_apply1 hw]
    by_cases hcw : covW w v i
    · right; rw [if_pos hcw]; exact hd w (List.mem_cons_self ..) hcw
    · rw [if_neg hcw]
      rcases hc with ⟨x, hx, hcx⟩ | hc
      · rcases List.mem_cons.1 hx with rfl | hx
        · exact absurd hcx hcw
        · exact .inl ⟨x, hx, hcx⟩
      · exact .inr hc
theorem im_ext {a b : List (List Sec)} (hs : szs a = szs b) (h : ∀ v i : Nat, v < a.length → i < (ix a (v : Int)).length → sec a v i = sec b v i) : a = b := by
  have hl : a.length = b.length := by rw [← szs_len a, ← szs_len b, hs]
  refine ext_ix hl fun v hv => ext_ix ?_ fun i hi => h v i hv hi
  have : ix (szs a) (v : Int) = ix (szs b) (v : Int) := by rw [hs]
  rw [ix_szs hv, ix_szs (by omega)] at this
  omega
theorem take_foldl {α β : Type} [Dt β] (f : α → β → α) (x : α) {l : List β} {k : Nat} (h : k < l.length) : (l.take (k + 1)).foldl f x = f ((l.take k).foldl f x) (ix l (k : Int)) := by
  rw [take_ix h, List.foldl_append]; rfl
theorem fit_small {im : List (List Sec)} (hs : ¬ sizesE (szs im) ≠ 0) : im.length ≤ 8 ∧ 1 ≤ im.length ∧ ∀ v : Nat, v < im.length → 1 ≤ (ix im (v : Int)).length ∧ (ix im (v : Int)).length ≤ 4096 := by
  obtain ⟨h1, h2, h3⟩ := sizes_ok hs
  rw [szs_len] at h1 h2 h3
  refine ⟨h1, h2, fun v hv => ?_⟩
  have := h3 v hv
  rw [ix_szs hv] at this
  omega
theorem ref07_Copy_ok {im : List (List Sec)} {Φ : List (List Sec) → Prop} (hs : ¬ sizesE (szs im) ≠ 0) (hΦ : Φ im) : ref07_Copy_W im Φ := by
  have h := fit_small hs
  refine LoopW.mapL im (fun v => v) (fun k acc rec hk hal _ hrec => ⟨fun _ => ⟨iX (by omega) (by omega), iL ?_ (by omega), iL (by simp only [List.length_append, List.length_cons, List.length_nil]; omega) (by omega), iI (by omega) (by omega), hrec⟩, fun q => absurd (by omega) q⟩) fun rec => ⟨fun q => absurd q (by simp), fun _ => by rw [List.map_id']; exact hΦ⟩
  have := (h.2.2 k hk).2
  rw [List.nil_append]; omega
theorem image_copied_ok {im : List (List Sec)} {Φ : List (List Sec) → Prop} (hs : ¬ sizesE (szs im) ≠ 0) (hΦ : Φ im) : image_copied_W im Φ := by
  have h := fit_small hs
  refine ⟨by omega, iL (by omega) (by omega), ?_⟩
  refine LoopW.mapL im (fun v => v) (fun k acc rec hk hal _ hrec => ⟨fun _ => ⟨iX (by omega) (by omega), cloneS_ok ?_ ⟨iL (by simp only [List.length_append, List.length_cons, List.length_nil]; omega) (by omega), iI (by omega) (by omega), hrec⟩⟩, fun q => absurd (by omega) q⟩) fun rec => ⟨fun q => absurd q (by simp), fun _ => by rw [List.map_id']; exact hΦ⟩
  have := (h.2.2 k hk).2
  omega
theorem ref07_Fits_ok {im : List (List Sec)} {w : api_Write} {Φ : Int → Prop} (hs : ¬ sizesE (szs im) ≠ 0) (hΦ : Φ (fitE (szs im) w)) : ref07_Fits_W im w Φ := by
  have h := fit_small hs
  exact ref07_Check_ok (by omega) ⟨fun q => absurd q hs, fun _ => ⟨szs im, ref07_SizesOf_ok (by omega) rfl, _, ref07_FitsSizes_ok hs rfl, hΦ⟩⟩
theorem ref07_Apply_ok {im : List (List Sec)} {l : List api_Write} {Φ : List (List Sec) × Int × Int → Prop} (hs : ¬ sizesE (szs im) ≠ 0) (hl : l.length ≤ 1000000) (hf : ∀ w ∈ l, fitE (szs im) w = 0) (hΦ : Φ (appL im l, 0, 0)) : ref07_Apply_W im l Φ := by
  have h := fit_small hs
  refine ref07_Check_ok (by omega) ⟨fun q => absurd q hs, fun _ => ref07_Copy_ok hs ?_⟩
  refine LoopW.up2 l.length (fun k acc => acc = appL im (l.take k)) ?_ rfl (Nat.zero_le _) rfl
  rintro k _ rec hk rfl hrec
  refine ⟨fun hlt => ⟨iX (by omega) hlt, ref07_Fits_ok hs ?_⟩, fun hge => by rw [List.take_of_length_le (by omega)]; exact hΦ⟩
  have hm := ix_mem (iX (show (0 : Int) ≤ (k : Int) by omega) hlt)
  have h0 := hf _ hm
  refine ⟨fun q => absurd h0 q, fun _ => ?_⟩
  obtain ⟨v, s, hw⟩ := fitW_of hs h0
  have hz := szs_appL hs (l := l.take k) fun w hw' => hf w (List.mem_of_mem_take hw')
  have hvl : v < (appL im (l.take k)).length := by rw [← szs_len, hz]; exact hw.hv
  have hrow : ((ix (appL im (l.take k)) (v : Int)).length : Int) = ix (szs im) (v : Int) := by rw [← ix_szs hvl, hz]
  have hle := hw.le
  have htop := hw.top
  have ev := hw.vol
  have es := hw.start
  have happ : appL im (l.take (k + 1)) = apply1 (appL im (l.take k)) (ix l (k : Int)) := by unfold appL; exact take_foldl _ _ (by omega)
  have hap1 : apply1 (appL im (l.take k)) (ix l (k : Int)) = put (appL im (l.take k)) (v : Int) (paste (ix (appL im (l.take k)) (v : Int)) (s : Int) (ix l (k : Int)).Data) := by unfold apply1; rw [ev, es]
  generalize appL im (l.take k) = X at hvl hrow happ hap1 ⊢
  refine LoopW.up2 (ix l (k : Int)).Data.length (fun m acc => acc = put X (v : Int) (paste (ix X (v : Int)) (s : Int) ((ix l (k : Int)).Data.take m))) ?_ rfl (Nat.zero_le _) ?_
  · rintro m _ rec2 hm2 rfl hrec2
    have hpl : (put X (v : Int) (paste (ix X (v : Int)) (s : Int) ((ix l (k : Int)).Data.take m))).length = X.length := put_len _ _ _
    have hix : ix (put X (v : Int) (paste (ix X (v : Int)) (s : Int) ((ix l (k : Int)).Data.take m))) (v : Int) = paste (ix X (v : Int)) (s : Int) ((ix l (k : Int)).Data.take m) := ix_put_self _ (iX (by omega) (by omega))
    have hpr : (paste (ix X (v : Int)) (s : Int) ((ix l (k : Int)).Data.take m)).length = (ix X (v : Int)).length := paste_len' (by omega)
    unfold ref07_Apply_L2
    rw [ev, es]
    refine ⟨fun hmlt => ⟨iX (by omega) (by omega), iI (by omega) (by omega), iX (by omega) hmlt, iX (by omega) (by rw [hix, hpr]; omega), iI (by omega) (by omega), hrec2 _ (by omega) ?_⟩, fun hmge => ⟨iI (by omega) (by omega), hrec _ (by omega) ?_⟩⟩
    · rw [hix, put_put, paste_step (by omega) (by omega)]
    · rw [List.take_of_length_le (by omega), happ, hap1]
  · rw [show (ix l (k : Int)).Data.take 0 = [] from rfl, paste_nil (by omega), put_ix (iX (by omega) (by omega))]
end Go.Proofs.YtahlanamngfkcaaDoor

namespace Go.Proofs.YtahlanamngfkcaaDoor
open Go.RowKit
theorem ref02_Fits_ok {e : api_Extent} {n : Int} {Φ : Bool → Prop} (h0 : 0 ≤ n) (h1 : n ≤ 4096) (hΦ : Φ (fitsB e.Start e.Count n)) : ref02_Fits_W e n Φ := by
  refine ⟨fun q1 q2 q3 => iI (by omega) (by omega), ?_⟩
  have e1 : decide ((0 ≤ e.Start) ∧ ((0 ≤ e.Count) ∧ ((e.Start ≤ n) ∧ (e.Count ≤ (n - e.Start))))) = fitsB e.Start e.Count n := by
    rw [Bool.eq_iff_iff, decide_eq_true_iff]; exact fitsB_iff.symm
  rw [e1]; exact hΦ
theorem ref02_Copy_ok {b : api_Bitmap} {Φ : api_Bitmap → Prop} (hl : b.Words.length ≤ 1000000) (hΦ : Φ b) : ref02_Copy_W b Φ := ⟨iL (by rw [List.nil_append]; exact hl) (by omega), hΦ⟩
def setB (b : api_Bitmap) (e : api_Extent) : api_Bitmap × Int := bmOf (chR true b.Size b.Words e.Start e.Count)
theorem ref02_Set_ok {b : api_Bitmap} {e : api_Extent} {Φ : api_Bitmap × Int → Prop} (hΦ : Φ (setB b e)) : ref02_Set_W b e Φ := by
  unfold setB at hΦ
  unfold ref02_Set_W ref02_change_W
  refine ref02_Check_ok ⟨fun q => by rw [chR_form q] at hΦ; exact hΦ, fun q => ?_⟩
  have hw := chkB_len q
  refine ref02_Fits_ok hw.1 hw.2.1 ⟨fun q2 => by rw [chR_range q q2] at hΦ; exact hΦ, fun q2 => ?_⟩
  have q3 := Classical.not_not.1 q2
  rw [chR_ok q q3] at hΦ
  have hf := fitsB_iff.1 q3
  refine ref02_Copy_ok (by omega) ?_
  obtain ⟨s, hs⟩ := Int.eq_ofNat_of_zero_le hf.1
  refine LoopW.up2 (e.Start + e.Count).toNat (fun k acc => s ≤ k ∧ acc = chW true b.Words e.Start (k : Int)) ?_ (k0 := s) hs (by omega) ⟨Nat.le_refl _, by rw [chW_none true b.Words (by omega)]⟩
  rintro k _ rec hk ⟨hsk, rfl⟩ hrec
  have hl := chW_length true b.Words e.Start (k : Int)
  refine ⟨iI (by omega) (by omega), fun hlt => ⟨fun _ => ⟨⟨by omega, iI (by omega) (by omega)⟩, iX (by omega) (by omega), by omega, iI (by omega) (by omega), hrec _ (by omega) ⟨by omega, ?_⟩⟩, fun z => absurd rfl z⟩, fun hge => ?_⟩
  · refine chW_step2 true b.Words e.Start (by omega) (by omega) (by omega) ?_
    rw [opW_true, ofInt_mod, show ((k : Int) % 64).toNat = k % 64 by omega]; rfl
  · rw [show e.Start + e.Count = (k : Int) by omega] at hΦ; exact hΦ
def bitB (b : api_Bitmap) (i : Nat) : Bool := bitN b.Words i
theorem setB_ok {b : api_Bitmap} {e : api_Extent} (h : chkB b = 0) (hf : fitsB e.Start e.Count b.Size = true) : (setB b e).2 = 0 ∧ chkB (setB b e).1 = 0 ∧ (setB b e).1.Size = b.Size ∧ ∀ i : Nat, (i : Int) < b.Size → (bitB (setB b e).1 i = true ↔ bitB b i = true ∨ (e.Start ≤ (i : Int) ∧ (i : Int) < e.Start + e.Count)) := by
  have hw := chkB_len (b := b) (by simpa using h)
  have e1 : setB b e = (⟨b.Size, chW true b.Words e.Start (e.Start + e.Count)⟩, 0) := by
    unfold setB; rw [chR_ok (by simpa [chkB] using h) hf]; rfl
  rw [e1]
  refine ⟨rfl, chk_set1 h hf, rfl, fun i hi => ?_⟩
  unfold bitB
  rw [chW_bit _ _ _ _ _ (by omega)]
  by_cases hc : e.Start ≤ (i : Int) ∧ (i : Int) < e.Start + e.Count
  · rw [if_pos hc]; exact ⟨fun _ => .inr hc, fun _ => rfl⟩
  · rw [if_neg hc]; exact ⟨fun z => .inl z, fun z => z.resolve_right hc⟩
def newB (n : Int) : api_Bitmap := ⟨n, List.replicate ((n + 63) / 64).toNat 0#64⟩
theorem ref02_New_ok {n : Int} {Φ : api_Bitmap × Int → Prop} (h0 : 0 ≤ n) (h1 : n ≤ 4096) (hΦ : Φ (newB n, 0)) : ref02_New_W n Φ :=
  ⟨fun q => absurd q (by omega), fun _ => ⟨iI (by omega) (by omega), ⟨by omega, iI (by omega) (by omega)⟩, by omega, iL (by omega) (by omega), hΦ⟩⟩
theorem newB_ok {n : Int} (h0 : 0 ≤ n) (h1 : n ≤ 4096) : chkB (newB n) = 0 ∧ ∀ i, bitB (newB n) i = false := ⟨chk_new h0 h1, fun _ => bit_new⟩
theorem ref43_Clean_ok {sizes : List Int} {Φ : List api_Bitmap → Prop} (hs : ¬ sizesE sizes ≠ 0) (hΦ : Φ (sizes.map newB)) : ref43_Clean_W sizes Φ := by
  have h := sizes_ok hs
  refine LoopW.mapL sizes newB (fun k acc rec hk hal _ hrec => ⟨fun _ => ⟨iX (by omega) (by omega), ?_⟩, fun q => absurd (by omega) q⟩) fun rec => ⟨fun q => absurd q (by omega), fun _ => hΦ⟩
  have := h.2.2 k hk
  exact ref02_New_ok (by omega) (by omega) ⟨iL (by simp only [List.length_append, List.length_cons, List.length_nil]; omega) (by omega), iI (by omega) (by omega), hrec⟩
def mark1 (d : List api_Bitmap) (w : api_Write) : List api_Bitmap := put d w.Volume (setB (ix d w.Volume) ⟨w.Start, (w.Data.length : Int)⟩).1
def markL (d : List api_Bitmap) (l : List api_Write) : List api_Bitmap := l.foldl mark1 d
theorem markL_len (d : List api_Bitmap) (l : List api_Write) : (markL d l).length = d.length := by
  unfold markL
  induction l generalizing d with
  | nil => rfl
  | cons w l ih => rw [List.foldl_cons, ih]; exact put_len _ _ _
theorem ref43_Mark_ok {d : List api_Bitmap} {l : List api_Write} {Φ : List api_Bitmap → Prop} (hd : d.length ≤ 100000) (hw : ∀ b ∈ d, b.Words.length ≤ 1000000) (hl : l.length ≤ 1000000) (hv : ∀ w ∈ l, inX w.Volume d.length) (hΦ : Φ (markL d l)) : ref43_Mark_W d l Φ := by
  refine LoopW.mapL d (fun b => b) (fun k acc rec hk hal _ hrec => ⟨fun hlt => ⟨iX (by omega) hlt, ref02_Copy_ok (hw _ (ix_mem (iX (by omega) hlt))) ⟨iL (by simp only [List.length_append, List.length_cons, List.length_nil]; omega) (by omega), iI (by omega) (by omega), hrec⟩⟩, fun q => absurd (by omega) q⟩) fun rec => ⟨fun q => absurd q (by omega), fun _ => ?_⟩
  rw [List.map_id']
  refine LoopW.up2 l.length (fun k acc => acc = markL d (l.take k)) ?_ rfl (Nat.zero_le _) rfl
  rintro k _ rec hk rfl hrec
  refine ⟨fun hlt => ?_, fun hge => by rw [List.take_of_length_le (by omega)]; exact hΦ⟩
  have hx := hv _ (ix_mem (iX (show (0 : Int) ≤ (k : Int) by omega) hlt))
  refine ⟨iX (by omega) hlt, by rw [markL_len]; exact hx, _, ref02_Set_ok rfl, iI (by omega) (by omega), hrec _ (by omega) ?_⟩
  unfold markL
  rw [take_foldl _ _ (by omega)]; rfl
structure Marked (sizes : List Int) (d : List api_Bitmap) (P : Nat → Nat → Prop) : Prop where
  len : d.length = sizes.length
  chk : ∀ v : Nat, v < sizes.length → chkB (ix d (v : Int)) = 0 ∧ (ix d (v : Int)).Size = ix sizes (v : Int)
  bit : ∀ v i : Nat, v < sizes.length → (i : Int) < ix sizes (v : Int) → (bitB (ix d (v : Int)) i = true ↔ P v i)
theorem marked_clean {sizes : List Int} (hs : ¬ sizesE sizes ≠ 0) : Marked sizes (sizes.map newB) (fun _ _ => False) := by
  have h := sizes_ok hs
  have e : ∀ v : Nat, v < sizes.length → ix (sizes.map newB) (v : Int) = newB (ix sizes (v : Int)) := fun v hv => by
    rw [ix_get (by rw [List.length_map]; exact hv), List.getElem_map, ix_get hv]
  refine ⟨List.length_map _, fun v hv => ?_, fun v i hv _ => ?_⟩
  · have := h.2.2 v hv
    rw [e v hv]; exact ⟨(newB_ok (by omega) (by omega)).1, rfl⟩
  · have := h.2.2 v hv
    rw [e v hv, (newB_ok (by omega) (by omega)).2 i]; simp
theorem marked_step {sizes : List Int} {d : List api_Bitmap} {P : Nat → Nat → Prop} (h : Marked sizes d P) {w : api_Write} {v0 s0 : Nat} (hw : FitW sizes w v0 s0) : Marked sizes (mark1 d w) (fun v i => P v i ∨ covW w v i) := by
  have hv := hw.hv
  have hl := h.len
  obtain ⟨c1, c2⟩ := h.chk v0 hv
  have hle := hw.le
  have hf : fitsB w.Start (w.Data.length : Int) (ix d (v0 : Int)).Size = true := by
    rw [c2, hw.start]; exact fitsB_iff.2 ⟨by omega, by omega, by omega, by omega⟩
  obtain ⟨_, s2, s3, s4⟩ := setB_ok (e := ⟨w.Start, (w.Data.length : Int)⟩) c1 hf
  have e : ∀ v : Nat, ix (mark1 d w) (v : Int) = if v = v0 then (setB (ix d (v0 : Int)) ⟨w.Start, (w.Data.length : Int)⟩).1 else ix d (v : Int) := fun v => by
    unfold mark1; rw [hw.vol, ix_put _ _ (by omega)]
  refine ⟨(put_len _ _ _).trans hl, fun v hv' => ?_, fun v i hv' hi => ?_⟩
  · rw [e v]
    by_cases hc : v = v0
    · subst hc; rw [if_pos rfl]; exact ⟨s2, s3.trans c2⟩
    · rw [if_neg hc]; exact h.chk v hv'
  · rw [e v]
    by_cases hc : v = v0
    · subst hc
      rw [if_pos rfl, s4 i (by rw [c2]; exact hi), h.bit v i hv' hi]
      exact or_congr Iff.rfl ⟨fun q => ⟨hw.vol, q.1, q.2⟩, fun q => ⟨q.2.1, q.2.2⟩⟩
    · rw [if_neg hc, h.bit v i hv' hi]
      exact ⟨fun q => .inl q, fun q => q.resolve_right fun z => hc (by have := z.1; have := hw.vol; omega)⟩
theorem marked_list {sizes : List Int} (hs : ¬ sizesE sizes ≠ 0) : ∀ {l : List api_Write} {d : List api_Bitmap} {P : Nat → Nat → Prop}, Marked sizes d P → (∀ w ∈ l, fitE sizes w = 0) → Marked sizes (markL d l) (fun v i => P v i ∨ ∃ w ∈ l, covW w v i) := by
  intro l
  induction l with
  | nil => intro d P h _; exact ⟨h.len, h.chk, fun v i hv hi => (h.bit v i hv hi).trans ⟨.inl, fun q => q.resolve_right fun ⟨w, hw, _⟩ => absurd hw List.not_mem_nil⟩⟩
  | cons w l ih =>
    intro d P h hf
    obtain ⟨v0, s0, hw⟩ := fitW_of hs (hf w (List.mem_cons_self ..))
    have := ih (marked_step h hw) fun x hx => hf x (List.mem_cons_of_mem _ hx)
    refine ⟨this.len, this.chk, fun v i hv hi => (this.bit v i hv hi).trans ?_⟩
    constructor
    · rintro ((q | q) | ⟨x, hx, q⟩)
      · exact .inl q
      · exact .inr ⟨w, List.mem_cons_self .., q⟩
      · exact .inr ⟨x, List.mem_cons_of_mem _ hx, q⟩
    · rintro (q | ⟨x, hx, q⟩)
      · exact .inl (.inl q)
      · rcases List.mem_cons.1 hx with rfl | hx
        · exact .inl (.inr q)
        · exact .inr ⟨x, hx, q⟩
theorem image_Apply_ok {im : List (List Sec)} {l : List api_Write} {Φ : List (List Sec) × Int × Int → Prop} (hs : ¬ sizesE (szs im) ≠ 0) (hl : l.length ≤ 1000000) (hf : ∀ w ∈ l, fitE (szs im) w = 0) (hΦ : Φ (appL im l, 0, 0)) : image_Apply_W im l Φ := by
  have h := fit_small hs
  refine image_Check_ok (by omega) ⟨fun q => absurd q hs, fun _ => image_copied_ok hs ?_⟩
  refine LoopW.up2 l.length (fun k acc => acc = appL im (l.take k)) ?_ rfl (Nat.zero_le _) rfl
  rintro k _ rec hk rfl hrec
  have hz := szs_appL hs (l := l.take k) fun w hw' => hf w (List.mem_of_mem_take hw')
  refine ⟨fun hlt => ?_, fun hge => by rw [List.take_of_length_le (by omega)]; exact hΦ⟩
  have h0 := hf _ (ix_mem (iX (show (0 : Int) ≤ (k : Int) by omega) hlt))
  obtain ⟨v, s, hw⟩ := fitW_of hs h0
  have hvl : v < (appL im (l.take k)).length := by rw [← szs_len, hz]; exact hw.hv
  have hrow : ((ix (appL im (l.take k)) (v : Int)).length : Int) = ix (szs im) (v : Int) := by rw [← ix_szs hvl, hz]
  have hle := hw.le
  have htop := hw.top
  have ev := hw.vol
  have es := hw.start
  refine ⟨iX (by omega) hlt, image_fits_ok (by rw [hz]; exact hs) (by omega) ⟨fun q => ?_, fun _ => ⟨iX (by omega) (by omega), ?_, iI (by omega) (by omega), hrec _ (by omega) ?_⟩⟩⟩
  · rw [hz] at q; exact absurd h0 q
  · rw [ev]; exact iS (by omega) (by omega) (by omega)
  · unfold appL; rw [take_foldl _ _ (by omega)]; rfl
theorem cycle_Apply_ok {im : List (List Sec)} {c : api_Cycle} {Φ : List (List Sec) × Int → Prop} (hs : ¬ sizesE (szs im) ≠ 0) (hp : c.Positions.length ≤ 1000000) (hl : c.Writes.length ≤ 1000000) (hd : ∀ w ∈ c.Writes, w.Data.length ≤ 1000000) (hc : cycE c (szs im) = 0) (hf : ∀ w ∈ c.Writes, fitE (szs im) w = 0) (hΦ : Φ (appL im c.Writes, 0)) : cycle_Apply_W im c Φ := by
  have h := fit_small hs
  refine image_Check_ok (by omega) ⟨fun q => absurd q hs, fun _ => ?_⟩
  refine LoopW.mapL im (fun v => (v.length : Int)) (fun k acc rec hk hal _ hrec => ⟨fun _ => ⟨iX (by omega) (by omega), iL (by simp only [List.length_append, List.length_cons, List.length_nil]; omega) (by omega), iI (by omega) (by omega), hrec⟩, fun q => absurd (by omega) q⟩) fun rec => ⟨fun q => absurd q (by omega), fun _ => ?_⟩
  exact cycle_Check_ok hp hl hd ⟨fun q => absurd hc q, fun _ => image_Apply_ok hs hl hf hΦ⟩
end Go.Proofs.YtahlanamngfkcaaDoor

namespace Go.Proofs.YtahlanamngfkcaaDoor
open Go.RowKit
structure Sides (im : List (List Sec)) (A B : List api_Write) (a b : api_Point) : Prop where
  hs : ¬ sizesE (szs im) ≠ 0
  fa : ∀ w ∈ A, fitE (szs im) w = 0
  fb : ∀ w ∈ B, fitE (szs im) w = 0
  ia : a.Image = appL im A
  ib : b.Image = appL im B
  da : a.Dirty = markL ((szs im).map newB) A
  db : b.Dirty = markL ((szs im).map newB) B
  sa : 0 ≤ a.Site ∧ a.Site ≤ 1073741824
  sb : 0 ≤ b.Site ∧ b.Site ≤ 1073741824
  la : linB a.Lineage = true
  lb : linB b.Lineage = true
theorem pt_zero {im : List (List Sec)} {A : List api_Write} {p : api_Point} (hs : ¬ sizesE (szs im) ≠ 0) (fa : ∀ w ∈ A, fitE (szs im) w = 0) (ia : p.Image = appL im A) (da : p.Dirty = markL ((szs im).map newB) A) (sa : 0 ≤ p.Site ∧ p.Site ≤ 1073741824) (la : linB p.Lineage = true) :
    ptE p = 0 ∧ szs p.Image = szs im ∧ Marked (szs im) p.Dirty (fun v i => ∃ w ∈ A, covW w v i) := by
  have hz : szs p.Image = szs im := by rw [ia]; exact szs_appL hs fa
  have hm0 := marked_list hs (marked_clean hs) fa
  rw [← da] at hm0
  have hm : Marked (szs im) p.Dirty (fun v i => ∃ w ∈ A, covW w v i) := ⟨hm0.len, hm0.chk, fun v i hv hi => (hm0.bit v i hv hi).trans ⟨fun q => q.resolve_left fun z => z, .inr⟩⟩
  refine ⟨?_, hz, hm⟩
  have hl : p.Image.length = im.length := by rw [← szs_len, hz, szs_len]
  have hdl := hm.len
  rw [szs_len] at hdl
  unfold ptE
  rw [if_neg (by omega), if_neg (by rw [la]; simp), if_neg (by unfold imgE; rw [hz]; exact hs), if_neg (by omega)]
  refine firstN_zero.2 fun k hk => ?_
  have hc := hm.chk k (by rw [szs_len]; omega)
  unfold dirtyE
  rw [if_neg (by rw [hc.1]; simp), if_neg]
  rw [hc.2, ← hz, ix_szs (by omega)]; simp
section
variable {im : List (List Sec)} {A B : List api_Write} {a b : api_Point}
theorem Sides.pa (h : Sides im A B a b) : ptE a = 0 ∧ szs a.Image = szs im ∧ Marked (szs im) a.Dirty (fun v i => ∃ w ∈ A, covW w v i) := pt_zero h.hs h.fa h.ia h.da h.sa h.la
theorem Sides.pb (h : Sides im A B a b) : ptE b = 0 ∧ szs b.Image = szs im ∧ Marked (szs im) b.Dirty (fun v i => ∃ w ∈ B, covW w v i) := pt_zero h.hs h.fb h.ib h.db h.sb h.lb
theorem Sides.bet (h : Sides im A B a b) : betR a b = (marks a b, 0) := by
  unfold betR
  rw [if_neg (by rw [h.pa.1]; simp), if_neg (by rw [h.pb.1]; simp), if_neg]
  exact fun q => q (decide_eq_true (by rw [h.pa.2.1, h.pb.2.1]))
theorem Sides.fit (h : Sides im A B a b) : Fit a b := fit_of h.pa.1 h.pb.1 (decide_eq_true (by rw [h.pa.2.1, h.pb.2.1]))
theorem Sides.len (h : Sides im A B a b) : a.Image.length = im.length ∧ b.Image.length = im.length := by
  rw [← szs_len a.Image, ← szs_len b.Image, h.pa.2.1, h.pb.2.1, szs_len]; exact ⟨rfl, rfl⟩
theorem Sides.within (h : Sides im A B a b) : Within b.Image (marks a b) := (betR_zero (a := a) (b := b) (by rw [h.bet]; simp)).2.2.2.2.2
def orW (a b : api_Point) (v : Nat) : List (BitVec 64) := List.zipWith (fun x y => x ||| y) (ix a.Dirty (v : Int)).Words (ix b.Dirty (v : Int)).Words
def esV (a b : api_Point) (v : Nat) : List (Int × Int) := extsK (orW a b v) (ix a.Image (v : Int)).length
theorem Sides.marksV (h : Sides im A B a b) {v : Nat} (hv : v < im.length) : ix (marks a b) (v : Int) = (esV a b v).map toX := by
  have hl := h.len
  have hf := h.fit
  have hda := hf.da
  rw [ix_get (by rw [(marks_len a b).1]; omega)]
  unfold marks
  rw [List.getElem_map, List.getElem_range]
  unfold markK exts
  obtain ⟨h1, h2⟩ := hf.or (show v < a.Image.length by omega)
  rw [h1, extR_ok (k := (ix a.Image (v : Int)).length) (by simpa using h2) (by have := (hf.ca v (by omega)).2; simp only; omega)]; rfl
theorem Sides.bits (h : Sides im A B a b) {v i : Nat} (hv : v < im.length) (hi : i < (ix im (v : Int)).length) : bitN (orW a b v) i = true ↔ (∃ w ∈ A, covW w v i) ∨ ∃ w ∈ B, covW w v i := by
  have ha := h.pa.2.2
  have hb := h.pb.2.2
  have hv' : v < (szs im).length := by rw [szs_len]; exact hv
  have hi' : (i : Int) < ix (szs im) (v : Int) := by rw [ix_szs hv]; omega
  have ca := chkB_len (b := ix a.Dirty (v : Int)) (by rw [(ha.chk v hv').1]; simp)
  have cb := chkB_len (b := ix b.Dirty (v : Int)) (by rw [(hb.chk v hv').1]; simp)
  have za := (ha.chk v hv').2
  have zb := (hb.chk v hv').2
  unfold orW
  rw [bit_or (by omega) (by omega), Bool.or_eq_true]
  exact or_congr (ha.bit v i hv' hi') (hb.bit v i hv' hi')
theorem Sides.size (h : Sides im A B a b) {v : Nat} (hv : v < im.length) : (ix a.Image (v : Int)).length = (ix im (v : Int)).length ∧ (ix b.Image (v : Int)).length = (ix im (v : Int)).length := by
  have hl := h.len
  have e1 := ix_szs (a := a.Image) (k := v) (by omega)
  have e2 := ix_szs (a := b.Image) (k := v) (by omega)
  have e3 := ix_szs (a := im) hv
  rw [h.pa.2.1] at e1
  rw [h.pb.2.1] at e2
  omega
theorem Sides.mem (h : Sides im A B a b) {w : api_Write} : w ∈ cont b.Image (marks a b) b.Image.length ↔ ∃ v, v < im.length ∧ ∃ e ∈ esV a b v, w = ⟨(v : Int), e.1, sub (ix b.Image (v : Int)) e.1 (e.1 + e.2)⟩ := by
  have hl := h.len
  unfold cont contV
  rw [List.mem_flatMap]
  constructor
  · rintro ⟨v, hv, hw⟩
    have hv' : v < im.length := by have := List.mem_range.1 hv; omega
    obtain ⟨i, hi, rfl⟩ := List.mem_map.1 hw
    have hi' := List.mem_range.1 hi
    rw [h.marksV hv', List.length_map] at hi'
    refine ⟨v, hv', (esV a b v)[i], List.getElem_mem hi', ?_⟩
    unfold wrK
    rw [h.marksV hv', ix_toX, List.getD_eq_getElem?_getD, List.getElem?_eq_getElem hi']
    rfl
  · rintro ⟨v, hv, e, he, rfl⟩
    obtain ⟨i, hi, rfl⟩ := List.getElem_of_mem he
    refine ⟨v, List.mem_range.2 (by omega), List.mem_map.2 ⟨i, List.mem_range.2 (by rw [h.marksV hv, List.length_map]; exact hi), ?_⟩⟩
    unfold wrK
    rw [h.marksV hv, ix_toX, List.getD_eq_getElem?_getD, List.getElem?_eq_getElem hi]
    rfl
theorem Sides.ex (h : Sides im A B a b) {v : Nat} (hv : v < im.length) : ExOk (esV a b v) ((ix im (v : Int)).length : Int) ∧ ∀ j : Nat, cov (esV a b v) (j : Int) ↔ j < (ix im (v : Int)).length ∧ bitN (orW a b v) j = true := by
  have := extsK_ok (orW a b v) (ix a.Image (v : Int)).length
  rw [(h.size hv).1] at this
  unfold esV
  rw [(h.size hv).1]
  exact this
theorem Sides.dlen (h : Sides im A B a b) {v : Nat} (hv : v < im.length) {e : Int × Int} (he : e ∈ esV a b v) : ((sub (ix b.Image (v : Int)) e.1 (e.1 + e.2)).length : Int) = e.2 ∧ 0 ≤ e.1 ∧ 1 ≤ e.2 ∧ e.1 + e.2 ≤ ((ix im (v : Int)).length : Int) := by
  have := (h.ex hv).1.each e he
  have hz := (h.size hv).2
  rw [sub_len (iS (by omega) (by omega) (by omega))]
  omega
theorem Sides.fits (h : Sides im A B a b) : ∀ w ∈ cont b.Image (marks a b) b.Image.length, fitE (szs im) w = 0 := by
  intro w hw
  obtain ⟨v, hv, e, he, rfl⟩ := h.mem.1 hw
  obtain ⟨d1, d2, d3, d4⟩ := h.dlen hv he
  have h4 := (fit_small h.hs).2.2 v hv
  obtain ⟨s, hs⟩ := Int.eq_ofNat_of_zero_le d2
  exact fitE_of (v := v) (s := s) ⟨rfl, hs, by rw [szs_len]; exact hv, by simp only; omega, by rw [ix_szs hv]; simp only; omega, by rw [ix_szs hv]; omega⟩
theorem Sides.covers (h : Sides im A B a b) {v i : Nat} (hv : v < im.length) (hi : i < (ix im (v : Int)).length) : (∃ w ∈ cont b.Image (marks a b) b.Image.length, covW w v i) ↔ (∃ w ∈ A, covW w v i) ∨ ∃ w ∈ B, covW w v i := by
  rw [← h.bits hv hi]
  constructor
  · rintro ⟨w, hw, hc⟩
    obtain ⟨v', hv', e, he, rfl⟩ := h.mem.1 hw
    have e1 : v' = v := by have := hc.1; simp only at this; omega
    subst e1
    have hd := (h.dlen hv he).1
    exact (((h.ex hv).2 i).1 ⟨e, he, hc.2.1, by have := hc.2.2; simp only at this; omega⟩).2
  · intro hb
    obtain ⟨e, he, h1, h2⟩ := ((h.ex hv).2 i).2 ⟨hi, hb⟩
    have hd := (h.dlen hv he).1
    exact ⟨_, h.mem.2 ⟨v, hv, e, he, rfl⟩, rfl, h1, by simp only; omega⟩
theorem ix_sub {α : Type} [Dt α] {xs : List α} {lo hi i : Nat} (h1 : lo ≤ i) (h2 : i < hi) : ix (sub xs (lo : Int) (hi : Int)) ((i : Int) - (lo : Int)) = ix xs (i : Int) := by
  show (sub xs (lo : Int) (hi : Int)).getD ((i : Int) - (lo : Int)).toNat default = xs.getD i default
  unfold sub
  rw [List.getD_eq_getElem?_getD, List.getD_eq_getElem?_getD, List.getElem?_take_of_lt (by omega), List.getElem?_drop]
  congr 2
  omega
theorem Sides.agree (h : Sides im A B a b) {v i : Nat} (hv : v < im.length) : ∀ w ∈ cont b.Image (marks a b) b.Image.length, covW w v i → ix w.Data ((i : Int) - w.Start) = sec b.Image v i := by
  intro w hw hc
  obtain ⟨v', hv', e, he, rfl⟩ := h.mem.1 hw
  have e1 : v' = v := by have := hc.1; simp only at this; omega
  subst e1
  obtain ⟨d1, d2, d3, d4⟩ := h.dlen hv he
  have hz := (h.size hv).2
  have c1 := hc.2.1
  have c2 := hc.2.2
  simp only at c1 c2 ⊢
  obtain ⟨s, hs⟩ := Int.eq_ofNat_of_zero_le d2
  obtain ⟨t, ht⟩ := Int.eq_ofNat_of_zero_le (show 0 ≤ e.1 + e.2 by omega)
  rw [ht, hs]
  exact ix_sub (by omega) (by omega)
def befW (x y : api_Write) : Prop := x.Volume < y.Volume ∨ (x.Volume = y.Volume ∧ x.Start + (x.Data.length : Int) < y.Start)
theorem Sides.rise (h : Sides im A B a b) : (cont b.Image (marks a b) b.Image.length).Pairwise befW := by
  have hl := h.len
  have wrk : ∀ v : Nat, v < im.length → ∀ (i : Nat) (hi : i < (esV a b v).length), wrK b.Image (marks a b) v i = ⟨(v : Int), (esV a b v)[i].1, sub (ix b.Image (v : Int)) (esV a b v)[i].1 ((esV a b v)[i].1 + (esV a b v)[i].2)⟩ := by
    intro v hv i hi
    unfold wrK
    rw [h.marksV hv, ix_toX, List.getD_eq_getElem?_getD, List.getElem?_eq_getElem hi]; rfl
  unfold cont
  rw [List.pairwise_flatMap]
  refine ⟨fun v hv => ?_, ?_⟩
  · have hv' : v < im.length := by have := List.mem_range.1 hv; omega
    unfold contV
    rw [List.pairwise_map]
    refine (List.pairwise_lt_range (n := (ix (marks a b) (v : Int)).length)).imp_of_mem fun {i j} hi hj hij => ?_
    have hi' := List.mem_range.1 hi
    have hj' := List.mem_range.1 hj
    rw [h.marksV hv', List.length_map] at hi' hj'
    rw [wrk v hv' i hi', wrk v hv' j hj']
    have := List.pairwise_iff_getElem.1 (h.ex hv').1.apart i j hi' hj' hij
    have hd := (h.dlen hv' (List.getElem_mem hi')).1
    exact .inr ⟨rfl, by simp only; omega⟩
  · refine (List.pairwise_lt_range (n := b.Image.length)).imp_of_mem fun {v u} _ _ hvu x hx y hy => ?_
    unfold contV at hx hy
    obtain ⟨i, _, rfl⟩ := List.mem_map.1 hx
    obtain ⟨j, _, rfl⟩ := List.mem_map.1 hy
    exact .inl (by show (v : Int) < (u : Int); omega)
theorem wrs_zero {sizes : List Int} {l : List api_Write} (hf : ∀ w ∈ l, fitE sizes w = 0) (hr : l.Pairwise befW) : wrsE sizes l = 0 := by
  refine firstN_zero.2 fun k hk => ?_
  have h0 := hf _ (ix_mem (iX (show (0 : Int) ≤ (k : Int) by omega) (by omega)))
  unfold wrE
  rw [if_neg (by rw [h0]; simp)]
  by_cases hz : k = 0
  · rw [if_pos hz]
  · rw [if_neg hz, if_neg]
    have := List.pairwise_iff_getElem.1 hr (k - 1) k (by omega) hk (by omega)
    unfold orderB
    rw [show (k : Int) - 1 = ((k - 1 : Nat) : Int) by omega, ix_get hk, ix_get (show k - 1 < l.length by omega)]
    unfold befW at this
    omega
theorem Sides.cyc (h : Sides im A B a b) {n t : Int} {ps : List Int} (hn : (ancR a.Lineage b.Lineage).1 < n) (h0 : 0 ≤ (ancR a.Lineage b.Lineage).1) (hn2 : lastTo b.Lineage ≤ n) (hn3 : n ≤ 1073741824) (ht : 0 ≤ t ∧ t ≤ 1073741824) (hp : posE ps = 0) :
    cycR a b n t ps = (⟨(ancR a.Lineage b.Lineage).1, n, t, ps, cont b.Image (marks a b) b.Image.length⟩, 0) ∧ cycE ⟨(ancR a.Lineage b.Lineage).1, n, t, ps, cont b.Image (marks a b) b.Image.length⟩ (szs im) = 0 := by
  have e : cycE ⟨(ancR a.Lineage b.Lineage).1, n, t, ps, cont b.Image (marks a b) b.Image.length⟩ (szs im) = 0 := by
    unfold cycE
    rw [if_neg h.hs, if_neg (by simp only; omega), if_neg (by simp only; omega), if_neg (by rw [hp]; simp)]
    exact wrs_zero h.fits h.rise
  refine ⟨?_, e⟩
  have hc : cycOf a b n t ps = ⟨(ancR a.Lineage b.Lineage).1, n, t, ps, cont b.Image (marks a b) b.Image.length⟩ := by unfold cycOf; rw [h.bet]
  unfold cycR
  rw [h.bet, if_neg (by simp), if_neg (by omega), hc, h.pb.2.1, if_neg (by rw [e]; simp)]
theorem Sides.app (h : Sides im A B a b) {x : List (List Sec)} (hx : szs x = szs im) (hu : ∀ v i : Nat, v < im.length → i < (ix im (v : Int)).length → ¬ ((∃ w ∈ A, covW w v i) ∨ ∃ w ∈ B, covW w v i) → sec x v i = sec im v i) : appL x (cont b.Image (marks a b) b.Image.length) = b.Image := by
  have hfx : ∀ w ∈ cont b.Image (marks a b) b.Image.length, fitE (szs x) w = 0 := by rw [hx]; exact h.fits
  have hsx : ¬ sizesE (szs x) ≠ 0 := by rw [hx]; exact h.hs
  have hz := szs_appL hsx hfx
  have hxl : x.length = im.length := by rw [← szs_len, hx, szs_len]
  have hal : (appL x (cont b.Image (marks a b) b.Image.length)).length = im.length := by rw [← szs_len, hz, szs_len, hxl]
  refine im_ext (by rw [hz, hx, h.pb.2.1]) fun v i hv hi => ?_
  rw [hal] at hv
  have hrow : (ix (appL x (cont b.Image (marks a b) b.Image.length)) (v : Int)).length = (ix im (v : Int)).length := by
    have e1 := ix_szs (a := appL x (cont b.Image (marks a b) b.Image.length)) (k := v) (by omega)
    have e2 := ix_szs (a := im) hv
    rw [hz, hx] at e1
    omega
  rw [hrow] at hi
  refine sec_same hsx hfx (h.agree hv) ?_
  by_cases hm : (∃ w ∈ A, covW w v i) ∨ ∃ w ∈ B, covW w v i
  · exact .inl ((h.covers hv hi).2 hm)
  · right
    rw [hu v i hv hi hm, h.ib, sec_none h.hs h.fb fun w hw hc => hm (.inr ⟨w, hw, hc⟩)]
end
end Go.Proofs.YtahlanamngfkcaaDoor

namespace Go.Proofs.YtahlanamngfkcaaDoor
open Go.RowKit
theorem law47_small_ok {l : List api_Write} {Φ : Bool → Prop} (hF : Φ false) (hT : l.length ≤ 12 → (∀ w ∈ l, w.Data.length ≤ 20) → Φ true) (hl : l.length ≤ maxLen) : law47_small_W l Φ := by
  simp only [maxLen] at hl
  refine LoopW.up l.length (fun k => ∀ j : Nat, j < k → (ix l (j : Int)).Data.length ≤ 20) ?_ (k0 := 0) rfl (Nat.zero_le _) (fun j hj => absurd hj (Nat.not_lt_zero j))
  intro k rec hk hI hrec
  refine ⟨fun hlt => ⟨iX (by omega) hlt, fun _ => hF, fun q => ⟨iI (by omega) (by omega), hrec (by omega) fun j hj => ?_⟩⟩, fun hge => ?_⟩
  · rcases Nat.lt_or_ge j k with h | h
    · exact hI j h
    · have : j = k := by omega
      subst this; omega
  · by_cases h12 : (l.length : Int) ≤ 12
    · rw [decide_eq_true h12]
      refine hT (by omega) fun w hw => ?_
      obtain ⟨i, hi, rfl⟩ := List.getElem_of_mem hw
      have := hI i (by omega)
      rwa [ix_get hi] at this
    · rw [decide_eq_false h12]; exact hF
def fitL (im : List (List Sec)) (l : List api_Write) : List api_Write := (l.take 8).filter fun w => decide (fitE (szs im) w = 0)
theorem fitL_ok (im : List (List Sec)) (l : List api_Write) : (fitL im l).length ≤ 8 ∧ ∀ w ∈ fitL im l, fitE (szs im) w = 0 := by
  refine ⟨?_, fun w hw => of_decide_eq_true (List.mem_filter.1 hw).2⟩
  have h1 := List.length_filter_le (fun w => decide (fitE (szs im) w = 0)) (l.take 8)
  have h2 : (l.take 8).length ≤ 8 := by rw [List.length_take]; omega
  exact Nat.le_trans h1 h2
theorem law47_fitting_ok {im : List (List Sec)} {l : List api_Write} {Φ : List api_Write → Prop} (hs : ¬ sizesE (szs im) ≠ 0) (hΦ : Φ (fitL im l)) : law47_fitting_W im l Φ := by
  refine LoopW.up2 (min l.length 8) (fun k r => r = (l.take k).filter fun w => decide (fitE (szs im) w = 0)) ?_ rfl (Nat.zero_le _) rfl
  rintro k _ rec hk rfl hrec
  have hle : ((l.take k).filter fun w => decide (fitE (szs im) w = 0)).length ≤ k := by
    have h1 := List.length_filter_le (fun w => decide (fitE (szs im) w = 0)) (l.take k)
    rw [List.length_take] at h1; omega
  refine ⟨fun hlt => ⟨iX (by omega) hlt.1, ref07_Fits_ok hs ⟨fun q => ⟨iL (by simp only [List.length_append, List.length_cons, List.length_nil]; omega) (by omega), iI (by omega) (by omega), hrec _ (by omega) ?_⟩, fun q => ⟨iI (by omega) (by omega), hrec _ (by omega) ?_⟩⟩⟩, fun hge => ?_⟩
  · rw [take_ix (show k < l.length by omega), List.filter_append]; simp [q]
  · rw [take_ix (show k < l.length by omega), List.filter_append]; simp [q]
  · have e : l.take k = l.take 8 := by
      rcases Nat.lt_or_ge l.length 8 with h | h
      · rw [List.take_of_length_le (by omega), List.take_of_length_le (by omega)]
      · rw [show k = 8 by omega]
    rw [e]; exact hΦ
theorem ref07_New_ok {sizes : List Int} {Φ : List (List Sec) × Int → Prop} (hs : ¬ sizesE sizes ≠ 0) (hΦ : Φ (zeroIm sizes, 0)) : ref07_New_W sizes Φ := by
  have h := sizes_ok hs
  refine ref07_Sizes_ok ⟨fun q => absurd q hs, fun _ => LoopW.mapL sizes (fun n => List.replicate n.toNat sec0) (fun k acc rec hk hal _ hrec => ⟨fun _ => ?_, fun q => absurd (by omega) q⟩) fun rec => ⟨fun q => absurd q (by omega), fun _ => hΦ⟩⟩
  have := h.2.2 k hk
  exact ⟨iX (by omega) (by omega), by omega, iL (by omega) (by omega), iL (by simp only [List.length_append, List.length_cons, List.length_nil]; omega) (by omega), iI (by omega) (by omega), hrec⟩
theorem sizes2_ok {m : Int} (h1 : 1 ≤ m) (h2 : m ≤ 4096) : ¬ sizesE [m, 4] ≠ 0 := by
  intro h
  apply h
  unfold sizesE
  rw [if_neg (by simp)]
  refine firstN_zero.2 fun k hk => if_neg ?_
  have hk2 : k < 2 := hk
  rcases (show k = 0 ∨ k = 1 by omega) with rfl | rfl
  · show ¬ (m < 1 ∨ 4096 < m); omega
  · show ¬ ((4 : Int) < 1 ∨ (4096 : Int) < 4); omega
def imOf (x : BitVec 8) : List (List Sec) := zeroIm [1 + ((x.toNat : Int) % 12), 4]
theorem imOf_ok (x : BitVec 8) : ¬ sizesE (szs (imOf x)) ≠ 0 := by
  have hs := sizes2_ok (m := 1 + ((x.toNat : Int) % 12)) (by omega) (by omega)
  unfold imOf
  rw [szs_zero hs]; exact hs
theorem law47_image_ok {x : BitVec 8} {Φ : List (List Sec) → Prop} (hΦ : Φ (imOf x)) : law47_image_W x Φ := by
  have hs := sizes2_ok (m := 1 + ((x.toNat : Int) % 12)) (by omega) (by omega)
  refine ⟨by omega, iI (by omega) (by omega), ref07_New_ok hs hΦ⟩
def ptOf (site : Int) (lin : List api_Span) (im : List (List Sec)) (l : List api_Write) : api_Point := ⟨site, lin, markL ((szs im).map newB) l, appL im l⟩
theorem law47_point_ok {im : List (List Sec)} {site : Int} {lin : List api_Span} {l : List api_Write} {Φ : api_Point → Prop} (hs : ¬ sizesE (szs im) ≠ 0) (hl : l.length ≤ 1000000) (hf : ∀ w ∈ l, fitE (szs im) w = 0) (hΦ : Φ (ptOf site lin im l)) : law47_point_W site im lin l Φ := by
  have h := fit_small hs
  refine ref07_Apply_ok hs hl hf (ref07_SizesOf_ok (by omega) (ref43_Clean_ok hs (ref43_Mark_ok ?_ ?_ hl ?_ hΦ)))
  · rw [List.length_map, szs_len]; omega
  · intro b hb
    obtain ⟨n, hn, rfl⟩ := List.mem_map.1 hb
    obtain ⟨i, hi, rfl⟩ := List.getElem_of_mem hn
    have := (sizes_ok hs).2.2 i hi
    rw [ix_get hi] at this
    show (List.replicate _ _).length ≤ _
    rw [List.length_replicate]; omega
  · intro w hw
    obtain ⟨v, s, hfw⟩ := fitW_of hs (hf w hw)
    rw [List.length_map, hfw.vol]
    exact iX (by omega) (by have := hfw.hv; omega)
theorem lin_one {n : Nat} (h : n < 5) : linB [⟨1, 1, 1 + (n : Int) + 1⟩] = true ∧ linB [⟨1, 1, 1 + (n : Int)⟩, ⟨3, 1 + (n : Int) + 1, 1 + (n : Int) + 2⟩] = true ∧ ancR [⟨1, 1, 1 + (n : Int) + 1⟩] [⟨1, 1, 1 + (n : Int)⟩, ⟨3, 1 + (n : Int) + 1, 1 + (n : Int) + 2⟩] = (1 + (n : Int), 1) ∧ lastTo [⟨1, 1, 1 + (n : Int)⟩, ⟨3, 1 + (n : Int) + 1, 1 + (n : Int) + 2⟩] = 1 + (n : Int) + 2 := by
  rcases (show n = 0 ∨ n = 1 ∨ n = 2 ∨ n = 3 ∨ n = 4 by omega) with rfl | rfl | rfl | rfl | rfl <;> decide
def linA (n : Int) : List api_Span := [⟨1, 1, n + 1⟩]
def linC (n : Int) : List api_Span := [⟨1, 1, n⟩, ⟨3, n + 1, n + 2⟩]
def nOf (x : BitVec 8) : Int := 1 + ((x % (5#8)).toNat : Int)
def sideA (im : List (List Sec)) (l : List api_Write) (x : BitVec 8) : api_Point := ptOf 0 (linA (nOf x)) im (fitL im l)
def sideB (im : List (List Sec)) (l : List api_Write) (x : BitVec 8) : api_Point := ptOf 1 (linC (nOf x)) im (fitL im l)
theorem lins (x : BitVec 8) : linB (linA (nOf x)) = true ∧ linB (linC (nOf x)) = true ∧ ancR (linA (nOf x)) (linC (nOf x)) = (nOf x, 1) ∧ lastTo (linC (nOf x)) = nOf x + 2 ∧ 1 ≤ nOf x ∧ nOf x ≤ 5 := by
  have hx : (x % (5#8)).toNat < 5 := by rw [BitVec.toNat_umod]; exact Nat.mod_lt _ (by decide)
  obtain ⟨l1, l2, l3, l4⟩ := lin_one hx
  exact ⟨l1, l2, l3, l4, by unfold nOf; omega, by unfold nOf; omega⟩
theorem law47_sides_ok {im : List (List Sec)} {A B : List api_Write} {x : BitVec 8} {Φ : api_Point × api_Point → Prop} (hs : ¬ sizesE (szs im) ≠ 0) (hΦ : Φ (sideA im A x, sideB im B x)) : law47_sides_W im A B x Φ := by
  have hx : (x % (5#8)).toNat < 5 := by rw [BitVec.toNat_umod]; exact Nat.mod_lt _ (by decide)
  have fa := fitL_ok im A
  have fb := fitL_ok im B
  exact ⟨iI (by omega) (by omega), iI (by omega) (by omega), law47_fitting_ok hs (law47_point_ok hs (by omega) fa.2 ⟨iI (by omega) (by omega), law47_fitting_ok hs (law47_point_ok hs (by omega) fb.2 hΦ)⟩)⟩
theorem sides_of {im : List (List Sec)} (A B : List api_Write) (x : BitVec 8) (hs : ¬ sizesE (szs im) ≠ 0) : Sides im (fitL im A) (fitL im B) (sideA im A x) (sideB im B x) := by
  obtain ⟨l1, l2, _⟩ := lins x
  exact ⟨hs, (fitL_ok im A).2, (fitL_ok im B).2, rfl, rfl, rfl, rfl, ⟨show (0 : Int) ≤ 0 by omega, show (0 : Int) ≤ 1073741824 by omega⟩, ⟨show (0 : Int) ≤ 1 by omega, show (1 : Int) ≤ 1073741824 by omega⟩, l1, l2⟩
theorem ref07_Same_refl {a : List (List Sec)} {Φ : Bool → Prop} (hs : ¬ sizesE (szs a) ≠ 0) (hΦ : Φ true) : ref07_Same_W a a Φ := by
  have h := fit_small hs
  have hv : ∀ {r : List Sec} {Ψ : Bool → Prop}, r.length ≤ 1000000 → Ψ true → ref07_SameVolume_W r r Ψ := fun {r Ψ} hr hΨ => by
    refine ⟨fun q => absurd rfl q, fun _ => LoopW.up r.length (fun _ => True) ?_ (k0 := 0) rfl (Nat.zero_le _) trivial⟩
    intro k rec hk _ hrec
    exact ⟨fun hlt => ⟨iX (by omega) hlt, iX (by omega) hlt, fun q => absurd rfl q, fun _ => ⟨iI (by omega) (by omega), hrec (by omega) trivial⟩⟩, fun _ => hΨ⟩
  refine ⟨fun q => absurd rfl q, fun _ => LoopW.up a.length (fun _ => True) ?_ (k0 := 0) rfl (Nat.zero_le _) trivial⟩
  intro k rec hk _ hrec
  refine ⟨fun hlt => ⟨iX (by omega) hlt, iX (by omega) hlt, true, hv ?_ rfl, fun q => absurd rfl q, fun _ => ⟨iI (by omega) (by omega), hrec (by omega) trivial⟩⟩, fun _ => hΦ⟩
  have := (h.2.2 k (by omega)).2
  omega
theorem Sides.small {im : List (List Sec)} {A B : List api_Write} {a b : api_Point} (h : Sides im A B a b) : (cont b.Image (marks a b) b.Image.length).length ≤ 1000000 ∧ (∀ w ∈ cont b.Image (marks a b) b.Image.length, w.Data.length ≤ 1000000) ∧ a.Image.length ≤ 100000 ∧ b.Image.length ≤ 100000 ∧ ¬ sizesE (szs a.Image) ≠ 0 ∧ ¬ sizesE (szs b.Image) ≠ 0 := by
  have hl := h.len
  have h8 := (fit_small h.hs).1
  have := cont_len h.within (n := b.Image.length) (Nat.le_refl _)
  exact ⟨by omega, cont_data h.within (Nat.le_refl _), by omega, by omega, by rw [h.pa.2.1]; exact h.hs, by rw [h.pb.2.1]; exact h.hs⟩
theorem reverseRestores_law (x y : BitVec 8) (w : Arr2_api_Write) (hw : Rg.rg w) : law47_ReverseRestores_W x y w fun v => v = true := by
  refine law47_small_ok ⟨fun _ => law47_awake_ok rfl, fun q => absurd (by simp) q⟩ (fun _ _ => ⟨fun q => absurd rfl q, fun _ => law47_small_ok ⟨fun _ => law47_awake_ok rfl, fun q => absurd (by simp) q⟩ (fun _ _ => ⟨fun q => absurd rfl q, fun _ => ?_⟩) hw.2.1⟩) hw.1.1
  have hs := imOf_ok x
  refine ⟨imOf x, law47_image_ok rfl, (sideA (imOf x) w.e0 y, sideB (imOf x) w.e1 y), law47_sides_ok hs rfl, ?_⟩
  have h := sides_of w.e0 w.e1 y hs
  obtain ⟨l1, l2, l3, l4, n1, n2⟩ := lins y
  obtain ⟨s1, s2, s3, s4, s5, s6⟩ := h.small
  have hp : posE [4] = 0 := by decide
  have hn : 1 + ((y % (5#8)).toNat : Int) = nOf y := rfl
  rw [hn]
  obtain ⟨c1, c2⟩ := h.cyc (n := nOf y + 2) (t := 9) (ps := [4]) (by show (ancR (linA (nOf y)) (linC (nOf y))).1 < _; rw [l3]; simp only; omega) (by show 0 ≤ (ancR (linA (nOf y)) (linC (nOf y))).1; rw [l3]; simp only; omega) (by show lastTo (linC (nOf y)) ≤ _; rw [l4]; omega) (by omega) ⟨by omega, by omega⟩ hp
  have hbase : (ancR (sideA (imOf x) w.e0 y).Lineage (sideB (imOf x) w.e1 y).Lineage).1 = nOf y := by show (ancR (linA (nOf y)) (linC (nOf y))).1 = _; rw [l3]
  have happ := h.app (x := (sideA (imOf x) w.e0 y).Image) h.pa.2.1 fun v i _ _ hm => by
    rw [h.ia]; exact sec_none hs h.fa fun u hu hc => hm (.inl ⟨u, hu, hc⟩)
  refine ⟨iI (by omega) (by omega), iI (by omega) (by omega), reverse_Cycle_ok (by show (linA (nOf y)).length ≤ _; exact Nat.le_of_ble_eq_true rfl) (by show (linC (nOf y)).length ≤ _; exact Nat.le_of_ble_eq_true rfl) s3 s4 (by decide) ?_⟩
  rw [c1]
  refine cycle_Apply_ok s5 (show ([4] : List Int).length ≤ 1000000 by decide) s1 s2 (by rw [h.pa.2.1]; exact c2) (by rw [h.pa.2.1]; exact h.fits) (law47_awake_ok ⟨fun _ => ⟨fun _ => ⟨fun _ => ⟨fun _ => ⟨fun _ => ?_, fun q => absurd rfl q⟩, fun q => absurd hbase q⟩, fun q => absurd rfl q⟩, fun q => absurd rfl q⟩, fun q => absurd rfl q⟩)
  show ref07_Same_W (appL _ (cont _ _ _)) _ _
  rw [happ]
  exact ref07_Same_refl s6 rfl
end Go.Proofs.YtahlanamngfkcaaDoor

namespace Go.Proofs.YtahlanamngfkcaaDoor
open Go.RowKit Go.ChangeShapes Go.WideShapes Go.ChangeAt
set_option maxRecDepth 100000 in
theorem reverseRestores_lifted (os : Os) (started : os.Started) (H : Type) (enc : TypeId × Value → H) :
    ReturnsInHanded {} Tryd.checked os 5 .any (fun w args => (Rows.reverseRestoresSpec.pre enc Tryd.prog Tryd.f5 [] false w args ∧ laidMetH Tryd.prog [("math/bits.deBruijn64tab", Rows.laid_math_bits_deBruijn64tab)] w) ∧ sizedMet enc Tryd.prog Tryd.f5 (OpenSpec.ofChange Rows.reverseRestoresSpec) false w args)
      (Rows.reverseRestoresSpec.post enc Tryd.prog Tryd.f5 false true false false) := by
  refine returnsInHanded_of_change_and (C := Tryd.checked) (X := fun w _ => laidMetH Tryd.prog [("math/bits.deBruijn64tab", Rows.laid_math_bits_deBruijn64tab)] w) (fun _ _ _ hh h => h.of_heap hh) Tryd.own started (by kernel_rfl) Tryd.func5
    (ChangeSpec.witness_shaped (enc := enc) (C := Tryd.checked) (os := os) (X := fun w _ => laidMetH Tryd.prog [("math/bits.deBruijn64tab", Rows.laid_math_bits_deBruijn64tab)] w) false (World.doorLaid Tryd.prog 14 os) #[.int .u8 0, .int .u8 0, .agg #[.slice none 0 0, .slice none 0 0]] 8 rfl (World.shaped_of_RefB (by kernel_rfl) (by kernel_rfl)) (by kernel_rfl) (by kernel_rfl) (by kernel_rfl) (Tryd.doorMet os _)) ?_
  intro W base args ds gs before hval0 hW _ _ hL _
  have hval : ∀ (j : Nat) t v, Tryd.f5.params[j]? = some t → args[j]? = some v → Value.okWide Tryd.prog W .any base t v := hval0
  have hW' := hW
  obtain ⟨p, q, hA0, hV, hpq, _, _⟩ := hW
  have hA : DataW.TrodAll enc Tryd.prog W 0 (fun _ => true) true Tryd.f5.params.toList args.toList ds p := hA0
  rw [Tryd.params5] at hA hval
  obtain ⟨v0, v1, v2, d0, d1, d2, p0, p1, p2, rfl, rfl, rfl, h0, h1, h2⟩ := trodAll_three hA
  obtain ⟨rfl, rfl⟩ := trodVars_none hV
  have hT := tabHolds hL
  obtain ⟨x0, rfl⟩ := open_u8D Tryd.underlying5 (hval 0 5 v0 rfl rfl) h0
  obtain ⟨x1, rfl⟩ := open_u8D Tryd.underlying5 (hval 1 5 v1 rfl rfl) h1
  obtain ⟨_, x2, rfl, hr2, hg2⟩ := open_arrD Tryd.underlying52 rd52 (hval 2 52 v2 rfl rfl) h2
  obtain ⟨A37, n37, c37, s37, A38, n38, c38, s38, rfl, hF37, hF38⟩ := hr2
  refine Calls.mono ((RetP.toV (y := true) (F := fun z => .bool z) (law47_ReverseRestores_lift hT x0 x1 x2 hF37 hF38 (reverseRestores_law x0 x1 x2 hg2))) W fun b o e => e) ?_
  rintro e W' ⟨v, _, rfl, _, _, _, hb, rfl⟩
  exact ⟨_, rfl, post_law Tryd.laidOut Tryd.underlying4 rfl (by kernel_rfl) hW' rfl rfl hb⟩
theorem reverseRestores_holds : Rows.ReverseRestoresSaid :=
  OpenClaim.holds_of_wide 5 Tryd.f5 rfl rfl rfl rfl rfl rfl rfl ⟨rfl, rfl, rfl, rfl, rfl⟩ rfl rfl rfl rfl rfl (by kernel_rfl) Tryd.func5 (by kernel_rfl)
    (of_decide_eq_true (by kernel_rfl)) (by unfold Func.isWrapper; first | (rw [if_pos (by decide +kernel)]; kernel_rfl) | (rw [if_neg (by decide +kernel)]; exact ⟨rfl, rfl⟩))
    (fun os started H enc _ => reverseRestores_lifted os started H enc)
theorem reverseRestores_card : Rows.ReverseRestoresCardSaid :=
  Claim7.holds_tied_plain_at .later [] [.data] true (true, "0fbea9f7a9363770ef7d7c442e923654834488058ca280ed95a31cbd94370fd7") false
    reverseRestores_holds (fun _ h => by cases h) (by kernel_rfl) (fun _ h => by cases h) reverseRestores_row_tie rfl ⟨rfl, rfl⟩ (by kernel_rfl) rfl
    (fun f fn hf hfn => by
      obtain rfl : f = 5 := Option.some.inj ((show Tryd.prog.funcNamed "standby/standbylaw47.ReverseRestores" = some 5 by kernel_rfl).symm.trans hf) |>.symm
      obtain rfl : fn = Tryd.f5 := (Option.some.inj (Tryd.func5.symm.trans hfn)).symm
      exact ⟨by kernel_rfl, fun j t ht => by
        rw [Tryd.params5] at ht
        have hm : t ∈ [5, 52] := by
          have := Array.mem_of_getElem? ht
          simpa using this
        have hall : ([5, 52].all fun u => !Tryd.prog.wantsStandIn u) = true := by kernel_rfl
        exact (show Tryd.prog.wantsStandIn t = false by simpa using List.all_eq_true.1 hall t hm)⟩)
    (by kernel_rfl)
end Go.Proofs.YtahlanamngfkcaaDoor
