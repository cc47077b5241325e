/- Proved: the tied card of the statement ConsistencyConflicts: for every argument that can be read the law returns true and leaves its arguments as they were. Conditions: the row's own alone. -/
import Derived.Lib.TrailingZeros
import Derived.Test.YtjjodmgmidbamaaM6
namespace Go.Proofs.Ytjjodmgmidbamaa
open Go.RowKit
def fullL (n k : Nat) (a b : Int) : List Int := (List.range n).map fun w : Nat => if w < k then a else b
theorem fullL_len {n k : Nat} {a b : Int} : (fullL n k a b).length = n := by unfold fullL; rw [List.length_map, List.length_range]
theorem ix_fillL {n k w : Nat} {a b : Int} (h : w < n) : ix (fullL n k a b) (w : Int) = if w < k then a else b := by
  rw [ix_get (by rw [fullL_len]; exact h)]
  unfold fullL
  rw [List.getElem_map, List.getElem_range]
theorem ix_rep {n w : Nat} {a : Int} (h : w < n) : ix (List.replicate n a) (w : Int) = a := by rw [ix_get (by rw [List.length_replicate]; exact h), List.getElem_replicate]
theorem fullL_zero {n : Nat} {a b : Int} : List.replicate n b = fullL n 0 a b := ext_ix (by rw [fullL_len, List.length_replicate]) fun j hj => by
  rw [List.length_replicate] at hj
  rw [ix_fillL hj, ix_rep hj, if_neg (Nat.not_lt_zero j)]
theorem fullL_all {n : Nat} {a b : Int} : fullL n n a b = List.replicate n a := ext_ix (by rw [fullL_len, List.length_replicate]) fun j hj => by
  rw [fullL_len] at hj
  rw [ix_fillL hj, ix_rep hj, if_pos hj]
theorem fullL_put {n k : Nat} {a b : Int} (hk : k < n) : put (fullL n k a b) (k : Int) a = fullL n (k + 1) a b := ext_ix (by rw [put_len, fullL_len, fullL_len]) fun j hj => by
  rw [put_len, fullL_len] at hj
  rw [ix_put _ _ (by rw [fullL_len]; exact hk), ix_fillL hj, ix_fillL hj]
  by_cases e : j = k
  · rw [if_pos e, if_pos (by omega)]
  · rw [if_neg e]
    by_cases q : j < k
    · rw [if_pos q, if_pos (by omega)]
    · rw [if_neg q, if_neg (by omega)]
def rowB (n k : Nat) (p : Nat → Bool) : List Bool := (List.range n).map fun w : Nat => decide (w < k) && p w
theorem rowB_len {n k : Nat} {p : Nat → Bool} : (rowB n k p).length = n := by unfold rowB; rw [List.length_map, List.length_range]
theorem ix_rowB {n k w : Nat} {p : Nat → Bool} (h : w < n) : ix (rowB n k p) (w : Int) = (decide (w < k) && p w) := by
  rw [ix_get (by rw [rowB_len]; exact h)]
  unfold rowB
  rw [List.getElem_map, List.getElem_range]
theorem rowB_zero {n : Nat} {p : Nat → Bool} : List.replicate n false = rowB n 0 p := ext_ix (by rw [rowB_len, List.length_replicate]) fun j hj => by
  rw [List.length_replicate] at hj
  rw [ix_rowB hj, ix_get (by rw [List.length_replicate]; exact hj), List.getElem_replicate]; simp
theorem rowB_put {n k : Nat} {p : Nat → Bool} {b : Bool} (hk : k < n) (e : p k = b) : rowB n (k + 1) p = put (rowB n k p) (k : Int) b := ext_ix (by rw [put_len, rowB_len, rowB_len]) fun j hj => by
  rw [rowB_len] at hj
  rw [ix_put _ _ (by rw [rowB_len]; exact hk), ix_rowB hj, ix_rowB hj]
  by_cases q : j = k
  · subst q; rw [if_pos rfl, e, decide_eq_true (Nat.lt_succ_self j), Bool.true_and]
  · rw [if_neg q]
    have : decide (j < k + 1) = decide (j < k) := decide_eq_decide.2 (by omega)
    rw [this]
def tblK (h : api_History) (k : Nat) : List (List Bool) := (List.range k).map fun a : Nat => rowB h.Writes.length h.Writes.length fun b => befP h a b
def tblH (h : api_History) : List (List Bool) := tblK h h.Writes.length
theorem tblK_len {h : api_History} {k : Nat} : (tblK h k).length = k := by unfold tblK; rw [List.length_map, List.length_range]
theorem tblK_succ {h : api_History} {k : Nat} : tblK h (k + 1) = tblK h k ++ [rowB h.Writes.length h.Writes.length fun b => befP h k b] := by unfold tblK; rw [List.range_succ, List.map_append]; rfl
theorem ix_tblH {h : api_History} {a : Nat} (ha : a < h.Writes.length) : ix (tblH h) (a : Int) = rowB h.Writes.length h.Writes.length fun b => befP h a b := by
  rw [ix_get (by unfold tblH; rw [tblK_len]; exact ha)]
  unfold tblH tblK
  rw [List.getElem_map, List.getElem_range]
theorem ix_tbl {h : api_History} {a b : Nat} (ha : a < h.Writes.length) (hb : b < h.Writes.length) : ix (ix (tblH h) (a : Int)) (b : Int) = befP h a b := by
  rw [ix_tblH ha, ix_rowB hb, decide_eq_true hb, Bool.true_and]
def ackP (h : api_History) : List Int := relL h.Events 1 h.Writes.length (-1) h.Events.length
def issP (h : api_History) : List Int := relL h.Events 0 h.Writes.length 0 h.Events.length
theorem ackP_at {h : api_History} {a : Nat} (ha : a < h.Writes.length) : ix (ackP h) (a : Int) = atN h.Events h.Events.length ⟨1, (a : Int)⟩ := by
  unfold ackP
  rw [ix_relL ha]
  by_cases q : 0 ≤ atN h.Events h.Events.length ⟨1, (a : Int)⟩
  · rw [if_pos q]
  · rw [if_neg q, atN_neg q]
theorem issP_at {h : api_History} (hz : histE h = 0) {a : Nat} (ha : a < h.Writes.length) : ix (issP h) (a : Int) = atN h.Events h.Events.length ⟨0, (a : Int)⟩ := by
  unfold issP
  rw [ix_relL ha, if_pos (iss_nn hz ha)]
theorem table_L4 {h : api_History} {a : Nat} {t : List (List Bool)} {rec3 : (Int × List (List Bool)) → Prop} {Φ : List (List Bool) → Prop} (hz : histE h = 0) (ha : a < h.Writes.length) (ht : t = tblK h a) (hr : rec3 ((a : Int) + 1, tblK h (a + 1))) : LoopW (ref16_Table_L4 h (ackP h) (issP h) (a : Int) t rec3 Φ) (0, List.replicate h.Writes.length false) := by
  have hw := hist_wr hz
  have la : (ackP h).length = h.Writes.length := relL_len
  have li : (issP h).length = h.Writes.length := relL_len
  have ea := ackP_at ha
  refine LoopW.upT h.Writes.length (fun k => ((k : Int), rowB h.Writes.length k fun b => befP h a b)) (by rw [rowB_zero (p := fun b => befP h a b)]; rfl) (fun k rec hk hrec => ⟨fun _ => ⟨iX (by omega) (by omega), fun q => ⟨iX (by omega) (by omega), iX (by omega) (by omega), iX (by omega) (by rw [rowB_len]; omega), iI (by omega) (by omega), hrec _ ?_⟩, fun q => ⟨iX (by omega) (by rw [rowB_len]; omega), iI (by omega) (by omega), hrec _ ?_⟩⟩, fun r => absurd (show (k : Int) < (h.Writes.length : Int) by omega) r⟩) fun rec => ⟨fun r => absurd r (by show ¬ ((h.Writes.length : Int) < (h.Writes.length : Int)); omega), fun _ => ?_⟩
  · rw [ea] at q
    rw [ea, issP_at hz hk, rowB_put hk (b := decide (atN h.Events h.Events.length ⟨1, (a : Int)⟩ < atN h.Events h.Events.length ⟨0, (k : Int)⟩)) (decide_eq_decide.2 ⟨fun t => t.2, fun t => ⟨q, t⟩⟩)]; rfl
  · rw [ea] at q
    rw [rowB_put hk (b := false) (decide_eq_false fun t => q t.1)]; rfl
  · subst ht
    rw [← tblK_succ]
    have l1 : (tblK h (a + 1)).length = a + 1 := tblK_len
    exact ⟨⟨by rw [l1]; omega, by rw [l1]; unfold maxLen; omega⟩, iI (by omega) (by omega), hr⟩
theorem ref16_Table_ok {h : api_History} {Φ : List (List Bool) → Prop} (hh : SmallH h) (hz : histE h = 0) (hΦ : Φ (tblH h)) : ref16_Table_W h Φ := by
  have hw := hist_wr hz
  have hev := hh.ev
  refine ⟨by omega, ⟨by rw [Int.toNat_natCast]; omega, by rw [Int.toNat_natCast]; unfold maxLen; omega⟩, by omega, ⟨by rw [Int.toNat_natCast]; omega, by rw [Int.toNat_natCast]; unfold maxLen; omega⟩, ?_⟩
  rw [Int.toNat_natCast, fullL_zero (a := -1)]
  refine LoopW.upT h.Writes.length (fun k => ((k : Int), fullL h.Writes.length k (-1) 0)) rfl (fun k rec hk hrec => ⟨fun _ => ⟨iX (by omega) (by rw [fullL_len]; omega), iI (by omega) (by omega), hrec _ (by rw [fullL_put hk]; rfl)⟩, fun r => absurd (show (k : Int) < (h.Writes.length : Int) by omega) r⟩) fun rec => ⟨fun r => absurd r (by show ¬ ((h.Writes.length : Int) < (h.Writes.length : Int)); omega), fun _ => ?_⟩
  rw [fullL_all, Int.toNat_natCast]
  refine LoopW.upT h.Events.length (fun k => ((k : Int), relL h.Events 1 h.Writes.length (-1) k, relL h.Events 0 h.Writes.length 0 k)) (by rw [relL_zero, relL_zero]; rfl) (fun k rec hk hr => ⟨fun _ => ⟨iX (by omega) (by omega), fun q => ?_, fun q => ?_⟩, fun r => absurd (show (k : Int) < (h.Events.length : Int) by omega) r⟩) fun rec => ⟨fun r => absurd r (by show ¬ ((h.Events.length : Int) < (h.Events.length : Int)); omega), fun _ => ?_⟩
  · have q' : (ix h.Events (k : Int)).Kind ≠ 0 := by rw [q]; decide
    obtain ⟨w, e1, e2, e3, e4⟩ := (ev_put hz (N := -1) hk).2 q'
    obtain ⟨_, _, _, _, e5⟩ := (ev_put hz (N := 0) hk).2 q'
    refine ⟨iX (by omega) (by omega), iX (by rw [e1]; omega) (by rw [e1, relL_len]; omega), iI (by omega) (by omega), hr _ ?_⟩
    rw [e1, e3, e5]; rfl
  · have q' : (ix h.Events (k : Int)).Kind = 0 := by
      by_cases z : (ix h.Events (k : Int)).Kind = 0
      · exact z
      · have e := (evErr_ack (hist_ev hz hk) z).1
        rw [e] at q; exact absurd rfl q
    obtain ⟨w, e1, e2, e3, e4⟩ := (ev_put hz (N := 0) hk).1 q'
    obtain ⟨_, _, _, _, e5⟩ := (ev_put hz (N := -1) hk).1 q'
    refine ⟨iX (by omega) (by omega), iX (by rw [e1]; omega) (by rw [e1, relL_len]; omega), iI (by omega) (by omega), hr _ ?_⟩
    rw [e1, e3, e5]; rfl
  · refine LoopW.upT h.Writes.length (fun k => ((k : Int), tblK h k)) rfl (fun k rec hk hrec => ⟨fun _ => ⟨by omega, ⟨by rw [Int.toNat_natCast]; omega, by rw [Int.toNat_natCast]; unfold maxLen; omega⟩, ?_⟩, fun r => absurd (show (k : Int) < (h.Writes.length : Int) by omega) r⟩) fun rec => ⟨fun r => absurd r (by show ¬ ((h.Writes.length : Int) < (h.Writes.length : Int)); omega), fun _ => hΦ⟩
    rw [Int.toNat_natCast]
    exact table_L4 hz hk rfl (hrec _ rfl)
theorem ref16_right_ok {h : api_History} {l : List Int} {Φ : Int → Prop} (hh : SmallH h) (hl : l.length ≤ 1000000) (k0 : histE h ≠ 0 → Φ (histE h)) (k1 : histE h = 0 → isSetB l (h.Writes.length : Int) = false → Φ 2) (k2 : histE h = 0 → isSetB l (h.Writes.length : Int) = true → Φ 0) : ref16_right_W h l Φ :=
  ref15_Check_ok hh ⟨fun q => k0 q, fun q => ref15_Set_ok hl ⟨fun r => k1 (Classical.not_not.1 q) (Bool.eq_false_iff.2 r), fun r => k2 (Classical.not_not.1 q) (Classical.not_not.1 r)⟩⟩
def lowKI (h : api_History) (l : List Int) (a i : Nat) : Bool := decide ((a : Int) ∈ l) || (l.take i).any fun b => befP h a b.toNat
theorem lowKI_succ {h : api_History} {l : List Int} {a i : Nat} (hi : i < l.length) : lowKI h l a (i + 1) = (lowKI h l a i || befP h a (ix l (i : Int)).toNat) := by
  unfold lowKI
  rw [take_ix hi, List.any_append, List.any_cons, List.any_nil, Bool.or_false, Bool.or_assoc]
theorem lowKI_all {h : api_History} (hz : histE h = 0) {l : List Int} (hl : isSetB l (h.Writes.length : Int) = true) {a : Nat} (ha : a < h.Writes.length) : lowKI h l a l.length = lowC h l a := by
  unfold lowKI lowC
  rw [List.take_length]
  congr 1
  rw [Bool.eq_iff_iff, List.any_eq_true, List.any_eq_true]
  constructor
  · rintro ⟨x, hx, hf⟩
    have := isSetB_mem hl hx
    exact ⟨x, hx, by rw [befC_eq hz ha (by omega)]; exact hf⟩
  · rintro ⟨x, hx, hf⟩
    have := isSetB_mem hl hx
    exact ⟨x, hx, by rw [← befC_eq hz ha (by omega)]; exact hf⟩
theorem sel_room {n k : Nat} {p : Nat → Bool} (hk : k < n) (hn : n ≤ 4096) : lenOk (selL k p ++ ([(k : Int)] : List Int)).length 8 := by
  have := selL_len (n := k) (p := p)
  refine ⟨?_, ?_⟩
  · rw [List.length_append, List.length_singleton]; omega
  · rw [List.length_append, List.length_singleton]; unfold maxLen; omega
theorem ref16_Least_ok {h : api_History} {l : List Int} {Φ : List Int × Int → Prop} (hh : SmallH h) (hl : l.length ≤ 1000000) (hΦ : Φ (leastR h l)) : ref16_Least_W h l Φ := by
  unfold leastR at hΦ
  refine ref16_right_ok hh hl (fun q => ⟨fun _ => by rw [if_pos q] at hΦ; exact hΦ, fun r => absurd q r⟩) (fun hz q => ⟨fun _ => by rw [if_neg (fun t => t hz), if_pos q] at hΦ; exact hΦ, fun r => absurd (by decide) r⟩) fun hz hs => ⟨fun r => absurd rfl r, fun _ => ?_⟩
  rw [if_neg (fun t => t hz), if_neg (by rw [hs]; simp)] at hΦ
  have hw := hist_wr hz
  have ll := isSetB_le hs (by omega)
  refine ref16_Table_ok hh hz ?_
  refine LoopW.upT h.Writes.length (fun k => ((k : Int), selL k (lowC h l))) rfl (fun a rec ha hrec => ⟨fun _ => ref15_Has_ok hl ?_, fun r => absurd (show (a : Int) < (h.Writes.length : Int) by omega) r⟩) fun rec => ⟨fun r => absurd r (by show ¬ ((h.Writes.length : Int) < (h.Writes.length : Int)); omega), fun _ => by rw [leastC_sel hs] at hΦ; exact hΦ⟩
  have z0 : decide ((a : Int) ∈ l) = lowKI h l a 0 := by unfold lowKI; rw [List.take_zero, List.any_nil, Bool.or_false]
  rw [z0]
  refine LoopW.upT l.length (fun i => (lowKI h l a i, (i : Int))) rfl (fun i rec2 hi hrec2 => ⟨fun _ => ⟨fun q => ⟨iI (by omega) (by omega), hrec2 _ ?_⟩, fun q => ?_⟩, fun r => absurd (show (i : Int) < (l.length : Int) by omega) r⟩) fun rec2 => ⟨fun r => absurd r (by show ¬ ((l.length : Int) < (l.length : Int)); omega), fun _ => ⟨fun q => ?_, fun q => ?_⟩⟩
  · rw [lowKI_succ hi, q]; rfl
  · have m := isSetB_at hs hi
    have e : ((ix l (i : Int)).toNat : Int) = ix l (i : Int) := Int.toNat_of_nonneg m.1
    have t1 : (ix (tblH h) (a : Int)).length = h.Writes.length := by rw [ix_tblH ha, rowB_len]
    have t0 : (tblH h).length = h.Writes.length := tblK_len
    refine ⟨iX (by omega) (by omega), iX (by omega) (by omega), iX m.1 (by omega), iI (by omega) (by omega), hrec2 _ ?_⟩
    rw [lowKI_succ hi, Bool.eq_false_iff.2 q, Bool.false_or, ← e, ix_tbl ha (by omega), e]; rfl
  · rw [lowKI_all hz hs ha] at q
    refine ⟨sel_room ha hw, iI (by omega) (by omega), hrec _ ?_⟩
    rw [selL_succ, if_pos q]; rfl
  · rw [lowKI_all hz hs ha] at q
    refine ⟨iI (by omega) (by omega), hrec _ ?_⟩
    rw [selL_succ, if_neg q, List.append_nil]; rfl
theorem ref07_New_ok {l : List Int} {Φ : List (List Sec) × Int → Prop} (q : sizesE l = 0) (hΦ : Φ (zeroI l, 0)) : ref07_New_W l Φ := by
  refine ref07_Sizes_ok ⟨fun r => absurd q r, fun _ => ?_⟩
  have hl := sizesE_len q
  refine LoopW.upT l.length (fun k => ((k : Int), (l.take k).map fun n => List.replicate n.toNat sec0)) rfl (fun k rec hk hr => ?_) fun rec => ⟨fun r => absurd r (by omega), fun _ => by rw [take_all]; exact hΦ⟩
  have := sizesE_ix q hk
  exact ⟨fun _ => ⟨iX (by omega) (by omega), by omega, iL (by omega) (by omega), iL (by rw [len_snoc, List.length_map, lenT (by omega)]; omega) (by omega), iI (by omega) (by omega), hr _ (by rw [map_take_snoc _ hk]; rfl)⟩, fun r => absurd (show (k : Int) < (l.length : Int) by omega) r⟩
theorem ref07_CopyE_ok {im : List (List Sec)} {Φ : List (List Sec) → Prop} (h : imgE im = 0) (hΦ : Φ im) : ref07_CopyE_W im Φ := by
  have hl := sizesE_len h
  rw [szs_len] at hl
  refine LoopW.upT im.length (fun k => (im.take k, (k : Int))) rfl (fun k rec hk hr => ?_) fun rec => ⟨fun r => absurd r (by omega), fun _ => by rw [take_all]; exact hΦ⟩
  have := szs_small h k hk
  exact ⟨fun _ => ⟨iX (by omega) (by omega), iL (by rw [List.nil_append]; omega) (by omega), iL (by rw [len_snoc, lenT (by omega)]; omega) (by omega), iI (by omega) (by omega), hr _ (by rw [take_ix hk]; rfl)⟩, fun r => absurd (show (k : Int) < (im.length : Int) by omega) r⟩
theorem ref07_Fits_ok {im : List (List Sec)} {w : api_Write} {Φ : Int → Prop} (hs : imgE im = 0) (hd : w.Data.length ≤ 1000000) (hΦ : Φ (fitW (szs im) w)) : ref07_Fits_W im w Φ := by
  have hl := sizesE_len hs
  rw [szs_len] at hl
  exact ref07_Check_ok (by omega) ⟨fun q => absurd hs q, fun _ => ⟨_, ref07_SizesOf_ok (by omega) rfl, _, ref07_FitsSizes_ok hd (fun k hk => by
    have := sizesE_ix (l := szs im) hs hk
    show ix (szs im) (k : Int) ≤ 1000000; omega) rfl, hΦ⟩⟩
theorem ref07_Apply_ok {im : List (List Sec)} {l : List api_Write} {Φ : List (List Sec) × Int × Int → Prop} (hl : l.length ≤ 1000000) (hs : imgE im = 0) (hf : ∀ w ∈ l, fitW (szs im) w = 0) (hΦ : Φ (appL im l, 0, 0)) : ref07_Apply_W im l Φ := by
  have h8 := sizesE_len hs
  rw [szs_len] at h8
  refine ref07_Check_ok (by omega) ⟨fun q => absurd hs q, fun _ => ref07_CopyE_ok hs ?_⟩
  refine LoopW.upT l.length (fun k => (appL im (l.take k), (k : Int))) rfl (fun k rec hk hr => ?_) fun rec => ⟨fun r => absurd r (by omega), fun _ => by rw [take_all]; exact hΦ⟩
  have hw := hf _ (ix_mem (iX (i := (k : Int)) (n := l.length) (by omega) (by omega)))
  have e := szs_takeL hs hf k
  have hs' : imgE (appL im (l.take k)) = 0 := by unfold imgE; rw [e]; exact hs
  obtain ⟨v, s, hfw⟩ := fitW_of (by rw [show sizesE (szs im) = 0 from hs]; simp) hw
  have hv := hfw.hv
  have hle := hfw.le
  rw [← e, szs_len] at hv
  rw [← e, ix_szs hv] at hle
  have ev := hfw.vol
  have es := hfw.start
  have hsm := szs_small hs' v hv
  refine ⟨fun _ => ⟨iX (by omega) (by omega), ref07_Fits_ok hs (by have := fit_data (show sizesE (szs im) = 0 from hs) hw; omega) ?_⟩, fun r => absurd (show (k : Int) < (l.length : Int) by omega) r⟩
  rw [hw]
  refine ⟨fun q => absurd rfl q, fun _ => ?_⟩
  have happ : appL im (l.take (k + 1)) = put (appL im (l.take k)) (v : Int) (paste (ix (appL im (l.take k)) (v : Int)) (s : Int) (ix l (k : Int)).Data) := by rw [appL_take hk]; unfold apply1; rw [ev, es]
  have hrr : ∀ x, x = appL im (l.take (k + 1)) → rec (x, (k : Int) + 1) := fun x hx => hr _ (by rw [hx]; rfl)
  generalize appL im (l.take k) = X at hv hle happ hsm ⊢
  refine LoopW.upT (ix l (k : Int)).Data.length (fun m => (put X (v : Int) (paste (ix X (v : Int)) (s : Int) ((ix l (k : Int)).Data.take m)), (m : Int))) ?_ (fun m rec2 hm hr2 => ?_) fun rec2 => ⟨fun r => absurd r (by omega), fun _ => ⟨iI (by omega) (by omega), hrr _ ?_⟩⟩
  · rw [show (ix l (k : Int)).Data.take 0 = [] from rfl, paste_nil (by omega), put_ix (iX (by omega) (by omega))]; rfl
  · have hpl : (put X (v : Int) (paste (ix X (v : Int)) (s : Int) ((ix l (k : Int)).Data.take m))).length = X.length := put_len _ _ _
    have hix : ix (put X (v : Int) (paste (ix X (v : Int)) (s : Int) ((ix l (k : Int)).Data.take m))) (v : Int) = paste (ix X (v : Int)) (s : Int) ((ix l (k : Int)).Data.take m) := ix_put_self _ (iX (by omega) (by omega))
    have hpr : (paste (ix X (v : Int)) (s : Int) ((ix l (k : Int)).Data.take m)).length = (ix X (v : Int)).length := paste_len' (by omega)
    unfold ref07_Apply_L2
    rw [ev, es]
    refine ⟨fun hmlt => ⟨iX (by omega) (by omega), iI (by omega) (by omega), iX (by omega) hmlt, iX (by omega) (by rw [hix, hpr]; omega), iI (by omega) (by omega), hr2 _ ?_⟩, fun r => absurd (show (m : Int) < ((ix l (k : Int)).Data.length : Int) by omega) r⟩
    rw [hix, put_put, paste_step (by omega) (by omega)]; rfl
  · rw [List.take_length, happ]
theorem setWr_take {h : api_History} {l : List Int} {k : Nat} (hk : k < l.length) : (setWr h l).take (k + 1) = (setWr h l).take k ++ [ix h.Writes (ix l (k : Int))] := by
  unfold setWr
  rw [← List.map_take, ← List.map_take, take_ix hk, List.map_append]; rfl
theorem ref15_Image_ok {h : api_History} {l : List Int} {Φ : List (List Sec) × Int → Prop} (hh : SmallH h) (hz : histE h = 0) (hb : isSetB l (h.Writes.length : Int) = true) (hΦ : Φ (imgH h l, 0)) : ref15_Image_W h l Φ := by
  have hw := hist_wr hz
  have ll := isSetB_le hb (by omega)
  have hs := (histE_zero hz).1
  have e := szs_zeroI hs
  refine ref15_Check_ok hh ⟨fun q => absurd hz q, fun _ => ref15_Set_ok (by omega) ⟨fun r => absurd hb r, fun _ => ref07_New_ok hs ?_⟩⟩
  have sl : (setWr h l).length = l.length := by unfold setWr; rw [List.length_map]
  refine LoopW.upT l.length (fun k => ((k : Int), (setWr h l).take k)) rfl (fun k rec hk hr => ?_) fun rec => ⟨fun r => absurd r (by omega), fun _ => ?_⟩
  · have m := isSetB_at hb hk
    refine ⟨fun _ => ⟨iX (by omega) (by omega), iX m.1 m.2.1, ?_, iI (by omega) (by omega), hr _ (by rw [setWr_take hk]; rfl)⟩, fun r => absurd (show (k : Int) < (l.length : Int) by omega) r⟩
    exact iL (by rw [len_snoc, List.length_take]; omega) (by omega)
  · have ef : (setWr h l).take l.length = setWr h l := by rw [← sl, List.take_length]
    rw [ef]
    exact ref07_Apply_ok (by omega) (by unfold imgE; rw [e]; exact hs) (fun w hw2 => by rw [e]; exact setWr_fit hz hb w hw2) hΦ
theorem cont_has {w : api_Write} {v s : Int} {x : Sec} : ((contC w v s).2 = true → decide ((contC w v s).1 = x) = hasC w v s x) ∧ (¬ (contC w v s).2 = true → hasC w v s x = false) := by
  refine ⟨fun t => ?_, fun t => ?_⟩
  · have t := contC_true.1 t
    rw [contC_val t]
    exact decide_eq_decide.2 ⟨fun u => ⟨t, u⟩, fun u => u.2⟩
  · exact decide_eq_false fun u => t (contC_true.2 u.1)
theorem ref18_author_ok {h : api_History} {v s : Int} {x : Sec} {Φ : Int → Prop} (hz : histE h = 0) (hs : s ≤ 10000000) (hΦ : Φ (autC h v s x)) : ref18_author_W h v s x Φ := by
  have hw := hist_wr hz
  refine LoopW.idxL h.Writes.length (fun i => hasC (wr h i) v s x) hΦ (fun i rec hi ht hf => ⟨fun _ => ⟨iX (by omega) (by omega), ?_⟩, fun r => absurd (show (i : Int) < (h.Writes.length : Int) by omega) r⟩) fun rec h0 => ⟨fun r => absurd r (by omega), fun _ => h0⟩
  have fi := hist_fit hz hi
  have cc := cont_has (w := wr h i) (v := v) (s := s) (x := x)
  have go : ∀ b, hasC (wr h i) v s x = b → ref18_author_J2 (i : Int) rec Φ b := fun b e => ⟨fun u => ht (e.trans u), fun u => ⟨iI (by omega) (by omega), hf (e.trans (Bool.eq_false_iff.2 u))⟩⟩
  exact ref18_Content_ok fi.2.2.2.1 (by show (wr h i).Start ≤ 1000000; omega) (by show (wr h i).Data.length ≤ 1000000; omega) hs ⟨fun t => go _ (cc.1 t).symm, fun t => go _ (cc.2 t)⟩
theorem ref18_right_ok {h : api_History} {im : List (List Sec)} {Φ : Int → Prop} (hh : SmallH h) (hl : im.length ≤ 100000) (hΦ : Φ (rgtE h im)) : ref18_right_W h im Φ := by
  unfold rgtE at hΦ
  refine ref15_Check_ok hh ⟨fun q => by rw [if_pos q] at hΦ; exact hΦ, fun q => ?_⟩
  rw [if_neg q] at hΦ
  have hz : histE h = 0 := Classical.not_not.1 q
  refine ref07_Check_ok hl ⟨fun q => by rw [if_pos q] at hΦ; exact hΦ, fun q2 => ?_⟩
  rw [if_neg q2] at hΦ
  refine ⟨_, ref07_SizesOf_ok hl rfl, _, ref15_SameInts_ok (by rw [szs_len]; omega) rfl, fun r => ?_, fun r => ?_⟩
  · have r : ¬ szs im = h.Sizes := fun t => r (decide_eq_true t)
    rw [if_pos r] at hΦ; exact hΦ
  · have r : szs im = h.Sizes := of_decide_eq_true (Classical.not_not.1 r)
    rw [if_neg (fun t => t r)] at hΦ
    have ed : distH h = distB h := by unfold distH; rw [decide_eq_true hz, Bool.true_and]
    refine ref18_Distinct_ok hh ⟨fun t => ?_, fun t => ?_⟩
    · rw [if_pos (by rw [← ed]; exact Bool.eq_false_iff.2 t)] at hΦ; exact hΦ
    · rw [if_neg (by rw [← ed]; exact fun u => t (by rw [u]; simp))] at hΦ; exact hΦ
def canR (h : api_History) (im : List (List Sec)) : List Int × api_Write × Bool := if 0 ≤ unkV h im then ([], cflW h im, false) else (lowH h im, cflW h im, true)
theorem cand_dif {h : api_History} {im : List (List Sec)} {Φ : List Int × api_Write × Bool → Prop} (hz : histE h = 0) (hi : imgE im = 0) (hs : szs im = h.Sizes)
    (kD : ∀ v k : Nat, difV h im = (v : Int) → difK h im = (k : Int) → Φ (lowH h im, oneWr (v : Int) (k : Int) (sec (ximH h im) v k), true))
    (kN : difV h im = -1 → Φ (lowH h im, noW, true)) : LoopW (ref18_candidate_L4 im (lowH h im, 0) (ximH h im, 0) Φ) 0 := by
  have ⟨el, es, en, sv0⟩ := xim_fact hz hi hs
  refine nestN (inn := fun v rec => ref18_candidate_L5 im (lowH h im, 0) (ximH h im, 0) (v : Int) rec Φ) im.length (szN im) (difB (ximH h im) im) (fun v rec hv hl => ⟨fun _ => hl, fun r => absurd (show (v : Int) < (im.length : Int) by omega) r⟩) ?_ ?_ ?_
  · intro v k rec rec' hv hk hp hq hr
    have e1 := en v hv
    have sv := sv0 v hv
    have hk' : k < (ix im (v : Int)).length := hk
    have x1 : inX (v : Int) (ximH h im).length := iX (by omega) (by omega)
    have x2 : inX (k : Int) (ix (ximH h im) (v : Int)).length := iX (by omega) (by omega)
    have x3 : inX (v : Int) im.length := iX (by omega) (by omega)
    have x4 : inX (k : Int) (ix im (v : Int)).length := iX (by omega) (by omega)
    refine ⟨x3, fun _ => ⟨x1, x2, x3, x4, fun q => ⟨x1, x2, ?_⟩, fun q => ⟨iI (by omega) (by omega), hr (decide_eq_false fun t => q t)⟩⟩, fun r => absurd (show (k : Int) < ((ix im (v : Int)).length : Int) by omega) r⟩
    have hh := fst_hit hv hk hp hq (decide_eq_true q)
    exact kD v k hh.1 hh.2
  · intro v rec rec' hv hr
    have sv := sv0 v hv
    exact ⟨iX (by omega) (by omega), fun r => absurd r (by show ¬ ((szN im v : Int) < ((ix im (v : Int)).length : Int)); unfold szN; omega), fun _ => ⟨iI (by omega) (by omega), hr⟩⟩
  · intro rec hp
    have nd : difV h im = -1 := fst_none hp
    exact ⟨fun r => absurd r (by omega), fun _ => kN nd⟩
theorem cand_ned {h : api_History} {im : List (List Sec)} {Φ : List Int × api_Write × Bool → Prop} {rq : List Bool} (hh : SmallH h) (hz : histE h = 0) (hi : imgE im = 0) (hs : szs im = h.Sizes)
    (hn : rq.length = h.Writes.length) (hm : ∀ w, w < h.Writes.length → (ix rq (w : Int) = true ↔ needB h im w = true))
    (kD : ∀ v k : Nat, difV h im = (v : Int) → difK h im = (k : Int) → Φ (lowH h im, oneWr (v : Int) (k : Int) (sec (ximH h im) v k), true))
    (kN : difV h im = -1 → Φ (lowH h im, noW, true)) : LoopW (ref18_candidate_L3 h im rq Φ) (0, []) := by
  have hw := hist_wr hz
  refine LoopW.upT h.Writes.length (fun k => ((k : Int), selL k (needB h im))) rfl (fun k rec hk hr => ⟨fun _ => ⟨iX (by omega) (by omega), fun q => ?_, fun q => ⟨iI (by omega) (by omega), hr _ ?_⟩⟩, fun r => absurd (show (k : Int) < (rq.length : Int) by omega) r⟩) fun rec => ⟨fun r => absurd r (by omega), fun _ => ?_⟩
  · refine ⟨sel_room hk hw, iI (by omega) (by omega), hr _ ?_⟩
    rw [selL_succ, if_pos ((hm k hk).1 q)]; rfl
  · rw [selL_succ, if_neg fun t => q ((hm k hk).2 t), List.append_nil]; rfl
  · have sl := selL_len (n := h.Writes.length) (p := needB h im)
    have er : leastR h (needL h im) = (lowH h im, 0) := by
      unfold leastR
      rw [if_neg (fun t => t hz), if_neg (by rw [needL_set]; simp)]; rfl
    refine ref16_Least_ok hh (by omega) ?_
    have go : ref15_Image_W h (lowH h im) fun v9 => LoopW (ref18_candidate_L4 im (lowH h im, 0) v9 Φ) 0 := ref15_Image_ok hh hz lowH_set (cand_dif hz hi hs kD kN)
    rw [← show (leastR h (selL h.Writes.length (needB h im))) = (lowH h im, 0) from er] at go
    have e1 : (leastR h (selL h.Writes.length (needB h im))).1 = lowH h im := by rw [show (leastR h (selL h.Writes.length (needB h im))) = (lowH h im, 0) from er]
    rw [e1]; exact go
theorem ref18_candidate_ok {h : api_History} {im : List (List Sec)} {Φ : List Int × api_Write × Bool → Prop} (hh : SmallH h) (hz : histE h = 0) (hi : imgE im = 0) (hs : szs im = h.Sizes) (hΦ : Φ (canR h im)) : ref18_candidate_W h im Φ := by
  have hw := hist_wr hz
  have sm := fit_small (im := im) (by rw [show sizesE (szs im) = 0 from hi]; simp)
  refine ⟨by omega, ⟨by rw [Int.toNat_natCast]; omega, by rw [Int.toNat_natCast]; unfold maxLen; omega⟩, ?_⟩
  rw [Int.toNat_natCast]
  unfold canR cflW at hΦ
  refine nestS (inn := fun v rec => ref18_candidate_L2 h im (v : Int) rec Φ) im.length (szN im) (unkB h im) (fun v k rq => rq.length = h.Writes.length ∧ ∀ w : Nat, w < h.Writes.length → (ix rq (w : Int) = true ↔ NeedBy h im v k w)) ⟨List.length_replicate, fun w hw => by
    rw [ix_get (by rw [List.length_replicate]; exact hw), List.getElem_replicate]
    exact ⟨fun t => Bool.noConfusion t, fun t => absurd t NeedBy.zero⟩⟩
    (fun v a hv ha => ⟨ha.1, fun w hw => (ha.2 w hw).trans NeedBy.row.symm⟩) (fun v a rec hv hl => ⟨fun _ => hl, fun r => absurd (show (v : Int) < (im.length : Int) by omega) r⟩) ?_ ?_ ?_
  · intro v k rq rec rec' hv hk hp hq hI hr
    have sv := (sm.2.2 v hv).2
    have hk' : k < (ix im (v : Int)).length := hk
    have x3 : inX (v : Int) im.length := iX (by omega) (by omega)
    have x4 : inX (k : Int) (ix im (v : Int)).length := iX (by omega) (by omega)
    refine ⟨x3, fun _ => ⟨x3, x4, fun z => ⟨iI (by omega) (by omega), hr ?_ rq ⟨hI.1, fun w hw => (hI.2 w hw).trans (NeedBy.skip z).symm⟩⟩, fun z => ⟨x3, x4, _, ref18_author_ok hz (by omega) rfl, fun q => ⟨x3, x4, ?_⟩, fun q => ?_⟩⟩, fun r => absurd (show (k : Int) < ((ix im (v : Int)).length : Int) by omega) r⟩
    · unfold unkB
      rw [decide_eq_false (fun t => t z)]; rfl
    · have hb : unkB h im v k = true := by
        unfold unkB
        rw [Bool.and_eq_true, decide_eq_true_iff, decide_eq_true_iff]
        exact ⟨z, q⟩
      have ⟨e1, e2⟩ := fst_hit hv hk hp hq hb
      have e1 : unkV h im = (v : Int) := e1
      have e2 : unkK h im = (k : Int) := e2
      rw [e1, e2, if_pos (by omega), if_pos (by omega)] at hΦ
      exact hΦ
    · have q1 : ¬ autC h (v : Int) (k : Int) (sec im v k) < 0 := q
      rcases autC_cases h (v : Int) (k : Int) (sec im v k) with ⟨a, _⟩ | ⟨i, hi2, a, _⟩
      · omega
      · show inX (autC h (v : Int) (k : Int) (sec im v k)) rq.length ∧ inI ((k : Int) + 1) ∧ rec' ((k : Int) + 1, put rq (autC h (v : Int) (k : Int) (sec im v k)) true)
        rw [a]
        refine ⟨iX (by omega) (by rw [hI.1]; omega), iI (by omega) (by omega), hr ?_ _ ⟨by rw [put_len]; exact hI.1, fun w hw => ?_⟩⟩
        · unfold unkB
          rw [decide_eq_false q1, Bool.and_false]
        · rw [ix_put _ _ (by rw [hI.1]; exact hi2), NeedBy.take z, ← hI.2 w hw, a]
          by_cases e : w = i
          · rw [if_pos e, e]; exact ⟨fun _ => .inr rfl, fun _ => rfl⟩
          · rw [if_neg e]; exact ⟨.inl, fun t => t.elim id fun u => absurd (Int.ofNat.inj u).symm e⟩
  · intro v a rec rec' hv hr
    have sv := (sm.2.2 v hv).2
    exact ⟨iX (by omega) (by omega), fun r => absurd r (by show ¬ ((szN im v : Int) < ((ix im (v : Int)).length : Int)); unfold szN; omega), fun _ => ⟨iI (by omega) (by omega), hr⟩⟩
  · intro rq rec hp hI
    have nu : unkV h im = -1 := fst_none hp
    rw [if_neg (by omega), if_neg (by omega)] at hΦ
    refine ⟨fun r => absurd r (by omega), fun _ => cand_ned hh hz hi hs hI.1 (fun w hw => (hI.2 w hw).trans NeedBy.all) (fun v k e1 e2 => ?_) fun e1 => ?_⟩
    · rw [e1, e2, if_pos (by omega)] at hΦ; exact hΦ
    · rw [if_neg (by omega)] at hΦ; exact hΦ
theorem rgtE_zero {h : api_History} {im : List (List Sec)} (e : rgtE h im = 0) : histE h = 0 ∧ imgE im = 0 ∧ szs im = h.Sizes ∧ distB h = true := by
  unfold rgtE at e
  by_cases q : histE h ≠ 0
  · rw [if_pos q] at e; exact absurd e q
  rw [if_neg q] at e
  by_cases q2 : imgE im ≠ 0
  · rw [if_pos q2] at e; exact absurd e q2
  rw [if_neg q2] at e
  by_cases q3 : szs im ≠ h.Sizes
  · rw [if_pos q3] at e; exact absurd e (by decide)
  rw [if_neg q3] at e
  by_cases q4 : distB h = false
  · rw [if_pos q4] at e; exact absurd e (by decide)
  · exact ⟨Classical.not_not.1 q, Classical.not_not.1 q2, Classical.not_not.1 q3, Bool.of_not_eq_false q4⟩
theorem cfl_one (h : api_History) (im : List (List Sec)) : (cflB h im = true ∧ (cflW h im).Data.length = 1) ∨ (cflB h im = false ∧ cflW h im = noW) := by
  unfold cflB cflW
  by_cases q : 0 ≤ unkV h im
  · rw [if_pos q]; exact .inl ⟨decide_eq_true (.inl q), rfl⟩
  · rw [if_neg q]
    by_cases r : 0 ≤ difV h im
    · rw [if_pos r]; exact .inl ⟨decide_eq_true (.inr r), rfl⟩
    · rw [if_neg r]; exact .inr ⟨decide_eq_false (by omega), rfl⟩
theorem canR_w {h : api_History} {im : List (List Sec)} : (canR h im).2.1 = cflW h im := by
  unfold canR
  by_cases q : 0 ≤ unkV h im
  · rw [if_pos q]
  · rw [if_neg q]
theorem ref18_Conflict_ok {h : api_History} {im : List (List Sec)} {Φ : api_Write × Bool × Int → Prop} (hh : SmallH h) (hl : im.length ≤ 100000) (hΦ : Φ (conR h im)) : ref18_Conflict_W h im Φ := by
  unfold conR at hΦ
  refine ref18_right_ok hh hl ⟨fun q => by rw [if_pos q] at hΦ; exact hΦ, fun q => ?_⟩
  rw [if_neg q] at hΦ
  obtain ⟨hz, hi, hs, hd⟩ := rgtE_zero (Classical.not_not.1 q)
  refine ref18_candidate_ok hh hz hi hs ?_
  rw [canR_w]
  rcases cfl_one h im with ⟨a, b⟩ | ⟨a, b⟩
  · rw [a] at hΦ; rw [b]; exact hΦ
  · rw [a] at hΦ; rw [b] at hΦ ⊢; exact hΦ
theorem consistency_Conflict_ok {h : api_History} {im : List (List Sec)} {Φ : api_Write × Bool × Int → Prop} (hh : SmallH h) (hl : im.length ≤ 100000) (hΦ : Φ (conR h im)) : consistency_Conflict_W h im Φ := by
  unfold conR at hΦ
  refine conflict_jdg hh hl (fun q => by rw [if_pos q] at hΦ; exact hΦ) fun hz hi hs hd m hm => ?_
  have e0 : rgtE h im = 0 := by unfold rgtE; rw [if_neg (fun t => t hz), if_neg (fun t => t hi), if_neg (fun t => t hs), if_neg (by rw [hd]; simp)]
  rw [if_neg (fun t => t e0)] at hΦ
  unfold cflW cflB at hΦ
  refine conflict_unk hh hz hi hs hm (fun v k mm _ _ e1 e2 _ => ⟨fun _ => ?_, fun r => absurd rfl r⟩) (fun n v k _ _ e1 e2 _ => ?_) fun n d => ?_
  · rw [e1, e2, if_pos (by omega), decide_eq_true (.inl (by omega))] at hΦ; exact hΦ
  · rw [n, e1, e2, if_neg (by omega), if_pos (by omega), decide_eq_true (.inr (by omega))] at hΦ; exact hΦ
  · rw [n, d, if_neg (by omega), if_neg (by omega), decide_eq_false (by omega)] at hΦ; exact hΦ
theorem ref03_SameSectors_refl {l : List Sec} {Φ : Bool → Prop} (hl : l.length ≤ 1000000) (hΦ : Φ true) : ref03_SameSectors_W l l Φ :=
  ⟨fun h => absurd rfl h, fun _ => LoopW.upT l.length (fun k => (k : Int)) rfl (fun k rec hk hr => ⟨fun hlt => ⟨iX (by omega) hlt, iX (by omega) hlt, fun q => absurd rfl q, fun _ => ⟨iI (by omega) (by omega), hr _ rfl⟩⟩, fun r => absurd (show (k : Int) < (l.length : Int) by omega) r⟩) fun rec => ⟨fun r => absurd r (by omega), fun _ => hΦ⟩⟩
theorem ref03_SameWrites_refl {l : List api_Write} {Φ : Bool → Prop} (hl : l.length ≤ 1000000) (hd : ∀ w ∈ l, w.Data.length ≤ 1000000) (hΦ : Φ true) : ref03_SameWrites_W l l Φ :=
  ⟨fun h => absurd rfl h, fun _ => LoopW.upT l.length (fun k => (k : Int)) rfl (fun k rec hk hr => ⟨fun hlt => ⟨iX (by omega) hlt, iX (by omega) hlt, fun q => absurd rfl q, fun _ => ⟨iX (by omega) hlt, iX (by omega) hlt, fun q => absurd rfl q, fun _ => ⟨iX (by omega) hlt, iX (by omega) hlt, _, ref03_SameSectors_refl (hd _ (ix_mem (iX (by omega) hlt))) rfl, fun q => absurd rfl q, fun _ => ⟨iI (by omega) (by omega), hr _ rfl⟩⟩⟩⟩, fun r => absurd (show (k : Int) < (l.length : Int) by omega) r⟩) fun rec => ⟨fun r => absurd r (by omega), fun _ => hΦ⟩⟩
theorem conR_small (h : api_History) (im : List (List Sec)) : ∀ w ∈ [(conR h im).1], w.Data.length ≤ 1000000 := by
  intro w hw
  rw [List.mem_singleton] at hw
  subst hw
  unfold conR
  by_cases q : rgtE h im ≠ 0
  · rw [if_pos q]; exact Nat.zero_le _
  · rw [if_neg q]
    rcases cfl_one h im with ⟨_, b⟩ | ⟨_, b⟩
    · show (cflW h im).Data.length ≤ 1000000; omega
    · show (cflW h im).Data.length ≤ 1000000; rw [b]; exact Nat.zero_le _
theorem ref07_Few_ok {im : List (List Sec)} {Φ : Bool → Prop} (hF : Φ false) (hT : im.length ≤ 9 → Φ true) : ref07_Few_W im Φ := by
  refine ⟨fun _ => hF, fun h9 => ?_⟩
  exact LoopW.upT im.length (fun k => (k : Int)) rfl (fun k rec hk hr => ⟨fun hlt => ⟨iX (by omega) hlt, fun _ => hF, fun q => ⟨iI (by omega) (by omega), hr _ rfl⟩⟩, fun r => absurd (show (k : Int) < (im.length : Int) by omega) r⟩) fun rec => ⟨fun r => absurd r (by omega), fun _ => hT (by omega)⟩
theorem law18_few_ok {h : api_History} {im : List (List Sec)} {Φ : Bool → Prop} (hF : Φ false) (hT : SmallH h → h.Writes.length ≤ 40 → im.length ≤ 9 → Φ true) : law18_few_W h im Φ :=
  ref15_Few_ok ⟨fun q => by
    have hf := fewH_small q
    exact ref07_Few_ok hF fun h9 => hT hf.1 hf.2 h9, fun _ => hF⟩
theorem consistencyConflicts_law (h : api_History) (im : List (List Sec)) (_ : Rg.rg h) (_ : Rg.rg im) : law18_ConsistencyConflicts_W h im fun y => y = true := by
  refine law18_few_ok ⟨fun _ => law18_awake_ok rfl, fun q => absurd (fun t => Bool.noConfusion t) q⟩ fun hh _ h9 => ⟨fun r => absurd rfl r, fun _ => ?_⟩
  refine consistency_Conflict_ok hh (by omega) (ref18_Conflict_ok hh (by omega) ?_)
  exact ref03_SameWrites_refl (by show 1 ≤ 1000000; omega) (conR_small h im) ⟨fun _ => ⟨fun _ => ⟨fun _ => law18_awake_ok rfl, fun t => absurd rfl t⟩, fun t => absurd rfl t⟩, fun t => absurd rfl t⟩
end Go.Proofs.Ytjjodmgmidbamaa
namespace Go.Proofs.Ytjjodmgmidbamaa
open Go.RowKit Go.ChangeShapes Go.WideShapes Go.ChangeAt
set_option maxRecDepth 100000 in
theorem consistencyConflicts_lifted (os : Os) (started : os.Started) (H : Type) (enc : TypeId × Value → H) :
    ReturnsInHanded {} Try.checked os 4 .any (Rows.consistencyConflictsSpec.pre6 enc Try.prog Try.f4 Rows.consistencyConflictsRow.domain false) (Rows.consistencyConflictsSpec.post enc Try.prog Try.f4 false true false false) := by
  refine returnsInHanded_of_change (C := Try.checked) Try.own started (by kernel_rfl) Try.func4
    (ChangeSpec.witness6 (enc := enc) (C := Try.checked) false ⟨#[], #[.agg #[.slice none 0 0, .slice none 0 0, .slice none 0 0], .slice none 0 0], []⟩ 8 (by kernel_rfl) (by kernel_rfl) (by kernel_rfl) (by kernel_rfl)) ?_
  intro W base args ds gs before hval0 hW _ _
  have hval : ∀ (j : Nat) t v, Try.f4.params[j]? = some t → args[j]? = some v → Value.okWide Try.prog W .any base t v := hval0
  have hW' := hW
  obtain ⟨p, q, hA0, hV, hpq, _, _⟩ := hW
  have hA : DataW.TrodAll enc Try.prog W 0 (fun _ => true) true Try.f4.params.toList args.toList ds p := hA0
  rw [Try.params4] at hA hval
  obtain ⟨v0, v1, d0, d1, p0, p1, rfl, rfl, rfl, h0, h1⟩ := trodAll_two hA
  obtain ⟨rfl, rfl⟩ := trodVars_none hV
  obtain ⟨ks0, x0, rfl, hr0, hg0⟩ := open_strD Try.underlying26 rd26 (hval 0 26 v0 rfl rfl) h0
  obtain ⟨Az1, nz1, cz1, sz1, x1, rfl, hz1, hg1⟩ := open_slD Try.underlying30 rd30 (hval 1 30 v1 rfl rfl) h1
  refine Calls.mono ((RetP.toV (y := true) (F := fun z => .bool z) (RetP.mono (ok4 (x0, x1, ()) (fun y => y.1 = true) (consistencyConflicts_law x0 x1 hg0 hg1) (HW W) [.agg ks0.toArray, .slice Az1 nz1 cz1] trivial ⟨_, ks0, _, rfl, by rw [pkw26], (show Dt.rd (α := api_History) (HW W) _ _ from hr0), ⟨_, [.slice Az1 nz1 cz1], _, rfl, by rw [pkw30], (show Dt.rd (α := List (List Sec)) (HW W) _ _ from ⟨Az1, nz1, cz1, sz1, rfl, hz1⟩), rfl⟩⟩) fun _ _ _ _ ⟨y, hy, hr⟩ => lawRes y hy hr)) W fun b o e => e) ?_
  rintro e W' ⟨v, _, rfl, _, _, _, hb, rfl⟩
  exact ⟨_, rfl, post_law Try.laidOut Try.underlying4 rfl (by kernel_rfl) hW' rfl rfl hb⟩
theorem consistencyConflicts_holds : Rows.ConsistencyConflictsSaid :=
  OpenClaim.holds_of_wide 4 Try.f4 rfl rfl rfl rfl rfl rfl rfl ⟨rfl, rfl, rfl, rfl, rfl⟩ rfl rfl rfl rfl rfl (by kernel_rfl) Try.func4 (by kernel_rfl)
    (of_decide_eq_true (by kernel_rfl)) (by unfold Func.isWrapper; first | (rw [if_pos (by decide +kernel)]; kernel_rfl) | (rw [if_neg (by decide +kernel)]; exact ⟨rfl, rfl⟩))
    (fun os started H enc _ => consistencyConflicts_lifted os started H enc)
end Go.Proofs.Ytjjodmgmidbamaa
