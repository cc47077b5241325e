/- Proved: the tied card of the statement TrackerUnites: for every argument that can be read the law returns true and leaves its arguments as they were. Conditions: the row's own alone: the table math/bits.deBruijn64tab reads as listed, which the card ties to the program's text. -/
import Derived.Test.YtgojhiknicmopaaDoorM5
namespace Go.Proofs.YtgojhiknicmopaaDoor
open Go.RowKit
theorem insZ_low {x : Int} : ∀ {l : List Int}, (∀ y ∈ l, x ≤ y) → insZ x l = x :: l
  | [], _ => rfl
  | y :: r, h => by unfold insZ; rw [if_pos (h y List.mem_cons_self)]
theorem sortZ_asc : ∀ {l : List Int}, l.Pairwise (fun a b => a < b) → sortZ l = l
  | [], _ => rfl
  | x :: r, h => by
    have h1 := List.pairwise_cons.1 h
    show insZ x (sortZ r) = _
    rw [sortZ_asc h1.2]
    exact insZ_low fun y hy => Int.le_of_lt (h1.1 y hy)
theorem asc_ext : ∀ {l m : List Int}, l.Pairwise (fun a b => a < b) → m.Pairwise (fun a b => a < b) → (∀ x, x ∈ l ↔ x ∈ m) → l = m
  | [], [], _, _, _ => rfl
  | [], y :: m, _, _, h => absurd ((h y).2 List.mem_cons_self) List.not_mem_nil
  | x :: l, [], _, _, h => absurd ((h x).1 List.mem_cons_self) List.not_mem_nil
  | x :: l, y :: m, h1, h2, h => by
    have a := List.pairwise_cons.1 h1
    have b := List.pairwise_cons.1 h2
    have e : x = y := by
      rcases List.mem_cons.1 ((h x).1 List.mem_cons_self) with p | p
      · exact p
      · rcases List.mem_cons.1 ((h y).2 List.mem_cons_self) with q | q
        · exact q.symm
        · have := b.1 x p; have := a.1 y q; omega
    subst e
    congr 1
    refine asc_ext a.2 b.2 fun z => ⟨fun hz => ?_, fun hz => ?_⟩
    · rcases List.mem_cons.1 ((h z).1 (List.mem_cons_of_mem _ hz)) with e | e
      · subst e; have := a.1 z hz; omega
      · exact e
    · rcases List.mem_cons.1 ((h z).2 (List.mem_cons_of_mem _ hz)) with e | e
      · subst e; have := b.1 z hz; omega
      · exact e
theorem sortZ_lt {l : List Int} (h : l.Nodup) : (sortZ l).Pairwise (fun a b => a < b) := by
  have h1 : (sortZ l).Nodup := (sortZ_self l).nodup_iff.2 h
  exact ((sortZ_sorted l).and h1).imp fun q => by have := q.1; have := q.2; omega
theorem sortZ_mem {l : List Int} {x : Int} : x ∈ sortZ l ↔ x ∈ l := (sortZ_self l).mem_iff
theorem setBm_ok {b : api_Bitmap} {e : api_Extent} (h : chkB b = 0) (hf : fitsB e.Start e.Count b.Size = true) : (setBm b e).2 = 0 ∧ chkB (setBm b e).1 = 0 ∧ (setBm b e).1.Size = b.Size ∧ ∀ i : Nat, (i : Int) < b.Size → (bitN (setBm b e).1.Words i = true ↔ bitN b.Words i = true ∨ (e.Start ≤ (i : Int) ∧ (i : Int) < e.Start + e.Count)) := by
  have hw := chkB_len (b := b) (by simpa using h)
  have e1 : setBm b e = (⟨b.Size, chW true b.Words e.Start (e.Start + e.Count)⟩, 0) := by
    unfold setBm; rw [chR_ok (by simpa [chkB] using h) hf]; rfl
  rw [e1]
  refine ⟨rfl, chk_set1 h hf, rfl, fun i hi => ?_⟩
  show bitN (chW true b.Words e.Start (e.Start + e.Count)) i = true ↔ _
  rw [chW_bit _ _ _ _ _ (by omega)]
  by_cases hc : e.Start ≤ (i : Int) ∧ (i : Int) < e.Start + e.Count
  · rw [if_pos hc]; exact ⟨fun _ => .inr hc, fun _ => rfl⟩
  · rw [if_neg hc]; exact ⟨fun z => .inl z, fun z => z.resolve_right hc⟩
theorem newB_ok {n : Int} (h0 : 0 ≤ n) (h1 : n ≤ 4096) : chkB (newB n) = 0 ∧ ∀ i, bitN (newB n).Words i = false := ⟨chk_new h0 h1, fun _ => bit_new⟩
def covT (w : api_Write) (v i : Nat) : Prop := w.Volume = (v : Int) ∧ w.Start ≤ (i : Int) ∧ (i : Int) < w.Start + (w.Data.length : Int)
structure BmsOk (sizes : List Int) (d : List api_Bitmap) : Prop where
  len : d.length = sizes.length
  chk : ∀ v : Nat, v < sizes.length → chkB (ix d (v : Int)) = 0 ∧ (ix d (v : Int)).Size = ix sizes (v : Int)
structure Marked (sizes : List Int) (d : List api_Bitmap) (P : Nat → Nat → Prop) : Prop extends BmsOk sizes d where
  bit : ∀ v i : Nat, v < sizes.length → (i : Int) < ix sizes (v : Int) → (bitN (ix d (v : Int)).Words i = true ↔ P v i)
theorem chkB_small {b : api_Bitmap} (h : chkB b = 0) : b.Words.length ≤ 1000 := by
  have := chkB_len (b := b) (by simpa using h)
  omega
theorem BmsOk.words {sizes : List Int} {d : List api_Bitmap} (h : BmsOk sizes d) : ∀ b ∈ d, chkB b = 0 ∧ b.Words.length ≤ 1000 := fun b hb => by
  obtain ⟨k, hk, rfl⟩ := List.getElem_of_mem hb
  have := (h.chk k (by have := h.len; omega)).1
  rw [ix_get hk] at this
  exact ⟨this, chkB_small this⟩
theorem ix_newBs {sizes : List Int} {v : Nat} (hv : v < sizes.length) : ix (sizes.map newB) (v : Int) = newB (ix sizes (v : Int)) := by
  rw [ix_get (by rw [List.length_map]; exact hv), List.getElem_map, ix_get hv]
theorem marked_clean {sizes : List Int} (hs : sizesE sizes = 0) : Marked sizes (sizes.map newB) (fun _ _ => False) := by
  refine ⟨⟨List.length_map _, fun v hv => ?_⟩, fun v i hv _ => ?_⟩
  · have := sizesE_ix hs hv
    rw [ix_newBs hv]; exact ⟨(newB_ok (by omega) (by omega)).1, rfl⟩
  · have := sizesE_ix hs hv
    rw [ix_newBs hv, (newB_ok (by omega) (by omega)).2 i]; simp
theorem fitW_vol {sizes : List Int} {w : api_Write} (h : fitW sizes w = 0) : ∃ v : Nat, w.Volume = (v : Int) ∧ v < sizes.length ∧ 0 ≤ w.Start ∧ 1 ≤ (w.Data.length : Int) ∧ w.Start + (w.Data.length : Int) ≤ ix sizes (v : Int) := by
  unfold fitW at h
  split at h
  · omega
  split at h
  · omega
  split at h
  · omega
  rename_i a b c
  refine ⟨w.Volume.toNat, by omega, by omega, by omega, by omega, ?_⟩
  rw [show ((w.Volume.toNat : Nat) : Int) = w.Volume by omega]; omega
theorem fits_write {sizes : List Int} {d : List api_Bitmap} (h : BmsOk sizes d) {w : api_Write} (hw : fitW sizes w = 0) : fitsB w.Start (w.Data.length : Int) (ix d w.Volume).Size = true := by
  obtain ⟨v, hv, hl, h0, h1, h2⟩ := fitW_vol hw
  rw [hv, (h.chk v hl).2]
  exact fitsB_iff.2 ⟨by omega, by omega, by omega, by omega⟩
theorem set_write {sizes : List Int} {d : List api_Bitmap} (h : BmsOk sizes d) {w : api_Write} (hw : fitW sizes w = 0) : (setBm (ix d w.Volume) ⟨w.Start, (w.Data.length : Int)⟩).2 = 0 := by
  obtain ⟨v, hv, hl, h0, h1, h2⟩ := fitW_vol hw
  have hf := fits_write h hw
  rw [hv] at hf ⊢
  exact (setBm_ok (e := ⟨w.Start, (w.Data.length : Int)⟩) (h.chk v hl).1 hf).1
theorem ix_put2 {α : Type} [Dt α] (xs : List α) {k : Nat} (x : α) (hk : k < xs.length) (j : Nat) : ix (put xs (k : Int) x) (j : Int) = if j = k then x else ix xs (j : Int) := by
  show (xs.set k x).getD j default = _
  rw [List.getD_eq_getElem?_getD, List.getElem?_set]
  by_cases h : k = j
  · subst h; rw [if_pos rfl, if_pos rfl, if_pos hk]; rfl
  · rw [if_neg h, if_neg (Ne.symm h)]; rw [← List.getD_eq_getElem?_getD]; rfl
theorem marked_step {sizes : List Int} {d : List api_Bitmap} {P : Nat → Nat → Prop} (h : Marked sizes d P) {w : api_Write} (hw : fitW sizes w = 0) : Marked sizes (mark1 d w) (fun v i => P v i ∨ covT w v i) := by
  obtain ⟨v0, hv, hl, h0, h1, h2⟩ := fitW_vol hw
  have hf := fits_write h.toBmsOk hw
  have hlen := h.len
  rw [hv] at hf
  obtain ⟨s1, s2, s3, s4⟩ := setBm_ok (e := ⟨w.Start, (w.Data.length : Int)⟩) (h.chk v0 hl).1 hf
  have e : ∀ v : Nat, ix (mark1 d w) (v : Int) = if v = v0 then (setBm (ix d (v0 : Int)) ⟨w.Start, (w.Data.length : Int)⟩).1 else ix d (v : Int) := fun v => by
    unfold mark1; rw [hv, ix_put2 _ _ (by omega)]
  have c2 := (h.chk v0 hl).2
  refine ⟨⟨(put_len _ _ _).trans hlen, fun v hv' => ?_⟩, fun v i hv' hi => ?_⟩
  · rw [e v]
    by_cases hc : v = v0
    · subst hc; rw [if_pos rfl]; exact ⟨s2, s3.trans c2⟩
    · rw [if_neg hc]; exact h.chk v hv'
  · rw [e v]
    by_cases hc : v = v0
    · subst hc
      rw [if_pos rfl, s4 i (by rw [c2]; exact hi), h.bit v i hv' hi]
      exact or_congr Iff.rfl ⟨fun q => ⟨hv, q.1, q.2⟩, fun q => ⟨q.2.1, q.2.2⟩⟩
    · rw [if_neg hc, h.bit v i hv' hi]
      exact ⟨fun q => .inl q, fun q => q.resolve_right fun z => hc (by have := z.1; omega)⟩
theorem mark1_ok {sizes : List Int} {d : List api_Bitmap} (h : BmsOk sizes d) {w : api_Write} (hw : fitW sizes w = 0) : BmsOk sizes (mark1 d w) :=
  (marked_step (P := fun v i => bitN (ix d (v : Int)).Words i = true) ⟨h, fun _ _ _ _ => Iff.rfl⟩ hw).toBmsOk
theorem markL_ok {sizes : List Int} : ∀ {l : List api_Write} {d : List api_Bitmap}, BmsOk sizes d → (∀ w ∈ l, fitW sizes w = 0) → BmsOk sizes (markL d l)
  | [], _, h, _ => h
  | w :: l, d, h, hf => markL_ok (l := l) (d := mark1 d w) (mark1_ok h (hf w List.mem_cons_self)) fun x hx => hf x (List.mem_cons_of_mem _ hx)
structure TrkOk (t : api_Tracker) : Prop where
  hs : sizesE t.Sizes = 0
  n4 : t.Peers.length ≤ 4
  bms : ∀ k : Nat, k < t.Peers.length → BmsOk t.Sizes (ix t.Peers (k : Int)).Dirty
  site : ∀ k : Nat, k < t.Peers.length → 0 ≤ (ix t.Peers (k : Int)).Site ∧ (ix t.Peers (k : Int)).Site < 4
  com : ∀ k : Nat, k < t.Peers.length → 0 ≤ (ix t.Peers (k : Int)).Common ∧ (ix t.Peers (k : Int)).Common ≤ 1073741824
  asc : ∀ i j : Nat, i < j → j < t.Peers.length → (ix t.Peers (i : Int)).Site < (ix t.Peers (j : Int)).Site
theorem bmsC_zero {d : List api_Bitmap} {sizes : List Int} (h : bmsC d sizes = 0) : BmsOk sizes d := by
  unfold bmsC at h
  split at h
  · omega
  · rename_i hl
    refine ⟨by omega, fun v hv => ?_⟩
    have := firstN_zero.1 h v (by omega)
    unfold bmsE at this
    split at this
    · rename_i q; exact absurd this q
    · rename_i q
      split at this
      · omega
      · rename_i q2; exact ⟨Classical.not_not.1 q, Classical.not_not.1 q2⟩
theorem trk_ok {t : api_Tracker} (h : trkE t = 0) : TrkOk t := by
  unfold trkE at h
  split at h
  · rename_i q; exact absurd h q
  rename_i q
  split at h
  · omega
  have hz := firstN_zero.1 h
  have pk : ∀ k : Nat, k < t.Peers.length → (0 ≤ (ix t.Peers (k : Int)).Site ∧ (ix t.Peers (k : Int)).Site < 4) ∧ ¬ (0 < (k : Int) ∧ (ix t.Peers (k : Int)).Site ≤ (ix t.Peers ((k : Int) - 1)).Site) ∧ (0 ≤ (ix t.Peers (k : Int)).Common ∧ (ix t.Peers (k : Int)).Common ≤ 1073741824) ∧ bmsC (ix t.Peers (k : Int)).Dirty t.Sizes = 0 := fun k hk => by
    have := hz k hk
    unfold peerE at this
    split at this
    · omega
    split at this
    · omega
    split at this
    · omega
    rename_i n1 n2 n3
    exact ⟨by omega, n2, by omega, this⟩
  refine ⟨Classical.not_not.1 q, by omega, fun k hk => bmsC_zero (pk k hk).2.2.2, fun k hk => (pk k hk).1, fun k hk => (pk k hk).2.2.1, fun i j hij hj => ?_⟩
  induction j with
  | zero => omega
  | succ j ih =>
    have h1 := (pk (j + 1) hj).2.1
    rw [show ((j + 1 : Nat) : Int) - 1 = (j : Int) by omega] at h1
    rcases Nat.lt_or_ge i j with h2 | h2
    · have := ih h2 (by omega); omega
    · have : i = j := by omega
      subst this; omega
theorem sizes_ok {l : List Int} (h : ¬ sizesE l ≠ 0) : l.length ≤ 8 ∧ 1 ≤ l.length ∧ ∀ k : Nat, k < l.length → 1 ≤ ix l (k : Int) ∧ ix l (k : Int) ≤ 4096 := by
  have h0 := Classical.not_not.1 h
  unfold sizesE at h0
  split at h0
  · omega
  · refine ⟨by omega, by omega, fun k hk => ?_⟩
    have := firstN_zero.1 h0 k hk
    split at this <;> omega
theorem fitW_zero {sizes : List Int} {w : api_Write} (hs : ¬ sizesE sizes ≠ 0) (h : fitW sizes w = 0) : 0 ≤ w.Volume ∧ w.Volume < (sizes.length : Int) ∧ 1 ≤ w.Data.length ∧ 0 ≤ w.Start ∧ w.Start + (w.Data.length : Int) ≤ ix sizes w.Volume ∧ ix sizes w.Volume ≤ 4096 := by
  unfold fitW at h
  split at h
  · omega
  split at h
  · omega
  split at h
  · omega
  obtain ⟨v, hv⟩ := Int.eq_ofNat_of_zero_le (show 0 ≤ w.Volume by omega)
  have hz := (sizes_ok hs).2.2 v (by omega)
  rw [← hv] at hz
  omega
structure FitW (sizes : List Int) (w : api_Write) (v s : Nat) : Prop where
  vol : w.Volume = (v : Int)
  start : w.Start = (s : Int)
  hv : v < sizes.length
  len : 1 ≤ w.Data.length
  le : ((s + w.Data.length : Nat) : Int) ≤ ix sizes (v : Int)
  top : ix sizes (v : Int) ≤ 4096
theorem fitW_of {sizes : List Int} {w : api_Write} (hs : ¬ sizesE sizes ≠ 0) (h : fitW sizes w = 0) : ∃ v s : Nat, FitW sizes w v s := by
  have := fitW_zero hs h
  obtain ⟨v, hv⟩ := Int.eq_ofNat_of_zero_le this.1
  obtain ⟨s, hst⟩ := Int.eq_ofNat_of_zero_le this.2.2.2.1
  rw [hv, hst] at this
  exact ⟨v, s, hv, hst, by omega, by omega, by omega, by omega⟩
theorem cycle_in_ok {x lo hi : Int} {Φ : Bool → Prop} (h : Φ (decide (lo ≤ x ∧ x ≤ hi))) : cycle_in_W x lo hi Φ := by
  refine ⟨fun q => ?_, fun q => ?_⟩
  · rw [show decide (lo ≤ x ∧ x ≤ hi) = decide (x ≤ hi) from by simp [q]] at h; exact h
  · rw [show decide (lo ≤ x ∧ x ≤ hi) = false from decide_eq_false fun r => q r.1] at h; exact h
def posE (l : List Int) : Int := firstN (fun k => if ix l (k : Int) < 0 ∨ 1073741824 < ix l (k : Int) then 2 else 0) l.length
def posR (least : Int) (l : List Int) : Int := if (l.length : Int) < least ∨ 8 < (l.length : Int) then 6 else posE l
theorem cycle_positions_ok {l : List Int} {least : Int} {Φ : Int → Prop} (hl : l.length ≤ 100000) (hΦ : Φ (posR least l)) : Z36 l least Φ := by
  refine cycle_in_ok ⟨fun q => ?_, fun q => ?_⟩
  · have := of_decide_eq_false (Bool.eq_false_iff.2 q)
    unfold posR at hΦ
    rw [if_pos (by omega)] at hΦ; exact hΦ
  · have := of_decide_eq_true (Classical.not_not.1 q)
    unfold posR at hΦ
    rw [if_neg (by omega)] at hΦ
    refine LoopW.errI l.length (fun k => (k : Int)) _ rfl hΦ (fun k rec hk _ h1 h2 => ?_) fun rec _ h0 => ⟨fun _ => by omega, fun _ => ⟨fun _ => by omega, fun _ => h0⟩⟩
    refine ⟨fun _ => ⟨iX (by omega) (by omega), cycle_in_ok ⟨fun r => ?_, fun r => ?_⟩⟩, fun _ => by omega⟩
    · have r := of_decide_eq_true r
      have r : ¬ (0 ≤ ix l (k : Int) ∧ ix l (k : Int) ≤ 1073741824) := fun t => r (decide_eq_true t)
      have c : ix l (k : Int) < 0 ∨ 1073741824 < ix l (k : Int) := by omega
      have := h1 (by rw [if_pos c]; omega)
      rw [if_pos c] at this
      exact ⟨fun _ => this, fun s => by omega⟩
    · have r : ¬ ¬ (decide (0 ≤ ix l (k : Int) ∧ ix l (k : Int) ≤ 1073741824) = true) := fun t => r (decide_eq_true t)
      have r := of_decide_eq_true (Classical.not_not.1 r)
      exact ⟨iI (by omega) (by omega), h2 (if_neg (by omega)) _ rfl⟩
def ordW (sizes : List Int) (l : List api_Write) (k : Nat) : Int :=
  if fitW sizes (ix l (k : Int)) ≠ 0 then fitW sizes (ix l (k : Int)) else if k = 0 then 0 else if (ix l (k : Int)).Volume < (ix l ((k : Int) - 1)).Volume ∨ ((ix l (k : Int)).Volume = (ix l ((k : Int) - 1)).Volume ∧ (ix l (k : Int)).Start ≤ (ix l ((k : Int) - 1)).Start + ((ix l ((k : Int) - 1)).Data.length : Int)) then 3 else 0
def wrsE (sizes : List Int) (l : List api_Write) : Int := firstN (ordW sizes l) l.length
theorem ordW_fit {sizes : List Int} {l : List api_Write} {k : Nat} (h : ordW sizes l k = 0) : fitW sizes (ix l (k : Int)) = 0 := by
  unfold ordW at h
  split at h
  · next q => exact absurd h q
  · next q => exact Classical.not_not.1 q
theorem coalesce_Check_ok {l : List api_Write} {sizes : List Int} {Φ : Int → Prop} (hl : l.length ≤ 100000) (hd : ∀ w ∈ l, w.Data.length ≤ 1000000) (h0 : sizesE sizes ≠ 0 → Φ (sizesE sizes)) (h1 : sizesE sizes = 0 → Φ (wrsE sizes l)) : Z38 l sizes Φ := by
  refine image_New_ok (fun hs => ⟨fun q => absurd rfl q, fun _ => ?_⟩) fun hs => ⟨fun _ => h0 hs, fun q => absurd hs q⟩
  have e := szs_zeroI hs
  refine LoopW.errI l.length (fun k => (k : Int)) _ rfl (h1 hs) (fun k rec hk hj g1 g2 => ⟨fun _ => ⟨iX (by omega) (by omega), ?_⟩, fun _ => by omega⟩) fun rec _ h0 => ⟨fun _ => by omega, fun _ => h0⟩
  have hmem := hd _ (ix_mem (iX (i := (k : Int)) (n := l.length) (by omega) (by omega)))
  refine image_Fits_ok hmem (by unfold imgE; rw [e]; exact hs) ?_
  rw [e]
  unfold ordW at g1 g2
  refine ⟨fun q => ?_, fun q => ?_⟩
  · rw [if_pos q] at g1; exact g1 q
  · rw [if_neg q] at g1 g2
    refine ⟨fun r => ?_, fun r => ?_⟩
    · rw [if_pos (by omega)] at g2
      exact ⟨iI (by omega) (by omega), g2 rfl _ rfl⟩
    · rw [if_neg (by omega)] at g1 g2
      have hp := ordW_fit (hj (k - 1) (by omega))
      obtain ⟨v, s, hf⟩ := fitW_of (by omega) hp
      have z1 := hf.le
      have z2 := hf.top
      have z3 := hf.start
      have ek : ((k - 1 : Nat) : Int) = (k : Int) - 1 := by omega
      rw [ek] at z1 z3
      refine ⟨iI (by omega) (by omega), iX (by omega) (by omega), fun t => ?_, fun t => ⟨fun u => ⟨iI (by omega) (by omega), fun x => ?_, fun x => ?_⟩, fun u => ?_⟩⟩
      · rw [if_pos (.inl t)] at g1; exact g1 (by omega)
      · rw [if_pos (.inr ⟨u, x⟩)] at g1; exact g1 (by omega)
      · rw [if_neg (by omega)] at g2; exact ⟨iI (by omega) (by omega), g2 rfl _ rfl⟩
      · rw [if_neg (by omega)] at g2; exact ⟨iI (by omega) (by omega), g2 rfl _ rfl⟩
def cycE (c : api_Cycle) (sizes : List Int) : Int :=
  if sizesE sizes ≠ 0 then sizesE sizes else if c.Base < 0 ∨ c.Number ≤ c.Base ∨ 1073741824 < c.Number then 2 else if c.Time < 0 ∨ 1073741824 < c.Time then 24 else if posR 0 c.Positions ≠ 0 then posR 0 c.Positions else wrsE sizes c.Writes
theorem cycle_Check_ok {c : api_Cycle} {sizes : List Int} {Φ : Int → Prop} (hp : c.Positions.length ≤ 100000) (hl : c.Writes.length ≤ 100000) (hd : ∀ w ∈ c.Writes, w.Data.length ≤ 1000000) (hΦ : Φ (cycE c sizes)) : cycle_Check_W c sizes Φ := by
  unfold cycE at hΦ
  refine image_New_ok (fun hs => ⟨fun q => absurd rfl q, fun _ => ?_⟩) fun hs => ⟨fun _ => by rw [if_pos hs] at hΦ; exact hΦ, fun q => absurd hs q⟩
  rw [if_neg (by omega)] at hΦ
  have J : ∀ b : Bool, (b = true ↔ c.Base < 0 ∨ c.Number ≤ c.Base ∨ 1073741824 < c.Number) → Z39 c sizes Φ b := fun b hb => by
    refine ⟨fun q => by rw [if_pos (hb.1 q)] at hΦ; exact hΦ, fun q => ?_⟩
    rw [if_neg fun r => q (hb.2 r)] at hΦ
    refine cycle_in_ok ⟨fun r => ?_, fun r => ?_⟩
    · have := of_decide_eq_false (Bool.eq_false_iff.2 r)
      rw [if_pos (by omega)] at hΦ; exact hΦ
    · have := of_decide_eq_true (Classical.not_not.1 r)
      rw [if_neg (by omega)] at hΦ
      refine cycle_positions_ok hp ⟨fun t => by rw [if_pos t] at hΦ; exact hΦ, fun t => ?_⟩
      rw [if_neg t] at hΦ
      exact coalesce_Check_ok hl hd (fun u => absurd hs u) fun _ => hΦ
  exact ⟨fun q => J true ⟨fun _ => .inl q, fun _ => rfl⟩, fun q => ⟨fun r => J true ⟨fun _ => .inr (.inl r), fun _ => rfl⟩, fun r => J _ (by simp; omega)⟩⟩
theorem slices_Clone_int_ok {l : List Int} {Φ : List Int → Prop} (hl : l.length ≤ 1000000) (hΦ : Φ l) : Z11 l Φ :=
  ⟨fun h => (by subst h; exact hΦ), iL hl (by omega), hΦ⟩
theorem tracker_between_ok {x lo hi : Int} {Φ : Bool → Prop} (h : Φ (decide (lo ≤ x ∧ x ≤ hi))) : Z6 x lo hi Φ := by
  refine ⟨fun q => ?_, fun q => ?_⟩
  · rw [show decide (lo ≤ x ∧ x ≤ hi) = decide (x ≤ hi) from by simp [q]] at h; exact h
  · rw [show decide (lo ≤ x ∧ x ≤ hi) = false from decide_eq_false fun r => q r.1] at h; exact h
theorem tracker_between_ways {x lo hi : Int} {Φ : Bool → Prop} (h1 : ¬ (lo ≤ x ∧ x ≤ hi) → Φ false) (h2 : lo ≤ x ∧ x ≤ hi → Φ true) : Z6 x lo hi Φ := by
  refine tracker_between_ok ?_
  by_cases q : lo ≤ x ∧ x ≤ hi
  · rw [decide_eq_true q]; exact h2 q
  · rw [decide_eq_false q]; exact h1 q
theorem tracker_site_ways {x : Int} {Φ : Bool → Prop} (h1 : x < 0 ∨ 4 ≤ x → Φ false) (h2 : ¬ (x < 0 ∨ 4 ≤ x) → Φ true) : Z7 x Φ :=
  tracker_between_ways (fun q => h1 (by omega)) fun q => h2 (by omega)
theorem ff {P Q : Prop} (h : P) : (¬ (false = true) → P) ∧ (¬ (¬ (false = true)) → Q) := ⟨fun _ => h, fun q => absurd (by simp) q⟩
theorem tt {P Q : Prop} (h : Q) : (¬ (true = true) → P) ∧ (¬ (¬ (true = true)) → Q) := ⟨fun q => absurd rfl q, fun _ => h⟩
theorem fF {P Q : Prop} (h : Q) : (false = true → P) ∧ (¬ (false = true) → Q) := ⟨fun q => absurd q (by simp), fun _ => h⟩
theorem tT {P Q : Prop} (h : P) : (true = true → P) ∧ (¬ (true = true) → Q) := ⟨fun _ => h, fun q => absurd rfl q⟩
theorem tracker_checkBitmaps_ok {d : List api_Bitmap} {sizes : List Int} {Φ : Int → Prop} (hl : sizes.length ≤ 100000) (hΦ : Φ (bmsC d sizes)) : Z18 d sizes Φ := by
  unfold bmsC at hΦ
  refine ⟨fun q => by rw [if_pos q] at hΦ; exact hΦ, fun q => ?_⟩
  rw [if_neg q] at hΦ
  refine LoopW.errI d.length (fun k => ((k : Int), List.replicate k true)) (bmsE d sizes) rfl hΦ (fun k rec hk _ h1 h2 => ⟨fun _ => ⟨iX (by omega) (by omega), iX (by omega) (by omega), ?_⟩, fun z => absurd (show (k : Int) < (d.length : Int) by omega) z⟩) fun rec _ h => ⟨fun z => absurd (show (d.length : Int) < (d.length : Int) from z) (by omega), fun _ => h⟩
  by_cases a1 : chkB (ix d (k : Int)) ≠ 0
  · have e : bmsE d sizes k = chkB (ix d (k : Int)) := if_pos a1
    rw [e] at h1
    exact ⟨(false, chkB (ix d (k : Int)), ()), bitmap_Check_ok ⟨fun _ => rfl, fun z => absurd a1 z⟩, fun _ => h1 a1, fun z => absurd a1 z⟩
  · by_cases a2 : (ix d (k : Int)).Size ≠ ix sizes (k : Int)
    · have e : bmsE d sizes k = 22 := by unfold bmsE; rw [if_neg a1, if_pos a2]
      rw [e] at h1
      exact ⟨(false, 22, ()), bitmap_Check_ok ⟨fun z => absurd z a1, fun _ => ⟨fun _ => rfl, fun z => absurd a2 z⟩⟩, fun _ => h1 (by decide), fun z => absurd (show (22 : Int) ≠ 0 by decide) z⟩
    · have e : bmsE d sizes k = 0 := by unfold bmsE; rw [if_neg a1, if_neg a2]
      exact ⟨(true, 0, ()), bitmap_Check_ok ⟨fun z => absurd z a1, fun _ => ⟨fun z => absurd z a2, fun _ => rfl⟩⟩, fun z => absurd rfl z, fun _ => ⟨iL (by rw [len_snoc, List.length_replicate]; omega) (by omega), iI (by omega) (by omega), h2 e _ (Prod.ext rfl List.replicate_succ'.symm)⟩⟩
theorem tracker_Check_ok0 {t : api_Tracker} {Φ : Int → Prop} (hΦ : Φ (trkE t)) : Z20 t Φ := by
  unfold trkE at hΦ
  refine image_New_ok (fun q => ⟨fun z => absurd rfl z, fun _ => ?_⟩) fun q => ⟨fun _ => by rw [if_pos q] at hΦ; exact hΦ, fun z => absurd q z⟩
  rw [if_neg (fun z => z q)] at hΦ
  refine ⟨fun q2 => by rw [if_pos q2] at hΦ; exact hΦ, fun q2 => ?_⟩
  rw [if_neg q2] at hΦ
  refine LoopW.errI t.Peers.length (fun k => ((if k = 0 then -1 else (ix t.Peers ((k : Int) - 1)).Site), (k : Int))) (peerE t) rfl hΦ (fun k rec hk _ h1 h2 => ?_) fun rec _ h => ⟨fun z => absurd (show (t.Peers.length : Int) < (t.Peers.length : Int) from z) (by omega), fun _ => h⟩
  have hlt : (k : Int) < (t.Peers.length : Int) := by omega
  refine ⟨fun _ => ⟨iX (by omega) hlt, tracker_site_ways (fun n1 => ff ?_) fun n1 => tt ⟨fun q4 => ?_, fun q4 => ?_⟩⟩, fun z => absurd hlt z⟩
  · have e : peerE t k = 2 := if_pos n1
    rw [e] at h1; exact h1 (by decide)
  · have e : peerE t k = 8 := by
      unfold peerE
      rw [if_neg n1]
      by_cases h0 : k = 0
      · rw [if_pos h0] at q4; omega
      · rw [if_neg h0] at q4; rw [if_pos ⟨by omega, q4⟩]
    rw [e] at h1; exact h1 (by decide)
  · have n2 : ¬ (0 < (k : Int) ∧ (ix t.Peers (k : Int)).Site ≤ (ix t.Peers ((k : Int) - 1)).Site) := fun h => by
      rw [if_neg (show ¬ k = 0 by omega)] at q4
      exact q4 h.2
    refine tracker_between_ways (fun q5 => ff ?_) fun q5 => tt (tracker_checkBitmaps_ok (by have := sizesE_len q; omega) ?_)
    · have e : peerE t k = 2 := by unfold peerE; rw [if_neg n1, if_neg n2, if_pos (by omega)]
      rw [e] at h1; exact h1 (by decide)
    · have e : peerE t k = bmsC (ix t.Peers (k : Int)).Dirty t.Sizes := by unfold peerE; rw [if_neg n1, if_neg n2, if_neg (by omega)]
      rw [e] at h1 h2
      refine ⟨fun q6 => h1 q6, fun q6 => ⟨iI (by omega) (by omega), h2 (Classical.not_not.1 q6) _ (Prod.ext ?_ rfl)⟩⟩
      show (ix t.Peers (k : Int)).Site = if k + 1 = 0 then (-1 : Int) else (ix t.Peers (((k + 1 : Nat) : Int) - 1)).Site
      rw [if_neg (Nat.succ_ne_zero k), show ((k + 1 : Nat) : Int) - 1 = (k : Int) by omega]
theorem tracker_Check_ok {t : api_Tracker} {Φ : Int → Prop} (_ : ∀ p ∈ t.Peers, p.Dirty.length ≤ 100000) (hΦ : Φ (trkE t)) : Z20 t Φ := tracker_Check_ok0 hΦ
theorem mput_newP {κ ν : Type} [DecidableEq κ] {k : κ} {v : ν} : ∀ {m : List (κ × ν)}, k ∉ m.map (·.1) → mput m k v = m ++ [(k, v)]
  | [], _ => rfl
  | p :: m, h => by
    have h1 : ¬ k = p.1 := fun e => h (by rw [e]; exact List.mem_cons_self)
    unfold mput
    rw [if_neg h1, mput_newP fun q => h (List.mem_cons_of_mem _ q)]; rfl
theorem mfind_none {κ ν : Type} [DecidableEq κ] {k : κ} : ∀ {m : List (κ × ν)}, k ∉ m.map (·.1) → mfind m k = none
  | [], _ => rfl
  | p :: m, h => by
    have h1 : ¬ k = p.1 := fun e => h (by rw [e]; exact List.mem_cons_self)
    unfold mfind
    rw [if_neg h1, mfind_none fun q => h (List.mem_cons_of_mem _ q)]
theorem mfind_some {κ ν : Type} [DecidableEq κ] {k : κ} : ∀ {m : List (κ × ν)}, k ∈ m.map (·.1) → (mfind m k).isSome = true
  | [], h => absurd h List.not_mem_nil
  | p :: m, h => by
    unfold mfind
    by_cases h1 : k = p.1
    · rw [if_pos h1]; rfl
    · rw [if_neg h1]
      rcases List.mem_cons.1 h with e | e
      · exact absurd e h1
      · exact mfind_some e
theorem mhas_iff {κ ν : Type} [DecidableEq κ] {k : κ} {m : List (κ × ν)} : mhas m k = true ↔ k ∈ m.map (·.1) := by
  unfold mhas
  by_cases h : k ∈ m.map (·.1)
  · obtain ⟨v, hv⟩ := Option.isSome_iff_exists.1 (mfind_some h)
    rw [hv]; exact ⟨fun _ => h, fun _ => rfl⟩
  · rw [mfind_none h]; exact ⟨fun q => absurd q (by simp), fun q => absurd q h⟩
theorem mfind_at {κ ν : Type} [DecidableEq κ] : ∀ {m : List (κ × ν)} {p : κ × ν}, (m.map (·.1)).Nodup → p ∈ m → mfind m p.1 = some p.2
  | [], _, _, h => absurd h List.not_mem_nil
  | q :: m, p, hn, h => by
    have h1 := List.nodup_cons.1 hn
    unfold mfind
    rcases List.mem_cons.1 h with rfl | h
    · rw [if_pos rfl]
    · rw [if_neg fun e => h1.1 (List.mem_map.2 ⟨p, h, e⟩)]
      exact mfind_at h1.2 h
theorem mget_at {κ ν : Type} [DecidableEq κ] {m : List (κ × ν)} {p : κ × ν} {z : ν} (hn : (m.map (·.1)).Nodup) (h : p ∈ m) : mget m p.1 z = p.2 := by
  unfold mget; rw [mfind_at hn h]
def keyP (p : api_Peer) : Int × api_Peer := (p.Site, p)
theorem keys_keyP (l : List api_Peer) : (l.map keyP).map (fun p => p.1) = l.map (·.Site) := by rw [List.map_map]; rfl
theorem get_keyP {l : List api_Peer} {p z : api_Peer} (hn : (l.map (·.Site)).Nodup) (hp : p ∈ l) : mget (l.map keyP) p.Site z = p := by
  have := mget_at (m := l.map keyP) (p := keyP p) (z := z) (by rw [keys_keyP]; exact hn) (List.mem_map_of_mem hp)
  exact this
def noTrk : api_Tracker := ⟨[], []⟩
def badS (s : Int) : Bool := decide (s < 0 ∨ 4 ≤ s)
def siteK (sites : List Int) (k : Nat) : List Int := ((List.range k).map fun j : Nat => (j : Int)).filter fun s => decide (s ∈ sites)
def newP (sizes : List Int) (common s : Int) : api_Peer := ⟨s, common, sizes.map newB⟩
def newT (sizes sites : List Int) (common : Int) : api_Tracker × Int :=
  if sizesE sizes ≠ 0 then (noTrk, sizesE sizes) else if 4 < (sites.length : Int) then (noTrk, 6) else if sites.any badS = true then (noTrk, 2) else if ¬ sites.Nodup then (noTrk, 8)
  else if common < 0 ∨ 1073741824 < common then (noTrk, 2) else (⟨sizes, (siteK sites 4).map (newP sizes common)⟩, 0)
theorem siteK_mem {sites : List Int} {k : Nat} {x : Int} : x ∈ siteK sites k ↔ (0 ≤ x ∧ x < (k : Int)) ∧ x ∈ sites := by
  unfold siteK
  rw [List.mem_filter, decide_eq_true_iff]
  refine and_congr ⟨fun h => ?_, fun h => ?_⟩ Iff.rfl
  · obtain ⟨j, hj, rfl⟩ := List.mem_map.1 h
    have := List.mem_range.1 hj
    omega
  · exact List.mem_map.2 ⟨x.toNat, List.mem_range.2 (by omega), by omega⟩
theorem siteK_asc (sites : List Int) (k : Nat) : (siteK sites k).Pairwise fun a b => a < b := by
  unfold siteK
  refine List.Pairwise.filter _ (List.pairwise_map.2 (List.pairwise_lt_range.imp fun h => by omega))
theorem siteK_succ (sites : List Int) (k : Nat) : siteK sites (k + 1) = siteK sites k ++ (if (k : Int) ∈ sites then [(k : Int)] else []) := by
  unfold siteK
  rw [List.range_succ, List.map_append, List.filter_append]
  congr 1
  by_cases h : (k : Int) ∈ sites <;> simp [h]
theorem siteK_len (sites : List Int) : ∀ k : Nat, (siteK sites k).length ≤ k
  | 0 => Nat.le_refl _
  | k + 1 => by
    rw [siteK_succ, List.length_append]
    have := siteK_len sites k
    split
    · rw [List.length_singleton]; omega
    · rw [List.length_nil]; omega
theorem sort_sites {sites : List Int} (hb : ∀ s ∈ sites, badS s = false) (hn : sites.Nodup) : sortZ sites = siteK sites 4 := by
  refine asc_ext (sortZ_lt hn) (siteK_asc _ _) fun x => ?_
  rw [sortZ_mem, siteK_mem]
  refine ⟨fun h => ⟨?_, h⟩, fun h => h.2⟩
  have := of_decide_eq_false (hb x h)
  omega
theorem tracker_New_ok {sizes sites : List Int} {common : Int} {Φ : api_Tracker × Int → Prop} (hΦ : Φ (newT sizes sites common)) : tracker_New_W sizes sites common Φ := by
  unfold newT at hΦ
  refine image_New_ok (fun q => ⟨fun z => absurd rfl z, fun _ => ?_⟩) fun q => ⟨fun _ => by rw [if_pos q] at hΦ; exact hΦ, fun z => absurd q z⟩
  rw [if_neg (fun z => z q)] at hΦ
  refine ⟨fun q2 => by rw [if_pos q2] at hΦ; exact hΦ, fun q2 => ?_⟩
  rw [if_neg q2] at hΦ
  refine LoopW.anyL sites badS (Φ := fun b => (b = true → Φ (noTrk, 2)) ∧ (b = false → LoopW (Z13 sizes sites common Φ) (0, ([] : List (Int × api_Peer))))) ⟨fun z => by rw [if_pos z] at hΦ; exact hΦ, fun z => ?_⟩ (fun k rec hk h1 h2 => ⟨fun _ => ⟨iX (by omega) (by omega), tracker_site_ways (fun n => ff ((h1 (decide_eq_true n)).1 rfl)) fun n => tt ⟨iI (by omega) (by omega), h2 (decide_eq_false n)⟩⟩, fun q => absurd (show (k : Int) < (sites.length : Int) by omega) q⟩) fun rec h => ⟨fun q => absurd q (by omega), fun _ => h.2 rfl⟩
  rw [if_neg (by rw [z]; simp)] at hΦ
  have hb : ∀ s ∈ sites, badS s = false := fun s hs => by
    cases hx : badS s with
    | false => rfl
    | true => rw [List.any_eq_true.2 ⟨s, hs, hx⟩] at z; cases z
  have hs := sizesE_len q
  refine LoopW.upI sites.length (fun k => ((k : Int), (sites.take k).map fun s => (s, newP sizes common s))) (fun k => (sites.take k).Nodup) rfl (by simp) (fun k rec hk hI hrec => ?_) fun rec hI => ?_
  · have hkey : ((sites.take k).map fun s => (s, newP sizes common s)).map (·.1) = sites.take k := by rw [List.map_map]; exact List.map_id' _
    refine ⟨fun _ => ⟨iX (by omega) (by omega), fun hh => ?_, fun hh => tracker_clean_ok (by omega) (fun j hj => by have := sizesE_ix q hj; omega) ⟨fun z => absurd rfl z, fun _ => ⟨iI (by omega) (by omega), ?_⟩⟩⟩, fun q => absurd (show (k : Int) < (sites.length : Int) by omega) q⟩
    · have hh := mhas_iff.1 hh
      rw [hkey] at hh
      rw [if_pos fun hn => ?_] at hΦ
      · exact hΦ
      · have h3 : (sites.take (k + 1)).Nodup := hn.sublist (List.take_sublist _ _)
        rw [take_ix hk] at h3
        have := (List.nodup_append.1 h3).2.2 _ hh _ (List.mem_singleton.2 rfl)
        exact this rfl
    · have hh : ix sites (k : Int) ∉ sites.take k := fun h => hh (mhas_iff.2 (by rw [hkey]; exact h))
      refine hrec ?_ _ (Prod.ext rfl ?_)
      · rw [take_ix hk]
        exact List.nodup_append.2 ⟨hI, List.nodup_cons.2 ⟨List.not_mem_nil, List.nodup_nil⟩, fun a ha b hb e => hh (by rw [List.mem_singleton.1 hb] at e; rw [← e]; exact ha)⟩
      · rw [map_take_snoc _ hk]
        exact mput_newP (by rw [hkey]; exact hh)
  · rw [take_all] at hI ⊢
    rw [if_neg (fun z => z hI)] at hΦ
    have hkey : (sites.map fun s => (s, newP sizes common s)).map (fun p => p.1) = sites := by rw [List.map_map]; exact List.map_id' _
    refine ⟨fun z => absurd (show (sites.length : Int) < (sites.length : Int) from z) (by omega), fun _ => tracker_between_ways (fun q5 => ff (by rw [if_pos (by omega)] at hΦ; exact hΦ)) fun q5 => tt (slices_Clone_int_ok (by omega) ⟨by rw [hkey]; exact hI, fun p hp => ?_, iL (by rw [List.length_map]; omega) (by omega), ?_⟩)⟩
    · obtain ⟨s, hs, rfl⟩ := List.mem_map.1 hp
      have := of_decide_eq_false (hb s hs)
      exact iI (by show -9223372036854775808 ≤ s; omega) (by show s ≤ 9223372036854775807; omega)
    · rw [if_neg (show ¬ (common < 0 ∨ 1073741824 < common) by omega)] at hΦ
      have hks : sortZ ((sites.map fun s => (s, newP sizes common s)).map fun p => p.1) = siteK sites 4 := by rw [hkey]; exact sort_sites hb hI
      have hl4 := siteK_len sites 4
      generalize hz : Z12 (sites.map fun s => (s, newP sizes common s)) sizes Φ = step
      have hstep : ∀ s rec, step s rec = Z12 (sites.map fun s => (s, newP sizes common s)) sizes Φ s rec := fun s rec => by rw [hz]
      refine LoopW.upT (siteK sites 4).length (fun k => ((k : Int), ((siteK sites 4).take k).map (newP sizes common))) rfl (fun k rec hk hrec => ?_) fun rec => ?_
      · rw [hstep]
        have hm : ix (siteK sites 4) (k : Int) ∈ sites := (siteK_mem.1 (ix_mem (iX (show (0 : Int) ≤ (k : Int) by omega) (by omega)))).2
        have hg : mget (sites.map fun s => (s, newP sizes common s)) (ix (siteK sites 4) (k : Int)) (api_Peer.mk 0 0 ([] : List api_Bitmap)) = newP sizes common (ix (siteK sites 4) (k : Int)) :=
          mget_at (m := sites.map fun s => (s, newP sizes common s)) (p := (ix (siteK sites 4) (k : Int), newP sizes common (ix (siteK sites 4) (k : Int)))) (by rw [List.map_map]; exact (List.map_id' sites).symm ▸ hI) (List.mem_map.2 ⟨_, hm, rfl⟩)
        unfold Z12
        simp only
        rw [hks, hg]
        exact ⟨fun _ => ⟨iX (by omega) (by omega), iL (by rw [len_snoc, List.length_map, lenT (Nat.le_of_lt hk)]; omega) (by omega), iI (by omega) (by omega), hrec _ (Prod.ext rfl (map_take_snoc _ hk).symm)⟩, fun q => absurd (show (k : Int) < ((siteK sites 4).length : Int) by omega) q⟩
      · rw [hstep]
        unfold Z12
        simp only
        rw [hks, take_all]
        exact ⟨fun q => absurd q (by omega), fun _ => hΦ⟩
theorem sizesE_at {sizes : List Int} (h : sizesE sizes = 0) (k : Nat) (hk : k < sizes.length) : 0 ≤ ix sizes (k : Int) ∧ ix sizes (k : Int) ≤ 4096 := by
  have := sizesE_ix h hk
  omega
theorem TrkOk.small {t : api_Tracker} (h : TrkOk t) : t.Sizes.length ≤ 8 ∧ t.Peers.length ≤ 4 ∧ ∀ p ∈ t.Peers, p.Dirty.length ≤ 8 ∧ ∀ b ∈ p.Dirty, b.Words.length ≤ 1000 := by
  have h8 := sizesE_len h.hs
  refine ⟨h8.2, h.n4, fun p hp => ?_⟩
  obtain ⟨k, hk, rfl⟩ := List.getElem_of_mem hp
  have hb := h.bms k hk
  rw [ix_get hk] at hb
  exact ⟨by have := hb.len; omega, fun b hb' => (hb.words b hb').2⟩
theorem TrkOk.dirty {t : api_Tracker} (h : TrkOk t) {p : api_Peer} (hp : p ∈ t.Peers) : BmsOk t.Sizes p.Dirty := by
  obtain ⟨k, hk, rfl⟩ := List.getElem_of_mem hp
  have hb := h.bms k hk
  rwa [ix_get hk] at hb
theorem TrkOk.sites {t : api_Tracker} (h : TrkOk t) : (t.Peers.map (·.Site)).Pairwise fun a b => a < b := by
  rw [List.pairwise_map]
  refine List.pairwise_iff_getElem.2 fun i j hi hj hij => ?_
  have := h.asc i j hij hj
  rwa [ix_get hi, ix_get hj] at this
theorem asc_nodup {l : List Int} (h : l.Pairwise fun a b => a < b) : l.Nodup := h.imp fun q => by omega
theorem tracker_own_ok {b : api_Bitmap} {Φ : api_Bitmap → Prop} (hl : b.Words.length ≤ 1000000) (hΦ : Φ b) : tracker_own_W b Φ := ⟨(b.Words, ()), clone_word_ok hl rfl, hΦ⟩
theorem tracker_ownAll_ok {d : List api_Bitmap} {Φ : List api_Bitmap → Prop} (hl : d.length ≤ 100000) (hw : ∀ b ∈ d, b.Words.length ≤ 1000000) (hΦ : Φ d) : Z25 d Φ := by
  refine LoopW.upT d.length (fun k => ((k : Int), d.take k)) rfl (fun k rec hk hrec => ⟨fun _ => ⟨iX (by omega) (by omega), tracker_own_ok (hw _ (ix_mem (iX (by omega) (by omega)))) ⟨iL (by rw [len_snoc, lenT (Nat.le_of_lt hk)]; omega) (by omega), iI (by omega) (by omega), hrec _ (Prod.ext rfl (take_ix hk).symm)⟩⟩, fun q => absurd (show (k : Int) < (d.length : Int) by omega) q⟩) fun rec => ⟨fun q => absurd (show (d.length : Int) < (d.length : Int) from q) (by omega), fun _ => ?_⟩
  rw [take_all]; exact hΦ
def fndK (l : List api_Peer) (n : Int) : Nat := l.findIdx fun p => decide (p.Site = n)
theorem fndK_lt {l : List api_Peer} {n : Int} (h : fndK l n < l.length) : (ix l (fndK l n : Int)).Site = n := by
  rw [ix_get h]
  exact of_decide_eq_true (List.findIdx_getElem (w := h))
theorem fndK_mem {l : List api_Peer} {n : Int} : fndK l n < l.length ↔ n ∈ l.map (·.Site) := by
  constructor
  · intro h
    exact List.mem_map.2 ⟨_, ix_mem (iX (show (0 : Int) ≤ (fndK l n : Int) by omega) (by omega)), fndK_lt h⟩
  · intro h
    obtain ⟨p, hp, e⟩ := List.mem_map.1 h
    exact List.findIdx_lt_length_of_exists ⟨p, hp, decide_eq_true e⟩
def dirtyT (t : api_Tracker) (n : Int) : List api_Bitmap × Int × Int :=
  if trkE t ≠ 0 then ([], 0, trkE t) else if fndK t.Peers n < t.Peers.length then ((ix t.Peers (fndK t.Peers n : Int)).Dirty, (ix t.Peers (fndK t.Peers n : Int)).Common, 0) else ([], 0, 7)
theorem keyP_take {l : List api_Peer} {k : Nat} (hk : k < l.length) (hn : (l.map (·.Site)).Nodup) : mput ((l.take k).map keyP) (ix l (k : Int)).Site (ix l (k : Int)) = (l.take (k + 1)).map keyP := by
  rw [mput_newP]
  · rw [map_take_snoc keyP hk]; rfl
  · rw [keys_keyP]
    intro h
    have h2 : ((l.take (k + 1)).map (·.Site)).Nodup := hn.sublist ((List.take_sublist _ _).map _)
    rw [map_take_snoc (·.Site) hk] at h2
    exact (List.nodup_append.1 h2).2.2 _ h _ (List.mem_singleton.2 rfl) rfl
theorem mget_keyP {l : List api_Peer} {n : Int} (hn : (l.map (·.Site)).Nodup) (h : fndK l n < l.length) (z : api_Peer) : mget (l.map keyP) n z = ix l (fndK l n : Int) := by
  have := get_keyP (z := z) hn (ix_mem (iX (show (0 : Int) ≤ (fndK l n : Int) by omega) (by omega)))
  rwa [fndK_lt h] at this
theorem mhas_keyP {l : List api_Peer} {n : Int} : mhas (l.map keyP) n = true ↔ fndK l n < l.length := by
  rw [mhas_iff, fndK_mem]
  show n ∈ (l.map keyP).map (fun p => p.1) ↔ _
  rw [keys_keyP]
theorem tracker_Dirty_ok {t : api_Tracker} {n : Int} {Φ : List api_Bitmap × Int × Int → Prop} (hd : ∀ p ∈ t.Peers, p.Dirty.length ≤ 100000) (hΦ : Φ (dirtyT t n)) : Z33 t n Φ := by
  unfold dirtyT at hΦ
  refine tracker_Check_ok hd ⟨fun q => by rw [if_pos q] at hΦ; exact hΦ, fun q => ?_⟩
  rw [if_neg q] at hΦ
  have h := trk_ok (Classical.not_not.1 q)
  obtain ⟨h8, h4, hs⟩ := h.small
  have hn := asc_nodup h.sites
  refine LoopW.upT t.Peers.length (fun k => ((k : Int), (t.Peers.take k).map keyP)) rfl (fun k rec hk hrec => ?_) fun rec => ⟨fun z => absurd (show (t.Peers.length : Int) < (t.Peers.length : Int) from z) (by omega), fun _ => ?_⟩
  · have hp := hs _ (ix_mem (xs := t.Peers) (i := (k : Int)) (iX (by omega) (by omega)))
    exact ⟨fun _ => ⟨iX (by omega) (by omega), tracker_ownAll_ok (by omega) (fun b hb => by have := hp.2 b hb; omega) ⟨iI (by omega) (by omega), hrec _ (Prod.ext rfl (keyP_take hk hn))⟩⟩, fun z => absurd (show (k : Int) < (t.Peers.length : Int) by omega) z⟩
  · rw [take_all]
    refine ⟨fun z => ?_, fun z => ?_⟩
    · rw [if_neg fun q2 => z (mhas_keyP.2 q2)] at hΦ; exact hΦ
    · have z := mhas_keyP.1 (Classical.not_not.1 z)
      rw [if_pos z] at hΦ
      rw [mget_keyP hn z]; exact hΦ
theorem list_keyP {l : List api_Peer} (h : (l.map (·.Site)).Pairwise fun a b => a < b) : sortZ ((l.map keyP).map fun p => p.1) = l.map (·.Site) := by rw [keys_keyP]; exact sortZ_asc h
theorem ix_map {α β : Type} [Dt α] [Dt β] (f : α → β) {l : List α} {k : Nat} (hk : k < l.length) : ix (l.map f) (k : Int) = f (ix l (k : Int)) := by
  rw [ix_get (by rw [List.length_map]; exact hk), List.getElem_map, ix_get hk]
theorem key_at {l : List api_Peer} {k : Nat} (hn : (l.map (·.Site)).Nodup) (hk : k < l.length) (z : api_Peer) : mget (l.map keyP) (ix (l.map (·.Site)) (k : Int)) z = ix l (k : Int) := by
  rw [ix_map (·.Site) hk]
  exact get_keyP hn (ix_mem (iX (by omega) (by omega)))
def markP (w : api_Write) (p : api_Peer) : api_Peer := ⟨p.Site, p.Common, markL p.Dirty [w]⟩
def writeT (t : api_Tracker) (w : api_Write) : api_Tracker × Int :=
  if trkE t ≠ 0 then (noTrk, trkE t) else if fitW t.Sizes w ≠ 0 then (noTrk, fitW t.Sizes w) else (⟨t.Sizes, t.Peers.map (markP w)⟩, 0)
abbrev EntD := (Int × api_Peer) × List api_Bitmap
def dE (p : api_Peer) : EntD := ((p.Site, ⟨p.Site, p.Common, []⟩), p.Dirty)
def closeD (p : EntD) : Int × api_Peer := (p.1.1, ⟨p.1.2.Site, p.1.2.Common, p.2⟩)
theorem close_dE (l : List api_Peer) : (l.map dE).map closeD = l.map keyP := by rw [List.map_map]; rfl
theorem keys_dE (l : List api_Peer) : (l.map dE).map (fun p => p.1) = l.map fun p => (p.Site, (⟨p.Site, p.Common, []⟩ : api_Peer)) := by rw [List.map_map]; rfl
def seenL (w : api_Write) (l : List api_Peer) (seen : List Nat) : List api_Peer := l.mapIdx fun i p => if i ∈ seen then markP w p else p
theorem seenL_len (w : api_Write) (l : List api_Peer) (seen : List Nat) : (seenL w l seen).length = l.length := List.length_mapIdx
theorem seenL_ix {w : api_Write} {l : List api_Peer} {seen : List Nat} {k : Nat} (hk : k < l.length) : ix (seenL w l seen) (k : Int) = if k ∈ seen then markP w (ix l (k : Int)) else ix l (k : Int) := by
  rw [ix_get (by rw [seenL_len]; exact hk), ix_get hk]
  unfold seenL
  rw [List.getElem_mapIdx]
theorem seenL_nil (w : api_Write) (l : List api_Peer) : seenL w l [] = l := by
  refine ext_ix (seenL_len _ _ _) fun k hk => ?_
  rw [seenL_len] at hk
  rw [seenL_ix hk, if_neg List.not_mem_nil]
theorem seenL_all {w : api_Write} {l : List api_Peer} {seen : List Nat} (h : ∀ i, i < l.length → i ∈ seen) : seenL w l seen = l.map (markP w) := by
  refine ext_ix (by rw [seenL_len, List.length_map]) fun k hk => ?_
  rw [seenL_len] at hk
  rw [seenL_ix hk, if_pos (h k hk), ix_map _ hk]
theorem seenL_set {w : api_Write} {l : List api_Peer} {seen : List Nat} {k : Nat} (hk : k < l.length) : (seenL w l seen).set k (markP w (ix l (k : Int))) = seenL w l (k :: seen) := by
  refine ext_ix (by rw [List.length_set, seenL_len, seenL_len]) fun j hj => ?_
  rw [List.length_set, seenL_len] at hj
  rw [← put_nat, ix_put2 _ _ (by rw [seenL_len]; exact hk), seenL_ix hj, seenL_ix hj]
  by_cases e : j = k
  · subst e; rw [if_pos rfl, if_pos List.mem_cons_self]
  · rw [if_neg e]
    by_cases h : j ∈ seen
    · rw [if_pos h, if_pos (List.mem_cons_of_mem _ h)]
    · rw [if_neg h, if_neg fun q => (List.mem_cons.1 q).elim e h]
theorem seenL_sites (w : api_Write) (l : List api_Peer) (seen : List Nat) : (seenL w l seen).map (·.Site) = l.map (·.Site) := by
  refine List.ext_getElem (by rw [List.length_map, List.length_map, seenL_len]) fun i h1 h2 => ?_
  rw [List.length_map, seenL_len] at h1
  rw [List.getElem_map, List.getElem_map]
  have := seenL_ix (w := w) (seen := seen) h1
  rw [ix_get (by rw [seenL_len]; exact h1), ix_get h1] at this
  rw [this]
  split <;> rfl
theorem entD_dE {l : List api_Peer} {k : Nat} (hk : k < l.length) : entD (l.map dE) k = dE (ix l (k : Int)) := by
  unfold entD
  rw [List.getD_eq_getElem?_getD, List.getElem?_eq_getElem (by rw [List.length_map]; exact hk), List.getElem_map, ix_get hk]; rfl
theorem seen_room : ∀ {n : Nat} {seen : List Nat}, seen.Nodup → (∀ i ∈ seen, i < n) → seen.length ≤ n := by
  intro n
  induction n with
  | zero => intro seen _ h; cases seen with
    | nil => exact Nat.le_refl _
    | cons a r => exact absurd (h a List.mem_cons_self) (Nat.not_lt_zero _)
  | succ n ih =>
    intro seen hn h
    have h1 : (seen.erase n).length ≤ n := ih (hn.erase n) fun i hi => by
      have := h i (List.mem_of_mem_erase hi)
      have : i ≠ n := fun e => (hn.mem_erase_iff.1 hi).1 e
      omega
    have := List.length_erase (a := n) (l := seen)
    split at this <;> omega
theorem tracker_Write_ok {t : api_Tracker} {w : api_Write} {Φ : api_Tracker × Int → Prop} (hd : ∀ p ∈ t.Peers, p.Dirty.length ≤ 100000) (hw : w.Data.length ≤ 1000000) (hΦ : Φ (writeT t w)) : Z31 t w Φ := by
  unfold writeT at hΦ
  refine tracker_Check_ok hd ⟨fun q => by rw [if_pos q] at hΦ; exact hΦ, fun q => ?_⟩
  rw [if_neg q] at hΦ
  have h := trk_ok (Classical.not_not.1 q)
  obtain ⟨h8, h4, hs⟩ := h.small
  have hn := asc_nodup h.sites
  refine image_New_ok (fun q1 => ⟨fun z => absurd rfl z, fun _ => ?_⟩) fun q1 => absurd h.hs q1
  have hz : szs (zeroI t.Sizes) = t.Sizes := szs_zeroI h.hs
  refine image_Fits_ok hw (by show sizesE (szs (zeroI t.Sizes)) = 0; rw [hz]; exact h.hs) ?_
  show (fitW (szs (zeroI t.Sizes)) w ≠ 0 → Φ (noTrk, fitW (szs (zeroI t.Sizes)) w)) ∧ _
  rw [hz]
  refine ⟨fun q2 => by rw [if_pos q2] at hΦ; exact hΦ, fun q2 => ?_⟩
  rw [if_neg q2] at hΦ
  have hf := Classical.not_not.1 q2
  obtain ⟨v, hv, hvl, _⟩ := fitW_vol hf
  refine LoopW.upT t.Peers.length (fun k => ((k : Int), (t.Peers.take k).map dE)) rfl (fun k rec hk hrec => ?_) fun rec => ⟨fun z => absurd (show (t.Peers.length : Int) < (t.Peers.length : Int) from z) (by omega), fun _ => ?_⟩
  · have hp := hs _ (ix_mem (xs := t.Peers) (i := (k : Int)) (iX (by omega) (by omega)))
    refine ⟨fun _ => ⟨iX (by omega) (by omega), tracker_ownAll_ok (by omega) (fun b hb => by have := hp.2 b hb; omega) ⟨?_, iI (by omega) (by omega), hrec _ (Prod.ext rfl (map_take_snoc dE hk).symm)⟩⟩, fun z => absurd (show (k : Int) < (t.Peers.length : Int) by omega) z⟩
    rw [Bool.eq_false_iff]
    intro hh
    have hh := mhas_iff.1 hh
    rw [keys_dE, List.map_map] at hh
    have h2 : ((t.Peers.take (k + 1)).map (·.Site)).Nodup := hn.sublist ((List.take_sublist _ _).map _)
    rw [map_take_snoc (·.Site) hk] at h2
    exact (List.nodup_append.1 h2).2.2 _ hh _ (List.mem_singleton.2 rfl) rfl
  · rw [take_all]
    refine LoopW.of_inv (fun s => ∃ seen : List Nat, s = ((t.Peers.length, seen), (seenL w t.Peers seen).map dE) ∧ seen.Nodup ∧ ∀ i ∈ seen, i < t.Peers.length) (fun s => t.Peers.length - s.1.2.length) ?_ ⟨[], by rw [seenL_nil, List.length_map], List.nodup_nil, fun i hi => absurd hi List.not_mem_nil⟩
    rintro _ rec ⟨seen, rfl, hsn, hsl⟩ hrec
    have hlen : ((seenL w t.Peers seen).map dE).length = t.Peers.length := by rw [List.length_map, seenL_len]
    have hsite := seenL_sites w t.Peers seen
    refine ⟨hlen, fun hall => ?_, fun i hi hni => ⟨hlen, hi, rfl, ?_⟩⟩
    · rw [hlen] at hall
      have hm := seenL_all (w := w) hall
      rw [hm] at hsite ⊢
      have e1 : (((t.Peers.map (markP w)).map dE).map fun p => (p.1.1, (api_Peer.mk p.1.2.Site p.1.2.Common p.2))) = (t.Peers.map (markP w)).map keyP := close_dE _
      have hks : ((t.Peers.map (markP w)).map (·.Site)).Pairwise fun a b => a < b := by rw [hsite]; exact h.sites
      refine slices_Clone_int_ok (by omega) ⟨fun _ _ => rfl, ?_, ?_, ?_, ?_⟩
      · rw [e1, keys_keyP, hsite]; exact hn
      · rw [e1]
        intro p hp
        obtain ⟨x, hx, rfl⟩ := List.mem_map.1 hp
        obtain ⟨y, hy, rfl⟩ := List.mem_map.1 hx
        obtain ⟨k, hk, rfl⟩ := List.getElem_of_mem hy
        have := h.site k hk
        rw [ix_get hk] at this
        exact iI (by show -9223372036854775808 ≤ (t.Peers[k]).Site; omega) (by show (t.Peers[k]).Site ≤ 9223372036854775807; omega)
      · rw [e1]; exact iL (by rw [List.length_map, List.length_map]; omega) (by omega)
      · have hl2 : ((t.Peers.map (markP w)).map (·.Site)).length = t.Peers.length := by rw [List.length_map, List.length_map]
        refine LoopW.upT t.Peers.length (fun k => ((k : Int), (t.Peers.take k).map (markP w))) rfl (fun k rec2 hk hrec2 => ?_) fun rec2 => ?_
        · unfold Z27
          simp only
          rw [e1, list_keyP hks, key_at (hsite ▸ hn) (by rw [List.length_map]; exact hk), ix_map _ hk]
          exact ⟨fun _ => ⟨iX (by omega) (by omega), iL (by rw [len_snoc, List.length_map, lenT (Nat.le_of_lt hk)]; omega) (by omega), iI (by omega) (by omega), hrec2 _ (Prod.ext rfl (map_take_snoc _ hk).symm)⟩, fun z => absurd (show (k : Int) < (((t.Peers.map (markP w)).map (·.Site)).length : Int) by omega) z⟩
        · unfold Z27
          simp only
          rw [e1, list_keyP hks, take_all]
          exact ⟨fun z => absurd z (by omega), fun _ => hΦ⟩
    · rw [hlen] at hi
      have hx := seenL_ix (w := w) (seen := seen) hi
      rw [if_neg hni] at hx
      have hb := h.bms i hi
      have hin : inX v (ix t.Peers (i : Int)).Dirty.length := iX (by omega) (by have := hb.len; omega)
      have hml := put_len (ix t.Peers (i : Int)).Dirty w.Volume (setBm (ix (ix t.Peers (i : Int)).Dirty w.Volume) ⟨w.Start, (w.Data.length : Int)⟩).1
      have hse := set_write hb hf
      rw [entD_dE (by rw [seenL_len]; exact hi), hx]
      refine LoopW.upI 1 (fun k => ((k : Int), if k = 0 then (ix t.Peers (i : Int)).Dirty else markL (ix t.Peers (i : Int)).Dirty [w])) (fun _ => True) rfl trivial (fun k rec2 hk _ hrec2 => ?_) fun rec2 _ => ⟨fun z => absurd (show ((1 : Nat) : Int) < 1 from z) (by omega), fun _ => ⟨fun z => absurd rfl z, fun _ => ?_⟩⟩
      · obtain rfl : k = 0 := by omega
        refine ⟨fun _ => ⟨iX (by omega) (by show ((0 : Nat) : Int) < ((1 : Nat) : Int); omega), by show inX w.Volume _; rw [hv]; exact hin, ((setBm (ix (ix t.Peers (i : Int)).Dirty w.Volume) ⟨w.Start, (w.Data.length : Int)⟩).1, (setBm (ix (ix t.Peers (i : Int)).Dirty w.Volume) ⟨w.Start, (w.Data.length : Int)⟩).2, ()), bitmap_Set_ok rfl, fun z => absurd hse z, fun _ => ⟨by show inX w.Volume _; rw [hv]; exact hin, iI (by omega) (by omega), hrec2 trivial _ rfl⟩⟩, fun z => absurd (show ((0 : Nat) : Int) < ((1 : Nat) : Int) by omega) z⟩
      · have eD : entD ((seenL w t.Peers seen).map dE) i = dE (ix t.Peers (i : Int)) := by rw [entD_dE (by rw [seenL_len]; exact hi), hx]
        refine ⟨by rw [hlen]; exact hi, rfl, fun j hj => ?_, hrec _ ⟨i :: seen, ?_, List.nodup_cons.2 ⟨hni, hsn⟩, fun a ha => (List.mem_cons.1 ha).elim (fun e => by rw [e]; exact hi) (hsl a)⟩ ?_⟩
        · rw [eD, entD_dE (by rw [seenL_len]; omega)]
          show (ix (seenL w t.Peers seen) (j : Int)).Site ≠ (ix t.Peers (i : Int)).Site
          rw [seenL_ix (by omega)]
          have := h.asc j i hj hi
          split
          · show (ix t.Peers (j : Int)).Site ≠ _; omega
          · omega
        · rw [eD]
          refine Prod.ext rfl ?_
          show ((seenL w t.Peers seen).map dE).set i (dE (markP w (ix t.Peers (i : Int)))) = _
          rw [← seenL_set hi, List.map_set]
        · have this : (i :: seen).length ≤ t.Peers.length := seen_room (List.nodup_cons.2 ⟨hni, hsn⟩) fun a ha => (List.mem_cons.1 ha).elim (fun e => by rw [e]; exact hi) (hsl a)
          rw [List.length_cons] at this
          show t.Peers.length - (seen.length + 1) < t.Peers.length - seen.length
          exact Nat.sub_lt_sub_left (by omega) (by omega)
theorem cyc_fit {c : api_Cycle} {sizes : List Int} (h : cycE c sizes = 0) : ∀ w ∈ c.Writes, fitW sizes w = 0 := fun w hw => by
  unfold cycE at h
  split at h
  · rename_i q; exact absurd h q
  split at h
  · omega
  split at h
  · omega
  split at h
  · rename_i q; exact absurd h q
  unfold wrsE at h
  obtain ⟨k, hk, rfl⟩ := List.getElem_of_mem hw
  have := ordW_fit (firstN_zero.1 h k hk)
  rwa [ix_get hk] at this
def agrF (sizes : List Int) : Int → List api_Bitmap → List api_Cycle → List api_Bitmap × Int
  | _, d, [] => (d, 0)
  | a, d, c :: r => if cycE c sizes ≠ 0 then ([], cycE c sizes) else if c.Base ≠ a then ([], 15) else agrF sizes c.Number (markL d c.Writes) r
theorem agrF_cons (sizes : List Int) (a : Int) (d : List api_Bitmap) (c : api_Cycle) (r : List api_Cycle) : agrF sizes a d (c :: r) = if cycE c sizes ≠ 0 then ([], cycE c sizes) else if c.Base ≠ a then ([], 15) else agrF sizes c.Number (markL d c.Writes) r := rfl
theorem agr_loop {sizes : List Int} {later : List api_Cycle} {Ψ : List api_Bitmap × Int → Prop} {step : (Int × Int × List api_Bitmap) → ((Int × Int × List api_Bitmap) → Prop) → Prop} {a0 : Int} {d0 : List api_Bitmap}
    (h1 : ∀ (k : Nat) (a : Int) (d : List api_Bitmap) rec, k < later.length → BmsOk sizes d → (cycE (ix later (k : Int)) sizes ≠ 0 → Ψ ([], cycE (ix later (k : Int)) sizes)) → (¬ cycE (ix later (k : Int)) sizes ≠ 0 → (ix later (k : Int)).Base ≠ a → Ψ ([], 15)) → (¬ cycE (ix later (k : Int)) sizes ≠ 0 → ¬ (ix later (k : Int)).Base ≠ a → rec ((ix later (k : Int)).Number, (k : Int) + 1, markL d (ix later (k : Int)).Writes)) → step (a, (k : Int), d) rec)
    (h2 : ∀ (a : Int) (d : List api_Bitmap) rec, BmsOk sizes d → Ψ (d, 0) → step (a, (later.length : Int), d) rec) (hb : BmsOk sizes d0) (hΨ : Ψ (agrF sizes a0 d0 later)) : LoopW step (a0, 0, d0) := by
  refine LoopW.of_inv (fun s => ∃ (k : Nat) (a : Int) (d : List api_Bitmap), s = (a, (k : Int), d) ∧ k ≤ later.length ∧ BmsOk sizes d ∧ Ψ (agrF sizes a d (later.drop k))) (fun s => later.length - s.2.1.toNat) ?_ ⟨0, a0, d0, rfl, Nat.zero_le _, hb, hΨ⟩
  rintro _ rec ⟨k, a, d, rfl, hk, hbd, hΨ⟩ hrec
  rcases Nat.lt_or_ge k later.length with hlt | hge
  · rw [drop_ix hlt, agrF_cons] at hΨ
    refine h1 k a d rec hlt hbd (fun q => by rw [if_pos q] at hΨ; exact hΨ) (fun q q2 => by rw [if_neg q, if_pos q2] at hΨ; exact hΨ) fun q q2 => ?_
    rw [if_neg q, if_neg q2] at hΨ
    refine hrec _ ⟨k + 1, _, _, rfl, hlt, markL_ok hbd (cyc_fit (Classical.not_not.1 q)), hΨ⟩ ?_
    show later.length - ((k : Int) + 1).toNat < later.length - ((k : Int)).toNat
    omega
  · obtain rfl : k = later.length := by omega
    rw [List.drop_eq_nil_of_le (Nat.le_refl _)] at hΨ
    exact h2 a d rec hbd hΨ
def agreeT (t : api_Tracker) (n number : Int) (later : List api_Cycle) : api_Tracker × Int :=
  if trkE t ≠ 0 then (noTrk, trkE t) else if ¬ fndK t.Peers n < t.Peers.length then (noTrk, 7) else if number < 0 ∨ 1073741824 < number then (noTrk, 2) else if number < (ix t.Peers (fndK t.Peers n : Int)).Common then (noTrk, 8)
  else if (agrF t.Sizes number (t.Sizes.map newB) later).2 ≠ 0 then (noTrk, (agrF t.Sizes number (t.Sizes.map newB) later).2) else (⟨t.Sizes, put t.Peers (fndK t.Peers n : Int) ⟨n, number, (agrF t.Sizes number (t.Sizes.map newB) later).1⟩⟩, 0)
def FitC (l : List api_Cycle) : Prop := l.length ≤ 100000 ∧ ∀ c ∈ l, c.Positions.length ≤ 100000 ∧ c.Writes.length ≤ 100000 ∧ ∀ w ∈ c.Writes, w.Data.length ≤ 1000000
theorem mput_keyP : ∀ {l : List api_Peer} {n : Int} {q : api_Peer}, q.Site = n → fndK l n < l.length → mput (l.map keyP) n q = (put l (fndK l n : Int) q).map keyP
  | [], _, _, _, h => absurd h (Nat.not_lt_zero _)
  | p :: l, n, q, hq, h => by
    rw [put_nat]
    by_cases e : p.Site = n
    · have h0 : fndK (p :: l) n = 0 := by unfold fndK; rw [List.findIdx_cons, decide_eq_true e]; rfl
      rw [h0]
      show mput (keyP p :: l.map keyP) n q = keyP q :: l.map keyP
      unfold mput
      rw [if_pos (show n = (keyP p).1 from e.symm)]
      show (p.Site, q) :: _ = (q.Site, q) :: _
      rw [e, hq]
    · have h0 : fndK (p :: l) n = fndK l n + 1 := by unfold fndK; rw [List.findIdx_cons, decide_eq_false e]; rfl
      rw [h0] at h ⊢
      show mput (keyP p :: l.map keyP) n q = keyP p :: (l.set (fndK l n) q).map keyP
      unfold mput
      rw [if_neg (show ¬ n = (keyP p).1 from fun z => e z.symm), mput_keyP hq (by rw [List.length_cons] at h; omega)]; rfl
theorem put_sites {l : List api_Peer} {n : Int} {q : api_Peer} (hq : q.Site = n) (h : fndK l n < l.length) : (put l (fndK l n : Int) q).map (·.Site) = l.map (·.Site) := by
  refine List.ext_getElem (by rw [List.length_map, List.length_map, put_len]) fun i h1 h2 => ?_
  rw [List.length_map] at h2
  have := ix_put2 l q h i
  rw [ix_get (by rw [put_len]; exact h2), ix_get h2] at this
  rw [List.getElem_map, List.getElem_map, this]
  split
  · rename_i e
    have hs := fndK_lt h
    rw [ix_get h] at hs
    subst e
    rw [hq, hs]
  · rfl
theorem put_ok {t : api_Tracker} {n number : Int} {d : List api_Bitmap} (h : TrkOk t) (hk : fndK t.Peers n < t.Peers.length) (h0 : 0 ≤ number) (h1 : number ≤ 1073741824) (hd : BmsOk t.Sizes d) : TrkOk ⟨t.Sizes, put t.Peers (fndK t.Peers n : Int) ⟨n, number, d⟩⟩ := by
  have hl : (put t.Peers (fndK t.Peers n : Int) (⟨n, number, d⟩ : api_Peer)).length = t.Peers.length := put_len _ _ _
  have e := ix_put2 t.Peers (⟨n, number, d⟩ : api_Peer) hk
  have hsn := fndK_lt hk
  have hsite : ∀ k : Nat, k < t.Peers.length → (ix (put t.Peers (fndK t.Peers n : Int) (⟨n, number, d⟩ : api_Peer)) (k : Int)).Site = (ix t.Peers (k : Int)).Site := fun k hk' => by
    rw [e k]
    split
    · rename_i q; subst q; exact hsn.symm
    · rfl
  refine ⟨h.hs, by rw [hl]; exact h.n4, fun k hk' => ?_, fun k hk' => ?_, fun k hk' => ?_, fun i j hij hj => ?_⟩
  · rw [hl] at hk'; simp only; rw [e k]
    split
    · exact hd
    · exact h.bms k hk'
  · rw [hl] at hk'; simp only; rw [hsite k hk']; exact h.site k hk'
  · rw [hl] at hk'; simp only; rw [e k]
    split
    · exact ⟨h0, h1⟩
    · exact h.com k hk'
  · rw [hl] at hj; simp only; rw [hsite i (by omega), hsite j hj]; exact h.asc i j hij hj
theorem tracker_Agree_ok {t : api_Tracker} {n number : Int} {later : List api_Cycle} {Φ : api_Tracker × Int → Prop} (hd : ∀ p ∈ t.Peers, p.Dirty.length ≤ 100000) (hc : FitC later) (hΦ : Φ (agreeT t n number later)) : Z45 t n number later Φ := by
  unfold agreeT at hΦ
  refine tracker_Check_ok hd ⟨fun q => by rw [if_pos q] at hΦ; exact hΦ, fun q => ?_⟩
  rw [if_neg q] at hΦ
  have h := trk_ok (Classical.not_not.1 q)
  obtain ⟨h8, h4, hs⟩ := h.small
  have hn := asc_nodup h.sites
  refine LoopW.upT t.Peers.length (fun k => ((k : Int), (t.Peers.take k).map keyP)) rfl (fun k rec hk hrec => ?_) fun rec => ⟨fun z => absurd (show (t.Peers.length : Int) < (t.Peers.length : Int) from z) (by omega), fun _ => ?_⟩
  · have hp := hs _ (ix_mem (xs := t.Peers) (i := (k : Int)) (iX (by omega) (by omega)))
    exact ⟨fun _ => ⟨iX (by omega) (by omega), tracker_ownAll_ok (by omega) (fun b hb => by have := hp.2 b hb; omega) ⟨iI (by omega) (by omega), hrec _ (Prod.ext rfl (keyP_take hk hn))⟩⟩, fun z => absurd (show (k : Int) < (t.Peers.length : Int) by omega) z⟩
  rw [take_all]
  refine ⟨fun z => ?_, fun z => ?_⟩
  · rw [if_pos fun q2 => z (mhas_keyP.2 q2)] at hΦ; exact hΦ
  have q2 := mhas_keyP.1 (Classical.not_not.1 z)
  rw [if_neg (fun z => z q2)] at hΦ
  rw [mget_keyP hn q2]
  refine tracker_between_ways (fun q3 => ff (by rw [if_pos (by omega)] at hΦ; exact hΦ)) fun q3 => tt ⟨fun q4 => ?_, fun q4 => ?_⟩
  · rw [if_neg (by omega), if_pos q4] at hΦ; exact hΦ
  rw [if_neg (by omega), if_neg q4] at hΦ
  refine tracker_clean_ok (by omega) (sizesE_at h.hs) ⟨fun z => absurd rfl z, fun _ => ?_⟩
  generalize hr : agrF t.Sizes number (t.Sizes.map newB) later = r at hΦ
  refine agr_loop (sizes := t.Sizes) (later := later) (Ψ := fun r => (r.2 ≠ 0 → Φ (noTrk, r.2)) ∧ (¬ r.2 ≠ 0 → Φ (⟨t.Sizes, put t.Peers (fndK t.Peers n : Int) ⟨n, number, r.1⟩⟩, 0))) (fun k a d rec hk hbd f1 f2 f3 => ?_) (fun a d rec hbd f => ?_) (marked_clean h.hs).toBmsOk ?_
  · have hck := hc.2 _ (ix_mem (xs := later) (i := (k : Int)) (iX (by omega) (by omega)))
    have hx : inX (k : Int) later.length := iX (by omega) (by omega)
    refine ⟨fun _ => ⟨hx, cycle_Check_ok hck.1 hck.2.1 hck.2.2 ⟨fun q5 => (f1 q5).1 q5, fun q5 => ⟨fun q6 => (f2 q5 q6).1 (show (15 : Int) ≠ 0 by decide), fun q6 => ?_⟩⟩⟩, fun z => absurd (show (k : Int) < (later.length : Int) by omega) z⟩
    have hfit := cyc_fit (Classical.not_not.1 q5)
    generalize hws : (ix later (k : Int)).Writes = ws at *
    show LoopW (Z41 later (k : Int) (Z40 later (k : Int) rec Φ) Φ) (0, d)
    refine LoopW.upT ws.length (fun j => ((j : Int), markL d (ws.take j))) rfl (fun j rec2 hj hrec2 => ?_) fun rec2 => ?_
    · have hwj := hfit _ (ix_mem (xs := ws) (i := (j : Int)) (iX (by omega) (by omega)))
      have hbj : BmsOk t.Sizes (markL d (ws.take j)) := markL_ok hbd fun x hx => hfit x (List.mem_of_mem_take hx)
      obtain ⟨v, hv, hvl, _⟩ := fitW_vol hwj
      have hin : inX (ix ws (j : Int)).Volume (markL d (ws.take j)).length := by rw [hv]; have := hbj.len; exact iX (by omega) (by omega)
      have hse := set_write hbj hwj
      unfold Z41
      simp only
      rw [hws]
      exact ⟨fun _ => ⟨iX (by omega) (by omega), hin, ((setBm (ix (markL d (ws.take j)) (ix ws (j : Int)).Volume) ⟨(ix ws (j : Int)).Start, ((ix ws (j : Int)).Data.length : Int)⟩).1, (setBm (ix (markL d (ws.take j)) (ix ws (j : Int)).Volume) ⟨(ix ws (j : Int)).Start, ((ix ws (j : Int)).Data.length : Int)⟩).2, ()), bitmap_Set_ok rfl, fun z => absurd hse z, fun _ => ⟨hin, iI (by omega) (by omega), hrec2 _ (Prod.ext rfl (markL_step d hj).symm)⟩⟩, fun z => absurd (show (j : Int) < (ws.length : Int) by omega) z⟩
    · unfold Z41
      simp only
      rw [hws, take_all]
      exact ⟨fun z => absurd z (by omega), fun _ => ⟨fun z => absurd rfl z, fun _ => ⟨iI (by omega) (by have := hc.1; omega), f3 q5 q6⟩⟩⟩
  · have hpl : (put t.Peers (fndK t.Peers n : Int) (⟨n, number, d⟩ : api_Peer)).length = t.Peers.length := put_len _ _ _
    have e1 : mput (t.Peers.map keyP) n (⟨n, number, d⟩ : api_Peer) = (put t.Peers (fndK t.Peers n : Int) ⟨n, number, d⟩).map keyP := mput_keyP rfl q2
    have hsite := put_sites (q := (⟨n, number, d⟩ : api_Peer)) rfl q2
    have hok := put_ok h q2 q3.1 q3.2 hbd
    have hks : ((put t.Peers (fndK t.Peers n : Int) (⟨n, number, d⟩ : api_Peer)).map (·.Site)).Pairwise fun a b => a < b := by rw [hsite]; exact h.sites
    have f := f.2 (fun z => z rfl)
    have hin : ∀ p ∈ (put t.Peers (fndK t.Peers n : Int) (⟨n, number, d⟩ : api_Peer)).map keyP, inI p.1 := fun p hp => by
      obtain ⟨y, hy, rfl⟩ := List.mem_map.1 hp
      obtain ⟨k, hk, rfl⟩ := List.getElem_of_mem hy
      have := hok.site k hk
      simp only at this
      rw [ix_get hk] at this
      exact iI (by show -9223372036854775808 ≤ api_Peer.Site _; omega) (by show api_Peer.Site _ ≤ 9223372036854775807; omega)
    generalize put t.Peers (fndK t.Peers n : Int) (⟨n, number, d⟩ : api_Peer) = ps at *
    refine ⟨fun z => absurd (show (later.length : Int) < (later.length : Int) from z) (by omega), fun _ => slices_Clone_int_ok (by omega) ⟨?_, ?_, ?_, ?_⟩⟩
    · rw [e1, keys_keyP, hsite]; exact hn
    · rw [e1]; exact hin
    · rw [e1]; exact iL (by rw [List.length_map]; omega) (by omega)
    · have hl2 : (ps.map (·.Site)).length = t.Peers.length := by rw [List.length_map]; exact hpl
      refine LoopW.upT ps.length (fun k => ((k : Int), ps.take k)) rfl (fun k rec2 hk hrec2 => ?_) fun rec2 => ?_
      · unfold Z42
        simp only
        rw [e1, list_keyP hks, key_at (hsite ▸ hn) hk]
        exact ⟨fun _ => ⟨iX (by omega) (by omega), iL (by rw [len_snoc, lenT (Nat.le_of_lt hk)]; omega) (by omega), iI (by omega) (by omega), hrec2 _ (Prod.ext rfl (take_ix hk).symm)⟩, fun z => absurd (show (k : Int) < ((ps.map (·.Site)).length : Int) by omega) z⟩
      · unfold Z42
        simp only
        rw [e1, list_keyP hks, take_all]
        exact ⟨fun z => absurd z (by omega), fun _ => f⟩
  · rw [hr]
    exact ⟨fun z => by rw [if_pos z] at hΦ; exact hΦ, fun z => by rw [if_neg z] at hΦ; exact hΦ⟩
theorem next_el (p : Nat → Bool) : ∀ d k : Nat, (∃ e, k ≤ e ∧ e < k + d ∧ p e = true ∧ ∀ j, k ≤ j → j < e → p j = false) ∨ ∀ j, k ≤ j → j < k + d → p j = false
  | 0, k => .inr fun j h1 h2 => absurd h2 (by omega)
  | d + 1, k => by
    cases hk : p k with
    | true => exact .inl ⟨k, Nat.le_refl _, by omega, hk, fun j h1 h2 => absurd h2 (by omega)⟩
    | false =>
      rcases next_el p d (k + 1) with ⟨e, h1, h2, h3, h4⟩ | h
      · refine .inl ⟨e, by omega, by omega, h3, fun j a b => ?_⟩
        by_cases q : j = k
        · rw [q]; exact hk
        · exact h4 j (by omega) b
      · refine .inr fun j a b => ?_
        by_cases q : j = k
        · rw [q]; exact hk
        · exact h j (by omega) (by omega)
theorem drop_at {L : List Nat} {c e : Nat} (h : L[c]? = some e) : L.drop c = e :: L.drop (c + 1) := by
  obtain ⟨h1, h2⟩ := List.getElem?_eq_some_iff.1 h
  rw [List.drop_eq_getElem_cons h1, h2]
theorem elB_zero (ws : List (BitVec 64)) (j : Nat) : elB ws 0 j = bitN ws j := by
  unfold elB
  rw [decide_eq_true (show (0 : Int) ≤ (j : Int) by omega), Bool.true_and]
theorem extsK_el (ws : List (BitVec 64)) (k : Nat) : extsK ws k = extsOf (elK ws 0 k) := by
  unfold extsK elK
  congr 1
def elF (k : Nat) : Int × Unit := ((k : Int), ())
theorem elements_ok (b : api_Bitmap) : bitmap_elements_1_I b 0 ((elL b.Size b.Words 0).map elF) := by
  refine ⟨(chkB b, ()), bitmap_Check_ok rfl, fun q => ?_, fun q => ?_⟩
  · rw [elL_form q]; rfl
  have hc : ¬ chk b.Size b.Words ≠ 0 := q
  have hn := chkB_len hc
  refine LoopW.upT b.Words.length (fun i => (((elL b.Size b.Words 0).drop (elK b.Words 0 (64 * i)).length).map elF, (i : Int))) rfl (fun i rec hi hrec => ?_) fun rec => ⟨fun z => absurd (show (b.Words.length : Int) < (b.Words.length : Int) from z) (by omega), fun _ => ?_⟩
  · refine ⟨fun _ => ⟨iX (by omega) (by omega), (maskW (i : Int) 0 b.Size, ()), bitmap_mask_ok (by omega) (by omega) (by omega) (by omega) (by omega) (by omega) rfl, ?_⟩, fun z => absurd (show (i : Int) < (b.Words.length : Int) by omega) z⟩
    refine LoopW.of_inv (fun s => ∃ p : Nat, s.1 = ((elL b.Size b.Words 0).drop (elK b.Words 0 p).length).map elF ∧ elX b.Size b.Words 0 i p s.2 ∧ 64 * i ≤ p ∧ p ≤ 64 * (i + 1)) (fun s => s.1.length) ?_ ⟨64 * i, rfl, elX_start _ _ _ _, Nat.le_refl _, by omega⟩
    rintro ⟨_, x⟩ rec2 ⟨p, rfl, hx, h1, h2⟩ hrec2
    have hx : elX b.Size b.Words 0 i p x := hx
    refine ⟨fun hne => ?_, fun he => ?_⟩
    · obtain ⟨t1, t2, t3, t4, t5, t6⟩ := elX_step hx hne
      obtain ⟨g1, g2, g3⟩ := elX_next hc h1 hx hne
      refine ⟨iI (by omega) (by omega), ((Lib.ctz 64 x.toNat : Int), ()), ⟨hne, rfl⟩, iI (by simp only; omega) (by simp only; omega), ?_⟩
      have hd : (elL b.Size b.Words 0)[(elK b.Words 0 p).length]? = some (64 * i + Lib.ctz 64 x.toNat) := by
        rw [List.getD_eq_getElem?_getD, List.getElem?_eq_getElem g1] at g2
        rw [List.getElem?_eq_getElem g1]
        exact congrArg some g2
      have hd2 := drop_at hd
      simp only
      rw [hd2]
      refine ⟨Prod.ext ?_ rfl, hrec2 _ ⟨64 * i + Lib.ctz 64 x.toNat + 1, ?_, t6, by omega, by omega⟩ ?_, trivial⟩
      · show (i : Int) * 64 + (Lib.ctz 64 x.toNat : Int) = ((64 * i + Lib.ctz 64 x.toNat : Nat) : Int)
        omega
      · rw [g3]
      · simp only
        rw [hd2, List.map_cons, List.length_cons]
        omega
    · have he : x = 0#64 := Classical.not_not.1 he
      subst he
      refine ⟨iI (by omega) (by omega), hrec _ (Prod.ext ?_ rfl)⟩
      have := elK_skip' h2 (elX_end hc hi h1 hx)
      simp only
      rw [this]
  · have := elK_top (a := 0) hc (p := 64 * b.Words.length) (by omega) (Nat.le_refl _)
    rw [this, List.drop_eq_nil_of_le (Nat.le_refl _)]; rfl
def toX (e : Int × Int) : api_Extent := ⟨e.1, e.2⟩
def exts (b : api_Bitmap) : List api_Extent := (extR b.Size b.Words).map toX
theorem ix_toX (es : List (Int × Int)) (k : Nat) : ix (es.map toX) (k : Int) = toX (es.getD k (0, 0)) := by
  show (es.map toX).getD k default = _
  rw [List.getD_eq_getElem?_getD, List.getD_eq_getElem?_getD, List.getElem?_map]
  cases es[k]? <;> rfl
theorem ix_lastX (es : List (Int × Int)) (h : 0 < es.length) : ix (es.map toX) (((es.map toX).length : Int) - 1) = toX (es.getD (es.length - 1) (0, 0)) := by
  rw [← ix_toX]
  congr 1
  rw [List.length_map]; omega
theorem put_toX (es : List (Int × Int)) (h : 0 < es.length) (x : Int) : put (es.map toX) (((es.map toX).length : Int) - 1) ⟨(es.getD (es.length - 1) (0, 0)).1, x⟩ = (bumpE es (es.length - 1) x).map toX := by
  unfold put bumpE
  rw [List.map_set, show (((es.map toX).length : Int) - 1).toNat = es.length - 1 by rw [List.length_map]; omega]
  rfl
theorem join_iff {es : List (Int × Int)} {i : Int} : ((0 < ((es.map toX).length : Int)) ∧ ((((ix (es.map toX) (((es.map toX).length : Int) - 1)).Start) + ((ix (es.map toX) (((es.map toX).length : Int) - 1)).Count)) = i)) ↔ joinsE es i := by
  unfold joinsE
  by_cases h : 0 < es.length
  · rw [ix_lastX es h]
    simp only [toX, List.length_map]
    constructor
    · rintro ⟨_, h2⟩; exact ⟨h, h2⟩
    · rintro ⟨_, h2⟩; exact ⟨by omega, h2⟩
  · constructor
    · rintro ⟨h1, _⟩; rw [List.length_map] at h1; omega
    · rintro ⟨h1, _⟩; exact absurd h1 h
theorem join_pre {es : List (Int × Int)} {k : Nat} (hf : exB es (k : Int)) (hl : es.length ≤ k) (hk : k ≤ 100000) (h : 0 < ((es.map toX).length : Int)) : inI (((es.map toX).length : Int) - 1) ∧ inX (((es.map toX).length : Int) - 1) (es.map toX).length ∧
    inI (((ix (es.map toX) (((es.map toX).length : Int) - 1)).Start) + ((ix (es.map toX) (((es.map toX).length : Int) - 1)).Count)) := by
  have h' : 0 < es.length := by rw [List.length_map] at h; omega
  have hg := exB_get hf (show es.length - 1 < es.length by omega)
  have e : (es.map toX).length = es.length := List.length_map _
  rw [ix_lastX es h']
  simp only [toX]
  exact ⟨iI (by omega) (by omega), iX (by omega) (by omega), iI (by omega) (by omega)⟩
theorem join_post {es : List (Int × Int)} {k : Nat} (hf : exB es (k : Int)) (hl : es.length ≤ k) (hk : k ≤ 100000) (h : joinsE es (k : Int)) : inI (((es.map toX).length : Int) - 1) ∧ inX (((es.map toX).length : Int) - 1) (es.map toX).length ∧
    inI (((ix (es.map toX) (((es.map toX).length : Int) - 1)).Count) + 1) ∧
    put (es.map toX) (((es.map toX).length : Int) - 1) ⟨(ix (es.map toX) (((es.map toX).length : Int) - 1)).Start, ((ix (es.map toX) (((es.map toX).length : Int) - 1)).Count) + 1⟩ = (addX es (k : Int)).map toX := by
  have h' := h.1
  have hg := exB_get hf (show es.length - 1 < es.length by omega)
  have e : (es.map toX).length = es.length := List.length_map _
  rw [ix_lastX es h', addX_join h, ← put_toX es h']
  simp only [toX]
  exact ⟨iI (by omega) (by omega), iX (by omega) (by omega), iI (by omega) (by omega), trivial⟩
theorem snoc_new {es : List (Int × Int)} {e : Nat} (h : ¬ joinsE es (e : Int)) : es.map toX ++ [(api_Extent.mk (e : Int) 1)] = (addX es (e : Int)).map toX := by
  rw [addX_new h, List.map_append]; rfl
theorem bitmap_Extents_ok {b : api_Bitmap} {Φ : List api_Extent → Prop} (hΦ : Φ (exts b)) : Z50 b Φ := by
  refine ⟨_, elements_ok b, ?_⟩
  unfold exts at hΦ
  by_cases hc : chk b.Size b.Words ≠ 0
  · rw [elL_form hc]
    rw [extR_form hc] at hΦ
    exact ⟨1, hΦ⟩
  have hn := chkB_len hc
  rw [elL_ok hc]
  rw [extR_ok hc rfl] at hΦ
  generalize hN : b.Size.toNat = n at hΦ
  refine LoopW.of_inv (fun s => ∃ p : Nat, s = (((elK b.Words 0 n).drop (elK b.Words 0 p).length).map elF, (extsK b.Words p).map toX) ∧ p ≤ n) (fun s => s.1.length) ?_ ⟨0, rfl, Nat.zero_le _⟩
  rintro _ rec ⟨p, rfl, hp⟩ hrec
  rcases next_el (elB b.Words 0) (n - p) p with ⟨e, h1, h2, h3, h4⟩ | h
  · have hk := elK_skip' h1 h4
    have hg := elK_get h3 (n := n) (by omega)
    have he : extsK b.Words p = extsK b.Words e := by rw [extsK_el, extsK_el, hk]
    have hy : extsK b.Words (e + 1) = addX (extsK b.Words e) (e : Int) := extsK_yes (by rw [← elB_zero]; exact h3)
    have hlen : (elK b.Words 0 (e + 1)).length = (elK b.Words 0 e).length + 1 := by rw [elK_yes h3, len_snoc]
    rw [← hk]
    have hd := drop_at hg
    have hf := extsK_facts b.Words e
    have hrec' : rec (((elK b.Words 0 n).drop ((elK b.Words 0 e).length + 1)).map elF, (addX (extsK b.Words e) (e : Int)).map toX) := hrec _ ⟨e + 1, by rw [hlen, hy], by omega⟩ (by simp only; rw [← hk, hd, List.map_cons, List.length_cons]; omega)
    have hdrop : ((elK b.Words 0 n).drop (elK b.Words 0 e).length).map elF = elF e :: ((elK b.Words 0 n).drop ((elK b.Words 0 e).length + 1)).map elF := by rw [hd]; rfl
    rw [hdrop, he]
    refine ⟨fun hpos => ?_, fun hneg => ⟨iL (by rw [len_snoc, List.length_map]; omega) (by omega), ?_⟩⟩
    · obtain ⟨g1, g2, g3⟩ := join_pre hf.1 hf.2 (by omega) hpos
      refine ⟨g1, g2, g1, g2, g3, fun hj => ?_, fun hj => ⟨iL (by rw [len_snoc, List.length_map]; omega) (by omega), ?_⟩⟩
      · obtain ⟨_, _, k3, k4⟩ := join_post hf.1 hf.2 (by omega) (join_iff.1 ⟨hpos, hj⟩)
        refine ⟨g1, g2, k3, g2, ?_⟩
        rw [k4]; exact hrec'
      · have := snoc_new (es := extsK b.Words e) (e := e) fun q => hj (join_iff.2 q).2
        show rec (_, (extsK b.Words e).map toX ++ [(api_Extent.mk (e : Int) 1)])
        rw [this]; exact hrec'
    · have := snoc_new (es := extsK b.Words e) (e := e) fun q => hneg (join_iff.2 q).1
      show rec (_, (extsK b.Words e).map toX ++ [(api_Extent.mk (e : Int) 1)])
      rw [this]; exact hrec'
  · have hk := elK_skip' hp fun j a c => h j a (by omega)
    rw [← hk, List.drop_eq_nil_of_le (Nat.le_refl _)]
    have he : extsK b.Words p = extsK b.Words n := by rw [extsK_el, extsK_el, hk]
    rw [he]; exact hΦ
theorem exts_len (b : api_Bitmap) : (exts b).length ≤ 4096 := by
  unfold exts extR
  rw [List.length_map]
  split
  · exact Nat.zero_le _
  · rename_i h
    have := (extsK_facts b.Words b.Size.toNat).2
    have := wf_len (Classical.not_not.1 h)
    omega
theorem ref02_SameExtents_ok {a b : List api_Extent} {Φ : Bool → Prop} (hl : a.length ≤ 1000000) (hΦ : Φ (decide (a = b))) : Z52 a b Φ := by
  refine ⟨fun h => ?_, fun h => ?_⟩
  · rw [decide_eq_false (by rintro rfl; exact h rfl)] at hΦ; exact hΦ
  · have hl2 : a.length = b.length := by omega
    have e : decide (a = b) = allN (fun k => decide (ix a (k : Int) = ix b (k : Int))) a.length := by
      rw [Bool.eq_iff_iff, allN_true, decide_eq_true_iff]
      constructor
      · rintro rfl k _; exact decide_eq_true rfl
      · intro h; exact ext_ix hl2 fun k hk => of_decide_eq_true (h k hk)
    rw [e] at hΦ
    refine LoopW.allL a.length _ hΦ (fun k rec hk _ h1 h2 => ?_) fun rec h1 _ => ?_
    · exact ⟨fun _ => ⟨iX (by omega) (by omega), iX (by omega) (by omega), fun hq => h1 (decide_eq_false hq), fun hq => ⟨iI (by omega) (by omega), h2 (decide_eq_true (Classical.not_not.1 hq))⟩⟩, fun q => absurd (by omega) q⟩
    · exact ⟨fun q => absurd q (by omega), fun _ => h1⟩
def encF : Nat → Nat → List (BitVec 8)
  | 0, n => [BitVec.ofNat 8 n]
  | f + 1, n => if 128 ≤ n then BitVec.ofNat 8 (n % 128 + 128) :: encF f (n / 128) else [BitVec.ofNat 8 n]
def capN (x : Int) : Nat := if x < 0 ∨ 9007199254740991 < x then 0 else x.toNat
def encI (x : Int) : List (BitVec 8) := encF 8 (capN x)
theorem cap_le (x : Int) : capN x ≤ 9007199254740991 := by unfold capN; split <;> omega
theorem encF_small {n : Nat} (h : n < 128) : ∀ f, encF f n = [BitVec.ofNat 8 n]
  | 0 => rfl
  | f + 1 => by unfold encF; rw [if_neg (by omega)]
theorem encF_big {n f : Nat} (h : 128 ≤ n) : encF (f + 1) n = BitVec.ofNat 8 (n % 128 + 128) :: encF f (n / 128) := by
  conv => lhs; unfold encF
  rw [if_pos h]
theorem encF_len : ∀ f n, 0 < (encF f n).length ∧ (encF f n).length ≤ f + 1
  | 0, n => ⟨by unfold encF; exact Nat.one_pos, by unfold encF; exact Nat.le_refl _⟩
  | f + 1, n => by
    have := encF_len f (n / 128)
    unfold encF
    split
    · rw [List.length_cons]; omega
    · show 0 < 1 ∧ 1 ≤ f + 2; omega
theorem encI_len (x : Int) : 0 < (encI x).length ∧ (encI x).length ≤ 9 := encF_len 8 _
def encList {α : Type} (enc : α → List (BitVec 8)) (l : List α) : List (BitVec 8) := encI (l.length : Int) ++ l.flatMap enc
theorem or_hi {x : Nat} (h : x < 128) : x ||| 128 = x + 128 := by
  have := Nat.two_pow_add_eq_or_of_lt (i := 7) (b := x) (by omega) 1
  rw [Nat.or_comm]
  have e : (2 ^ 7 * 1 : Nat) = 128 := by decide
  rw [e] at this
  omega
theorem byte_hi (m : Nat) : (BitVec.ofInt 8 ((m : Int) % 128) ||| (128#8)) = BitVec.ofNat 8 (m % 128 + 128) := by
  have e : ((m : Int) % 128) = ((m % 128 : Nat) : Int) := by omega
  rw [e, BitVec.ofInt_natCast]
  apply BitVec.eq_of_toNat_eq
  rw [BitVec.toNat_or, BitVec.toNat_ofNat, BitVec.toNat_ofNat]
  show (m % 128 % 256 ||| 128) = (m % 128 + 128) % 256
  rw [show m % 128 % 256 = m % 128 by omega, or_hi (by omega)]; omega
abbrev By := List (BitVec 8)
def PutStep (K : By → Prop) : (Int × By) → ((Int × By) → Prop) → Prop
  | (v3, v4), rec2 =>
    (128 ≤ v3 →
      (0 ≤ v3 ∧ 128 ≠ (0 : Int)) ∧
      lenOk (v4 ++ ([((BitVec.ofInt 8 (v3 % 128)) ||| (128#8))] : List (BitVec 8))).length 1 ∧
      (0 ≤ v3 ∧ inI v3 ∧ (0 : Int) < 128) ∧
      rec2 ((v3 / 128), (v4 ++ ([((BitVec.ofInt 8 (v3 % 128)) ||| (128#8))] : List (BitVec 8))))) ∧
    (¬ (128 ≤ v3) →
      lenOk (v4 ++ ([(BitVec.ofInt 8 v3)] : List (BitVec 8))).length 1 ∧
      K (v4 ++ ([(BitVec.ofInt 8 v3)] : List (BitVec 8))))
theorem put_inv {step : (Int × By) → ((Int × By) → Prop) → Prop} {K : By → Prop} {n : Nat} {out : By} (hn : n ≤ 9007199254740991) (ho : out.length ≤ 900000)
    (h1 : ∀ (m : Nat) (o : By) rec, 128 ≤ m → m ≤ 9007199254740991 → o.length < 1000000 → rec (((m / 128 : Nat) : Int), o ++ [BitVec.ofNat 8 (m % 128 + 128)]) → step ((m : Int), o) rec)
    (h2 : ∀ (m : Nat) (o : By) rec, m < 128 → o.length < 1000000 → K (o ++ [BitVec.ofNat 8 m]) → step ((m : Int), o) rec)
    (hK : K (out ++ encF 8 n)) : LoopW step ((n : Int), out) := by
  refine LoopW.of_inv (fun s => ∃ (f m : Nat) (o : By), s = ((m : Int), o) ∧ f ≤ 8 ∧ m < 128 ^ (f + 1) ∧ m ≤ 9007199254740991 ∧ o.length + f ≤ 900008 ∧ K (o ++ encF f m)) (fun s => s.1.toNat) ?_ ⟨8, n, out, rfl, Nat.le_refl _, by omega, hn, by omega, hK⟩
  rintro _ rec ⟨f, m, o, rfl, hf, hm, hm2, hl, hK⟩ hrec
  rcases Nat.lt_or_ge m 128 with h | h
  · rw [encF_small h] at hK
    exact h2 m o rec h (by omega) hK
  · cases f with
    | zero => exact absurd hm (by omega)
    | succ f =>
      rw [encF_big h] at hK
      refine h1 m o rec h hm2 (by omega) (hrec _ ⟨f, m / 128, _, rfl, by omega, ?_, by omega, ?_, ?_⟩ ?_)
      · rw [Nat.pow_succ] at hm; exact Nat.div_lt_of_lt_mul (by rw [Nat.mul_comm]; exact hm)
      · rw [len_snoc]; omega
      · rw [List.append_assoc]; exact hK
      · show (((m / 128 : Nat) : Int)).toNat < ((m : Int)).toNat
        omega
theorem put_loop {K : By → Prop} {n : Nat} {out : By} (hn : n ≤ 9007199254740991) (ho : out.length ≤ 900000) (hK : K (out ++ encF 8 n)) : LoopW (PutStep K) ((n : Int), out) := by
  refine put_inv hn ho (fun m o rec h hm hl hr => ⟨fun _ => ⟨⟨by omega, by omega⟩, ?_, ⟨by omega, iI (by omega) (by omega), by omega⟩, ?_⟩, fun q => absurd (show (128 : Int) ≤ m by omega) q⟩) (fun m o rec h hl hk => ⟨fun q => absurd q (by omega), fun _ => ⟨?_, ?_⟩⟩) hK
  · exact iL (by rw [len_snoc]; omega) (by omega)
  · rw [byte_hi]; exact hr
  · exact iL (by rw [len_snoc]; omega) (by omega)
  · rw [BitVec.ofInt_natCast]; exact hk
theorem cap_ok {x : Int} {J : Int → Prop} (h : J (capN x : Int)) : (x < 0 → J 0) ∧ (¬ (x < 0) → (9007199254740991 < x → J 0) ∧ (¬ (9007199254740991 < x) → J x)) := by
  unfold capN at h
  refine ⟨fun q => ?_, fun q => ⟨fun r => ?_, fun r => ?_⟩⟩
  · rw [if_pos (.inl q)] at h; exact h
  · rw [if_pos (.inr r)] at h; exact h
  · rw [if_neg (by omega)] at h
    rw [show ((x.toNat : Nat) : Int) = x by omega] at h; exact h
theorem clone_by {x0 : By} {Φ : By → Prop} (h : x0.length ≤ 1000000) (hΦ : Φ x0) : Z55 x0 Φ := ⟨fun e => by rw [e] at hΦ; exact hΦ, iL h (by omega), hΦ⟩
theorem flat_take_le {α : Type} (enc : α → By) (l : List α) (k : Nat) : ((l.take k).flatMap enc).length ≤ (l.flatMap enc).length := by
  conv => rhs; rw [← List.take_append_drop k l]
  rw [List.flatMap_append, List.length_append]; omega
theorem flat_snoc {α : Type} [Dt α] (enc : α → By) {l : List α} {k : Nat} (h : k < l.length) : (l.take (k + 1)).flatMap enc = (l.take k).flatMap enc ++ enc (ix l (k : Int)) := by
  rw [take_ix h, List.flatMap_append, List.flatMap_cons, List.flatMap_nil, List.append_nil]
theorem encList_len {α : Type} (enc : α → By) (l : List α) : (encList enc l).length = (encI (l.length : Int)).length + (l.flatMap enc).length := List.length_append
theorem wire_PutInt_ok {x0 : By} {n : Int} {Φ : By → Prop} (h : x0.length ≤ 900000) (hΦ : Φ (x0 ++ encI n)) : wire_PutInt_W x0 n Φ := by
  refine clone_by (by omega) (cap_ok (J := Z63 x0 Φ) ?_)
  have e : Z62 Φ = PutStep Φ := by funext ⟨a, b⟩ rec; rfl
  show LoopW (Z62 Φ) _
  rw [e]
  exact put_loop (cap_le n) h hΦ
theorem wire_PutInts_ok {x0 : By} {l : List Int} {Φ : By → Prop} (h : x0.length + (encList encI l).length ≤ 900000) (hΦ : Φ (x0 ++ encList encI l)) : Z61 x0 l Φ := by
  rw [encList_len] at h
  refine clone_by (by omega) (cap_ok (J := Z60 l x0 Φ) ?_)
  have e : Z59 l Φ = PutStep (fun o => LoopW (Z58 l Φ) (0, o)) := by funext ⟨a, b⟩ rec; rfl
  show LoopW (Z59 l Φ) _
  rw [e]
  refine put_loop (cap_le _) (by omega) ?_
  have fl := flat_take_le encI l
  have el : (x0 ++ encF 8 (capN (l.length : Int))).length ≤ 900000 - (l.flatMap encI).length := by
    rw [List.length_append]
    have : (encF 8 (capN (l.length : Int))).length = (encI (l.length : Int)).length := rfl
    omega
  have ln : l.length ≤ (l.flatMap encI).length := by
    clear hΦ h e fl el
    induction l with
    | nil => exact Nat.le_refl _
    | cons x r ih => rw [List.flatMap_cons, List.length_append, List.length_cons]; have := encI_len x; omega
  refine LoopW.upT l.length (fun k => ((k : Int), (x0 ++ encF 8 (capN (l.length : Int))) ++ (l.take k).flatMap encI)) (by rw [List.take_zero, List.flatMap_nil, List.append_nil]; rfl) (fun k rec hk hr => ⟨fun _ => ⟨iX (by omega) (by omega), ?_⟩, fun q => absurd (show (k : Int) < (l.length : Int) by omega) q⟩) fun rec => ⟨fun q => absurd q (by omega), fun _ => ?_⟩
  · refine cap_ok (J := Z57 (k : Int) _ rec Φ) ?_
    have e2 : Z56 (k : Int) rec Φ = PutStep (fun o => inI ((k : Int) + 1) ∧ rec ((k : Int) + 1, o)) := by funext ⟨a, b⟩ rec2; rfl
    show LoopW (Z56 (k : Int) rec Φ) _
    rw [e2]
    refine put_loop (cap_le _) (by rw [List.length_append]; have := fl k; omega) ⟨iI (by omega) (by omega), hr _ ?_⟩
    rw [flat_snoc encI hk, ← List.append_assoc]; rfl
  · rw [take_all, List.append_assoc]; exact hΦ
theorem flat_at_le {α : Type} [Dt α] (enc : α → By) {l : List α} {k : Nat} (h : k < l.length) : ((l.take k).flatMap enc).length + (enc (ix l (k : Int))).length ≤ (l.flatMap enc).length := by
  have := flat_take_le enc l (k + 1)
  rw [flat_snoc enc h, List.length_append] at this
  exact this
def w0 : api_Write := ⟨0, 0, []⟩
def encX (e : api_Extent) : By := encI e.Start ++ encI e.Count
theorem encX_len (e : api_Extent) : 0 < (encX e).length ∧ (encX e).length ≤ 18 := by
  unfold encX
  have := encI_len e.Start
  have := encI_len e.Count
  rw [List.length_append]; omega
theorem flat_ge {α : Type} {enc : α → By} (h : ∀ x, 0 < (enc x).length) : ∀ l : List α, l.length ≤ (l.flatMap enc).length
  | [] => Nat.le_refl _
  | x :: r => by
    rw [List.flatMap_cons, List.length_append, List.length_cons]
    have := h x
    have := flat_ge h r
    omega
theorem flat_bd {α : Type} {enc : α → By} {b : Nat} : ∀ {l : List α}, (∀ x ∈ l, (enc x).length ≤ b) → (l.flatMap enc).length ≤ b * l.length
  | [], _ => Nat.zero_le _
  | x :: r, h => by
    rw [List.flatMap_cons, List.length_append, List.length_cons, Nat.mul_succ]
    have := h x List.mem_cons_self
    have := flat_bd (l := r) fun y hy => h y (List.mem_cons_of_mem _ hy)
    omega
theorem wire_PutExtents_ok {x0 : By} {l : List api_Extent} {Φ : By → Prop} (h : x0.length + (encList encX l).length ≤ 900000) (hΦ : Φ (x0 ++ encList encX l)) : Z71 x0 l Φ := by
  rw [encList_len] at h
  refine clone_by (by omega) (cap_ok (J := Z70 l x0 Φ) ?_)
  have e : Z69 l Φ = PutStep (fun o => LoopW (Z68 l Φ) (0, o)) := by funext ⟨a, b⟩ rec; rfl
  show LoopW (Z69 l Φ) _
  rw [e]
  refine put_loop (cap_le _) (by omega) ?_
  have fl := flat_take_le encX l
  have el : (x0 ++ encF 8 (capN (l.length : Int))).length ≤ 900000 - (l.flatMap encX).length := by
    rw [List.length_append]
    have : (encF 8 (capN (l.length : Int))).length = (encI (l.length : Int)).length := rfl
    omega
  have ln := flat_ge (enc := encX) (fun x => (encX_len x).1) l
  refine LoopW.upT l.length (fun k => ((k : Int), (x0 ++ encF 8 (capN (l.length : Int))) ++ (l.take k).flatMap encX)) (by rw [List.take_zero, List.flatMap_nil, List.append_nil]; rfl) (fun k rec hk hr => ⟨fun _ => ⟨iX (by omega) (by omega), ?_⟩, fun q => absurd (show (k : Int) < (l.length : Int) by omega) q⟩) fun rec => ⟨fun q => absurd q (by omega), fun _ => ?_⟩
  · refine cap_ok (J := Z67 l (k : Int) _ rec Φ) ?_
    have fa := flat_at_le encX hk
    have fx : (encX (ix l (k : Int))).length = (encI (ix l (k : Int)).Start).length + (encI (ix l (k : Int)).Count).length := List.length_append
    have e2 : Z66 l (k : Int) rec Φ = PutStep (fun o => ((ix l (k : Int)).Count < 0 → LoopW (Z64 (k : Int) rec Φ) (0, o)) ∧ (¬ ((ix l (k : Int)).Count < 0) → (9007199254740991 < (ix l (k : Int)).Count → LoopW (Z64 (k : Int) rec Φ) (0, o)) ∧ (¬ (9007199254740991 < (ix l (k : Int)).Count) → LoopW (Z64 (k : Int) rec Φ) ((ix l (k : Int)).Count, o)))) := by funext ⟨a, b⟩ rec2; rfl
    show LoopW (Z66 l (k : Int) rec Φ) _
    rw [e2]
    refine put_loop (cap_le _) (by rw [List.length_append]; omega) (cap_ok (J := fun c => LoopW (Z64 (k : Int) rec Φ) (c, _)) ?_)
    have e3 : Z64 (k : Int) rec Φ = PutStep (fun o => inI ((k : Int) + 1) ∧ rec ((k : Int) + 1, o)) := by funext ⟨a, b⟩ rec3; rfl
    rw [e3]
    have : (encF 8 (capN (ix l (k : Int)).Start)).length = (encI (ix l (k : Int)).Start).length := rfl
    refine put_loop (cap_le _) (by rw [List.length_append, List.length_append]; omega) ⟨iI (by omega) (by omega), hr _ ?_⟩
    rw [flat_snoc encX hk, ← List.append_assoc]
    refine Prod.ext rfl ?_
    show (_ ++ encI (ix l (k : Int)).Start) ++ encI (ix l (k : Int)).Count = _ ++ (encI (ix l (k : Int)).Start ++ encI (ix l (k : Int)).Count)
    rw [List.append_assoc]
  · rw [take_all, List.append_assoc]; exact hΦ
def encB (b : api_Bitmap) : By := encList encX (exts b)
def encPr (p : api_Peer) : By := (encI p.Site ++ encI p.Common) ++ p.Dirty.flatMap encB
def encT (t : api_Tracker) : By := (encList encI t.Sizes ++ encI (t.Peers.length : Int)) ++ t.Peers.flatMap encPr
def encodeT (t : api_Tracker) : By := if trkE t ≠ 0 then [] else encT t
theorem exts_small {b : api_Bitmap} {n : Nat} (h : b.Size ≤ (n : Int)) : (exts b).length ≤ n := by
  unfold exts extR
  rw [List.length_map]
  split
  · exact Nat.zero_le _
  · have := (extsK_facts b.Words b.Size.toNat).2
    omega
theorem encB_len {b : api_Bitmap} (h : b.Size ≤ 200) : (encB b).length ≤ 3609 := by
  have h1 := exts_small (n := 200) h
  have h2 := flat_bd (enc := encX) (b := 18) (l := exts b) fun x _ => (encX_len x).2
  have h3 := encI_len ((exts b).length : Int)
  unfold encB
  rw [encList_len]
  omega
def SmallZ (sizes : List Int) : Prop := ∀ k : Nat, k < sizes.length → ix sizes (k : Int) ≤ 200
theorem TrkOk.bsize {t : api_Tracker} (h : TrkOk t) (hz : SmallZ t.Sizes) {p : api_Peer} (hp : p ∈ t.Peers) : p.Dirty.length ≤ 8 ∧ ∀ b ∈ p.Dirty, b.Size ≤ 200 := by
  have hd := h.dirty hp
  refine ⟨by have := (h.small.2.2 p hp).1; omega, fun b hb => ?_⟩
  obtain ⟨v, hv, rfl⟩ := List.getElem_of_mem hb
  have hvl : v < t.Sizes.length := by have := hd.len; omega
  have := (hd.chk v hvl).2
  rw [ix_get hv] at this
  have := hz v hvl
  omega
theorem encPr_len {t : api_Tracker} (h : TrkOk t) (hz : SmallZ t.Sizes) {p : api_Peer} (hp : p ∈ t.Peers) : (p.Dirty.flatMap encB).length ≤ 28872 ∧ (encPr p).length ≤ 28890 := by
  have hb := h.bsize hz hp
  have h1 := flat_bd (enc := encB) (b := 3609) (l := p.Dirty) fun b hb' => encB_len (hb.2 b hb')
  have h2 := encI_len p.Site
  have h3 := encI_len p.Common
  have h4 : (p.Dirty.flatMap encB).length ≤ 28872 := by omega
  refine ⟨h4, ?_⟩
  unfold encPr
  rw [List.length_append, List.length_append]
  omega
theorem encT_len {t : api_Tracker} (h : TrkOk t) (hz : SmallZ t.Sizes) : (encList encI t.Sizes).length ≤ 81 ∧ (t.Peers.flatMap encPr).length ≤ 115560 ∧ (encT t).length ≤ 115650 := by
  have h8 := h.small
  have h1 := flat_bd (enc := encPr) (b := 28890) (l := t.Peers) fun p hp => (encPr_len h hz hp).2
  have h2 := flat_bd (enc := encI) (b := 9) (l := t.Sizes) fun x _ => (encI_len x).2
  have h3 := encI_len (t.Sizes.length : Int)
  have h4 := encI_len (t.Peers.length : Int)
  have h5 : (encList encI t.Sizes).length ≤ 81 := by rw [encList_len]; omega
  have h6 : (t.Peers.flatMap encPr).length ≤ 115560 := by omega
  refine ⟨h5, h6, ?_⟩
  unfold encT
  rw [List.length_append, List.length_append]
  omega
theorem tracker_Encode_ok {t : api_Tracker} {Φ : By → Prop} (hd : ∀ p ∈ t.Peers, p.Dirty.length ≤ 100000) (hz : trkE t = 0 → SmallZ t.Sizes) (hΦ : Φ (encodeT t)) : Z74 t Φ := by
  unfold encodeT at hΦ
  refine tracker_Check_ok hd ⟨fun q => by rw [if_pos q] at hΦ; exact hΦ, fun q => ?_⟩
  rw [if_neg q] at hΦ
  have q := Classical.not_not.1 q
  have h := trk_ok q
  have hz := hz q
  obtain ⟨h8, h4, hs⟩ := h.small
  obtain ⟨b1, b2, b3⟩ := encT_len h hz
  have b4 := encI_len (t.Peers.length : Int)
  refine ⟨(encList encI t.Sizes, ()), wire_PutInts_ok (by show 0 + _ ≤ _; omega) rfl, (encList encI t.Sizes ++ encI (t.Peers.length : Int), ()), wire_PutInt_ok (by show (encList encI t.Sizes).length ≤ _; omega) rfl, ?_⟩
  refine LoopW.upT t.Peers.length (fun k => ((k : Int), (encList encI t.Sizes ++ encI (t.Peers.length : Int)) ++ (t.Peers.take k).flatMap encPr)) (by rw [List.take_zero, List.flatMap_nil, List.append_nil]; rfl) (fun k rec hk hr => ⟨fun _ => ?_, fun q => absurd (show (k : Int) < (t.Peers.length : Int) by omega) q⟩) fun rec => ⟨fun q => absurd (show (t.Peers.length : Int) < (t.Peers.length : Int) from q) (by omega), fun _ => ?_⟩
  · have fa := flat_at_le encPr hk
    have hpm := ix_mem (xs := t.Peers) (i := (k : Int)) (iX (by omega) (by omega))
    have hb := h.bsize hz hpm
    have e1 := encI_len (ix t.Peers (k : Int)).Site
    have e2 := encI_len (ix t.Peers (k : Int)).Common
    have e3 := (encPr_len h hz hpm).1
    generalize hp : ix t.Peers (k : Int) = p at *
    refine ⟨iX (by omega) (by omega), (_, ()), wire_PutInt_ok (by rw [List.length_append, List.length_append]; omega) rfl, (_, ()), wire_PutInt_ok (by rw [List.length_append, List.length_append, List.length_append]; omega) rfl, ?_⟩
    refine LoopW.upT p.Dirty.length (fun j => ((j : Int), (((encList encI t.Sizes ++ encI (t.Peers.length : Int)) ++ (t.Peers.take k).flatMap encPr) ++ encI p.Site ++ encI p.Common) ++ (p.Dirty.take j).flatMap encB)) (by rw [List.take_zero, List.flatMap_nil, List.append_nil]; rfl) (fun j rec2 hj hr2 => ?_) fun rec2 => ?_
    · have fb := flat_at_le encB hj
      unfold Z72
      simp only
      rw [hp]
      refine ⟨fun _ => ⟨iX (by omega) (by omega), bitmap_Extents_ok (wire_PutExtents_ok ?_ ⟨iI (by omega) (by omega), hr2 _ (Prod.ext rfl ?_)⟩)⟩, fun q => absurd (show (j : Int) < (p.Dirty.length : Int) by omega) q⟩
      · have : (encB (ix p.Dirty (j : Int))).length = (encList encX (exts (ix p.Dirty (j : Int)))).length := rfl
        rw [List.length_append, List.length_append, List.length_append, List.length_append, List.length_append]; omega
      · rw [flat_snoc encB hj, ← List.append_assoc]; rfl
    · unfold Z72
      simp only
      rw [hp]
      refine ⟨fun q => absurd q (by omega), fun _ => ⟨iI (by omega) (by omega), hr _ (Prod.ext rfl ?_)⟩⟩
      rw [take_all, flat_snoc encPr hk, hp]
      unfold encPr
      simp only [List.append_assoc]
  · rw [take_all]; exact hΦ
theorem dirty_few {t : api_Tracker} (h : trkE t = 0) : ∀ p ∈ t.Peers, p.Dirty.length ≤ 100000 := fun p hp => by
  have := ((trk_ok h).small.2.2 p hp).1
  omega
theorem marked_true {l : List api_Bitmap} {want : List (List api_Extent)} {Φ : Bool → Prop} (hl : l.length ≤ 1000) (h : l.map exts = want) (hΦ : Φ true) : Z54 l want Φ := by
  subst h
  refine ⟨fun q => absurd (by rw [List.length_map]) q, fun _ => LoopW.upT l.length (fun k => (k : Int)) rfl (fun k rec hk hr => ⟨fun _ => ⟨iX (by omega) (by omega), (exts (ix l (k : Int)), ()), bitmap_Extents_ok rfl, iX (by omega) (by rw [List.length_map]; omega), (true, ()), ref02_SameExtents_ok (by have := exts_len (ix l (k : Int)); show (exts (ix l (k : Int))).length ≤ 1000000; omega) ?_, fun q => absurd rfl q, fun _ => ⟨iI (by omega) (by omega), hr _ rfl⟩⟩, fun q => absurd (show (k : Int) < (l.length : Int) by omega) q⟩) fun rec => ⟨fun q => absurd (show (l.length : Int) < (l.length : Int) from q) (by omega), fun _ => hΦ⟩⟩
  rw [ix_map _ hk]
  show (decide (exts (ix l (k : Int)) = exts (ix l (k : Int))), ()) = (true, ())
  rw [decide_eq_true rfl]
abbrev sA : Sec := Sec.mk (1#8) (0#8) (0#8) (0#8) (0#8) (0#8) (0#8) (0#8)
def aw1 : api_Tracker × Int := newT [4, 2] [3, 1] 0
def aw2 : api_Tracker × Int := writeT aw1.1 (api_Write.mk 0 0 [sA, sA])
def aw3 : api_Tracker × Int := writeT aw2.1 (api_Write.mk 1 1 [sA])
def awC : List api_Cycle := [api_Cycle.mk 1 2 0 [] [api_Write.mk 0 1 [sA]]]
def aw5 : api_Tracker × Int := agreeT aw3.1 3 1 awC
def aw7 : api_Tracker × Int := newT [4] [2] 5
def aw8 : api_Tracker × Int := writeT aw7.1 (api_Write.mk 0 0 [sA, sA])
theorem aw_trk : trkE aw1.1 = 0 ∧ trkE aw2.1 = 0 ∧ trkE aw3.1 = 0 ∧ trkE aw5.1 = 0 ∧ trkE aw7.1 = 0 ∧ trkE aw8.1 = 0 := ⟨by kernel_rfl, by kernel_rfl, by kernel_rfl, by kernel_rfl, by kernel_rfl, by kernel_rfl⟩
theorem aw_err : aw1.2 = 0 ∧ aw2.2 = 0 ∧ aw3.2 = 0 ∧ aw5.2 = 0 ∧ aw7.2 = 0 ∧ aw8.2 = 0 := ⟨by kernel_rfl, by kernel_rfl, by kernel_rfl, by kernel_rfl, by kernel_rfl, by kernel_rfl⟩
theorem aw_dirty : (dirtyT aw3.1 1).2 = (0, 0) ∧ (dirtyT aw5.1 3).2 = (1, 0) := ⟨by kernel_rfl, by kernel_rfl⟩
theorem aw_marks : (dirtyT aw3.1 1).1.map exts = [[api_Extent.mk 0 2], [api_Extent.mk 1 1]] ∧ (dirtyT aw5.1 3).1.map exts = [[api_Extent.mk 1 1], []] := ⟨by kernel_rfl, by kernel_rfl⟩
theorem aw_enc : bsOf ((encodeT aw8.1).map fun x => x) = strK1 := by kernel_rfl
theorem map_len {α β : Type} {f : α → β} {l : List α} {m : List β} (h : l.map f = m) : l.length = m.length := by rw [← h, List.length_map]
theorem law43_awake_ok {Φ : Bool → Prop} (hΦ : Φ true) : law43_awake_W Φ := by
  obtain ⟨t1, t2, t3, t5, t7, t8⟩ := aw_trk
  obtain ⟨e1, e2, e3, e5, e7, e8⟩ := aw_err
  obtain ⟨d4, d6⟩ := aw_dirty
  obtain ⟨m4, m6⟩ := aw_marks
  refine tracker_New_ok ?_
  refine tracker_Write_ok (t := aw1.1) (dirty_few t1) (by decide) ?_
  refine tracker_Write_ok (t := aw2.1) (dirty_few t2) (by decide) ?_
  refine tracker_Dirty_ok (t := aw3.1) (dirty_few t3) ?_
  refine tracker_Agree_ok (t := aw3.1) (later := awC) (dirty_few t3) ⟨by decide, fun c hc => by
    rw [List.mem_singleton.1 hc]
    exact ⟨by decide, by decide, fun w hw => by rw [List.mem_singleton.1 hw]; decide⟩⟩ ?_
  refine tracker_Dirty_ok (t := aw5.1) (dirty_few t5) ?_
  have J1 : Z75 Φ () := by
    unfold Z75
    refine tracker_New_ok ?_
    refine tracker_Write_ok (t := aw7.1) (w := api_Write.mk 0 0 [sA, sA]) (dirty_few t7) (by decide) ?_
    refine ⟨fun _ => ⟨fun _ => ?_, fun q => absurd e8 q⟩, fun q => absurd e7 q⟩
    refine tracker_Encode_ok (t := aw8.1) (dirty_few t8) (fun _ => ?_) ⟨fun _ _ => rfl, ?_⟩
    · intro k hk
      have hs : aw8.1.Sizes = [4] := by kernel_rfl
      rw [hs] at hk ⊢
      have hk : k < 1 := hk
      obtain rfl : k = 0 := by omega
      decide
    · rw [decide_eq_true aw_enc]; exact hΦ
  show inI (aw1.2 + aw2.2) ∧ inI ((aw1.2 + aw2.2) + aw3.2) ∧ inI (((aw1.2 + aw2.2) + aw3.2) + (dirtyT aw3.1 1).2.2) ∧ inI ((((aw1.2 + aw2.2) + aw3.2) + (dirtyT aw3.1 1).2.2) + aw5.2) ∧ inI (((((aw1.2 + aw2.2) + aw3.2) + (dirtyT aw3.1 1).2.2) + aw5.2) + (dirtyT aw5.1 3).2.2) ∧ ((((((aw1.2 + aw2.2) + aw3.2) + (dirtyT aw3.1 1).2.2) + aw5.2) + (dirtyT aw5.1 3).2.2) ≠ 0 → _) ∧ (¬ ((((((aw1.2 + aw2.2) + aw3.2) + (dirtyT aw3.1 1).2.2) + aw5.2) + (dirtyT aw5.1 3).2.2) ≠ 0) → ((dirtyT aw3.1 1).2.1 ≠ 0 → _) ∧ (¬ ((dirtyT aw3.1 1).2.1 ≠ 0) → ((dirtyT aw5.1 3).2.1 ≠ 1 → _) ∧ (¬ ((dirtyT aw5.1 3).2.1 ≠ 1) → Z54 (dirtyT aw3.1 1).1 _ _)))
  rw [e1, e2, e3, e5, d4, d6]
  refine ⟨iI (by decide) (by decide), iI (by decide) (by decide), iI (by decide) (by decide), iI (by decide) (by decide), iI (by decide) (by decide), fun q => absurd rfl q, fun _ => ⟨fun q => absurd rfl q, fun _ => ⟨fun q => absurd rfl q, fun _ => ?_⟩⟩⟩
  refine marked_true (by rw [map_len m4]; decide) m4 (tt ?_)
  exact marked_true (by rw [map_len m6]; decide) m6 (tt J1)
theorem ref43_FewBitmaps_ok {d : List api_Bitmap} {Φ : Bool → Prop} (hF : Φ false) (hT : d.length ≤ 20 → Φ true) : Z2 d Φ := by
  have last : Φ (decide ((d.length : Int) ≤ 20)) := by
    by_cases h : (d.length : Int) ≤ 20
    · rw [decide_eq_true h]; exact hT (by omega)
    · rw [decide_eq_false h]; exact hF
  refine LoopW.upT (min d.length 20) (fun k => (k : Int)) rfl (fun k rec hk hr => ⟨fun _ => ?_, fun q => absurd (show (k : Int) < (d.length : Int) by omega) q⟩) fun rec => ⟨fun q => ?_, fun _ => fF last⟩
  · have hx : inX (k : Int) d.length := iX (by omega) (by omega)
    rw [decide_eq_true (show (k : Int) < 20 by omega)]
    exact tT ⟨hx, fun _ => ⟨hx, fun _ => hF, fun _ => ⟨hx, fun _ => hF, fun _ => ⟨iI (by omega) (by omega), hr _ rfl⟩⟩⟩, fun _ => ⟨hx, fun _ => hF, fun _ => ⟨iI (by omega) (by omega), hr _ rfl⟩⟩⟩
  · have q : ((min d.length 20 : Nat) : Int) < (d.length : Int) := q
    rw [decide_eq_false (show ¬ ((min d.length 20 : Nat) : Int) < 20 by omega)]
    exact fF last
structure FewT (t : api_Tracker) : Prop where
  p : t.Peers.length ≤ 20
  s : t.Sizes.length ≤ 20
  d : ∀ x ∈ t.Peers, x.Dirty.length ≤ 20
  z : ∀ k : Nat, k < t.Sizes.length → ¬ (200 < ix t.Sizes (k : Int) ∧ ix t.Sizes (k : Int) ≤ 4096)
theorem FewT.dirty {t : api_Tracker} (h : FewT t) : ∀ p ∈ t.Peers, p.Dirty.length ≤ 100000 := fun p hp => by have := h.d p hp; omega
theorem FewT.small {t : api_Tracker} (h : FewT t) (h0 : trkE t = 0) : SmallZ t.Sizes := fun k hk => by
  have := h.z k hk
  have := sizesE_ix (trk_ok h0).hs hk
  omega
def MidT (t : api_Tracker) : Prop := t.Sizes.length ≤ 1000000 ∧ t.Peers.length ≤ 1000000 ∧ ∀ p ∈ t.Peers, p.Dirty.length ≤ 1000000 ∧ ∀ b ∈ p.Dirty, b.Words.length ≤ 1000000
theorem TrkOk.mid {t : api_Tracker} (h : TrkOk t) : MidT t := by
  obtain ⟨h8, h4, hs⟩ := h.small
  exact ⟨by omega, by omega, fun p hp => ⟨by have := (hs p hp).1; omega, fun b hb => by have := (hs p hp).2 b hb; omega⟩⟩
theorem bitmap_Get_ok {b : api_Bitmap} {k : Nat} {Φ : Bool → Prop} (hc : chkB b = 0) (hk : (k : Int) < b.Size) (hΦ : Φ (bitN b.Words k)) : bitmap_Get_W b (k : Int) Φ := by
  have hw := chkB_len (b := b) (by simpa using hc)
  refine bitmap_Check_ok ⟨fun _ => ⟨fun _ => ⟨fun _ => ⟨⟨by omega, iI (by omega) (by omega), by omega⟩, iX (by omega) (by omega), ⟨by omega, by omega⟩, by omega, ?_⟩, fun q => absurd hk q⟩, fun q => absurd (show (0 : Int) ≤ (k : Int) by omega) q⟩, fun q => absurd hc q⟩
  have e : decide (((ix b.Words ((k : Int) / 64)) >>> (((k : Int) % 64) : Int).toNat &&& (1#64)) = (1#64)) = bitN b.Words k := by
    rw [Bool.eq_iff_iff, decide_eq_true_iff]; exact bit_prop b.Words k
  rw [e]; exact hΦ
theorem orB_facts {a b : api_Bitmap} (h : (orB a b).2 = 0) : chkB a = 0 ∧ chkB b = 0 ∧ a.Size = b.Size ∧ chkB (orB a b).1 = 0 ∧ (orB a b).1.Size = a.Size ∧ ∀ k : Nat, (k : Int) < a.Size → bitN (orB a b).1.Words k = (bitN a.Words k || bitN b.Words k) := by
  have e0 : bothE a.Size a.Words b.Size b.Words = 0 := Classical.byContradiction fun q => by
    have e : orB a b = bmOf ⟨0, [], bothE a.Size a.Words b.Size b.Words⟩ := by unfold orB; rw [bothR_bad rfl q]
    rw [e] at h; exact q h
  obtain ⟨h1, h2, h3⟩ := bothE_ok e0
  have e : orB a b = (⟨a.Size, List.zipWith (fun x y => x ||| y) a.Words b.Words⟩, 0) := by unfold orB; rw [bothR_ok e0]; rfl
  have w1 := wf_len h1
  have w2 := wf_len h2
  have hl : a.Words.length = b.Words.length := by omega
  rw [e]
  refine ⟨h1, h2, h3, ?_, rfl, fun k hk => bit_or hl (by omega)⟩
  exact chk_zip (· || ·) rfl (fun _ _ _ _ => BitVec.getLsbD_or) h1 (by rw [h3]; exact h2)
theorem mrg_err {a b : List api_Bitmap} (h : (mrgT a b).2 ≠ 0) : (mrgT a b).1 = [] := by
  unfold mrgT at h ⊢
  split
  · rfl
  · rename_i q
    rw [if_neg q] at h
    split
    · rfl
    · rename_i q2
      rw [if_neg q2] at h; exact absurd rfl h
theorem mrg_ok {a b : List api_Bitmap} (h : (mrgT a b).2 = 0) : (a.length : Int) = (b.length : Int) ∧ (mrgT a b).1.length = a.length ∧ ∀ k : Nat, k < a.length → ix (mrgT a b).1 (k : Int) = (orB (ix a (k : Int)) (ix b (k : Int))).1 ∧ (orB (ix a (k : Int)) (ix b (k : Int))).2 = 0 := by
  unfold mrgT at h ⊢
  by_cases q : (a.length : Int) ≠ (b.length : Int)
  · rw [if_pos q] at h; exact absurd (show (6 : Int) = 0 from h) (by decide)
  rw [if_neg q] at h ⊢
  by_cases q2 : firstN (fun k => (orK a b k).2) a.length ≠ 0
  · rw [if_pos q2] at h; exact absurd h q2
  rw [if_neg q2]
  refine ⟨Classical.not_not.1 q, by show ((List.range a.length).map fun k => (orK a b k).1).length = _; rw [List.length_map, List.length_range], fun k hk => ⟨?_, firstN_zero.1 (Classical.not_not.1 q2) k hk⟩⟩
  show ix ((List.range a.length).map fun k => (orK a b k).1) (k : Int) = _
  rw [ix_get (by rw [List.length_map, List.length_range]; exact hk), List.getElem_map, List.getElem_range]; rfl
theorem trackerUnites_law (a b : List api_Bitmap) (_ : Rg.rg a) (_ : Rg.rg b) : Z82 a b fun y => y = true := by
  have aw : Z81 a b (fun y => y = true) true := tT (law43_awake_ok rfl)
  refine ref43_FewBitmaps_ok (ff aw) fun h => tt (ref43_FewBitmaps_ok ?_ fun h2 => ?_)
  · rw [decide_eq_true (show ¬ (false = true) by simp)]; exact aw
  rw [decide_eq_false (show ¬ ¬ (true = true) by simp)]
  refine fF (tracker_Merge_ok (by omega) ⟨fun e => law43_awake_ok (tT ?_), fun e => ?_⟩)
  · rw [mrg_err e]; rfl
  obtain ⟨m1, m2, m3⟩ := mrg_ok (Classical.not_not.1 e)
  refine ⟨fun q => absurd (by omega) q, fun _ => ⟨fun q => absurd m1 q, fun _ => ?_⟩⟩
  refine LoopW.upT a.length (fun v => (v : Int)) rfl (fun v rec2 hv hr2 => ⟨fun _ => ?_, fun q => absurd (show (v : Int) < (a.length : Int) by omega) q⟩) fun rec2 => ⟨fun q => absurd (show (a.length : Int) < (a.length : Int) from q) (by omega), fun _ => law43_awake_ok rfl⟩
  have ha : inX (v : Int) a.length := iX (by omega) (by omega)
  have hb : inX (v : Int) b.length := iX (by omega) (by omega)
  have hm : inX (v : Int) (mrgT a b).1.length := iX (by omega) (by omega)
  obtain ⟨x1, x2⟩ := m3 v hv
  obtain ⟨c1, c2, c3, c4, c5, c6⟩ := orB_facts x2
  rw [← x1] at c4 c5 c6
  have z := chkB_len (b := ix a (v : Int)) (by simpa using c1)
  refine LoopW.upT (min (ix a (v : Int)).Size 200).toNat (fun k => (k : Int)) rfl (fun k rec3 hk hr3 => ⟨ha, fun _ => ?_, fun q => absurd (show (k : Int) < (ix a (v : Int)).Size by omega) q⟩) fun rec3 => ⟨ha, fun q => ?_, fun _ => fF ⟨iI (by omega) (by omega), hr2 _ rfl⟩⟩
  · rw [decide_eq_true (show (k : Int) < 200 by omega)]
    have hk' : (k : Int) < (ix a (v : Int)).Size := by omega
    have e6 := c6 k hk'
    refine tT ⟨hm, (bitN (ix (mrgT a b).1 (v : Int)).Words k, ()), bitmap_Get_ok c4 (by rw [c5]; exact hk') rfl, ha, (bitN (ix a (v : Int)).Words k, ()), bitmap_Get_ok c1 hk' rfl, fun q => ⟨fun q2 => absurd ?_ q2, fun _ => ⟨iI (by omega) (by omega), hr3 _ rfl⟩⟩, fun q => ⟨hb, (bitN (ix b (v : Int)).Words k, ()), bitmap_Get_ok c2 (by rw [← c3]; exact hk') rfl, fun q2 => absurd ?_ q2, fun _ => ⟨iI (by omega) (by omega), hr3 _ rfl⟩⟩⟩
    · have q : bitN (ix a (v : Int)).Words k = true := q
      show bitN (ix (mrgT a b).1 (v : Int)).Words k = true
      rw [e6, q, Bool.true_or]
    · have q : ¬ bitN (ix a (v : Int)).Words k = true := q
      show bitN (ix (mrgT a b).1 (v : Int)).Words k = bitN (ix b (v : Int)).Words k
      rw [e6, Bool.eq_false_iff.2 q, Bool.false_or]
  · have q : (((min (ix a (v : Int)).Size 200).toNat : Nat) : Int) < (ix a (v : Int)).Size := q
    rw [decide_eq_false (show ¬ (((min (ix a (v : Int)).Size 200).toNat : Nat) : Int) < 200 by omega)]
    exact fF ⟨iI (by omega) (by omega), hr2 _ rfl⟩
end Go.Proofs.YtgojhiknicmopaaDoor
namespace Go.Proofs.YtgojhiknicmopaaDoor
open Go.RowKit Go.ChangeShapes Go.WideShapes Go.ChangeAt
set_option maxRecDepth 100000 in
theorem trackerUnites_lifted (os : Os) (started : os.Started) (H : Type) (enc : TypeId × Value → H) :
    ReturnsInHanded {} Tryd.checked os 3 .any (fun w args => (Rows.trackerUnitesSpec.pre enc Tryd.prog Tryd.f3 [] false w args ∧ laidMetH Tryd.prog [("math/bits.deBruijn64tab", Rows.laid_math_bits_deBruijn64tab)] w) ∧ sizedMet enc Tryd.prog Tryd.f3 (OpenSpec.ofChange Rows.trackerUnitesSpec) false w args)
      (Rows.trackerUnitesSpec.post enc Tryd.prog Tryd.f3 false true false false) := by
  refine returnsInHanded_of_change_and (C := Tryd.checked) (X := fun w _ => laidMetH Tryd.prog [("math/bits.deBruijn64tab", Rows.laid_math_bits_deBruijn64tab)] w) (fun _ _ _ hh h => h.of_heap hh) Tryd.own started (by kernel_rfl) Tryd.func3
    (ChangeSpec.witness_shaped (enc := enc) (C := Tryd.checked) (os := os) (X := fun w _ => laidMetH Tryd.prog [("math/bits.deBruijn64tab", Rows.laid_math_bits_deBruijn64tab)] w) false (World.doorLaid Tryd.prog 14 os) #[.slice none 0 0, .slice none 0 0] 8 rfl (World.shaped_of_RefB (by kernel_rfl) (by kernel_rfl)) (by kernel_rfl) (by kernel_rfl) (by kernel_rfl) (Tryd.doorMet os _)) ?_
  intro W base args ds gs before hval0 hW _ _ hL _
  have hval : ∀ (j : Nat) t v, Tryd.f3.params[j]? = some t → args[j]? = some v → Value.okWide Tryd.prog W .any base t v := hval0
  have hW' := hW
  obtain ⟨p, q, hA0, hV, hpq, _, _⟩ := hW
  have hA : DataW.TrodAll enc Tryd.prog W 0 (fun _ => true) true Tryd.f3.params.toList args.toList ds p := hA0
  rw [Tryd.params3] at hA hval
  obtain ⟨v0, v1, d0, d1, p0, p1, rfl, rfl, rfl, h0, h1⟩ := trodAll_two hA
  obtain ⟨rfl, rfl⟩ := trodVars_none hV
  have hT := tabHolds hL
  obtain ⟨Az0, nz0, cz0, sz0, x0, rfl, hz0, hg0⟩ := open_slD Tryd.underlying22 rd22 (hval 0 22 v0 rfl rfl) h0
  obtain ⟨Az1, nz1, cz1, sz1, x1, rfl, hz1, hg1⟩ := open_slD Tryd.underlying22 rd22 (hval 1 22 v1 rfl rfl) h1
  refine Calls.mono ((RetP.toV (y := true) (F := fun z => .bool z) (RetP.mono (ok3 (x0, x1, ()) (fun y => y.1 = true) (trackerUnites_law x0 x1 hg0 hg1) (HW W) [.slice Az0 nz0 cz0, .slice Az1 nz1 cz1] hT ⟨_, [.slice Az0 nz0 cz0], _, rfl, by rw [pkw22], (show Dt.rd (α := List api_Bitmap) (HW W) _ _ from ⟨Az0, nz0, cz0, sz0, rfl, hz0⟩), ⟨_, [.slice Az1 nz1 cz1], _, rfl, by rw [pkw22], (show Dt.rd (α := List api_Bitmap) (HW W) _ _ from ⟨Az1, nz1, cz1, sz1, rfl, hz1⟩), rfl⟩⟩) fun _ _ _ _ ⟨y, hy, hr⟩ => lawRes y hy hr)) W fun b o e => e) ?_
  rintro e W' ⟨v, _, rfl, _, _, _, hb, rfl⟩
  exact ⟨_, rfl, post_law Tryd.laidOut Tryd.underlying4 rfl (by kernel_rfl) hW' rfl rfl hb⟩
theorem trackerUnites_holds : Rows.TrackerUnitesSaid :=
  OpenClaim.holds_of_wide 3 Tryd.f3 rfl rfl rfl rfl rfl rfl rfl ⟨rfl, rfl, rfl, rfl, rfl⟩ rfl rfl rfl rfl rfl (by kernel_rfl) Tryd.func3 (by kernel_rfl)
    (of_decide_eq_true (by kernel_rfl)) (by unfold Func.isWrapper; first | (rw [if_pos (by decide +kernel)]; kernel_rfl) | (rw [if_neg (by decide +kernel)]; exact ⟨rfl, rfl⟩))
    (fun os started H enc _ => trackerUnites_lifted os started H enc)
theorem trackerUnites_card : Rows.TrackerUnitesCardSaid :=
  Claim7.holds_tied_plain_at .later [] [.data] true (true, "dcabe32ae61d318fbf05bed016eb18d07d82532c6760b69cb287494840d13797") false
    trackerUnites_holds (fun _ h => by cases h) (by kernel_rfl) (fun _ h => by cases h) trackerUnites_row_tie rfl ⟨rfl, rfl⟩ (by kernel_rfl) rfl
    (fun f fn hf hfn => by
      obtain rfl : f = 3 := Option.some.inj ((show Tryd.prog.funcNamed "standby/standbylaw43.TrackerUnites" = some 3 by kernel_rfl).symm.trans hf) |>.symm
      obtain rfl : fn = Tryd.f3 := (Option.some.inj (Tryd.func3.symm.trans hfn)).symm
      exact ⟨by kernel_rfl, fun j t ht => by
        rw [Tryd.params3] at ht
        have hm : t ∈ [22] := by
          have := Array.mem_of_getElem? ht
          simpa using this
        have hall : ([22].all fun u => !Tryd.prog.wantsStandIn u) = true := by kernel_rfl
        exact (show Tryd.prog.wantsStandIn t = false by simpa using List.all_eq_true.1 hall t hm)⟩)
    (by kernel_rfl)
end Go.Proofs.YtgojhiknicmopaaDoor
