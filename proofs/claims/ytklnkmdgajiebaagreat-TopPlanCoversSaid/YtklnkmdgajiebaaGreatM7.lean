/- Proved: the tied card of the statement TopPlanCovers: for every argument that can be read the law returns true and leaves its arguments as they were. Conditions: the row's own alone. -/
import Derived.Lib.TrailingZeros
import Derived.Shelf.SlicesG.Cmp
import Derived.Shelf.SlGeneric
import Derived.Ground.SlgcProg
import Derived.Ground.SlgmProg
import Derived.Ground.SlsfProg
import Derived.Shelf.SortM.Plain
import Derived.Shelf.SortM.SortNone
import Derived.Test.YtklnkmdgajiebaaGreatM6
namespace Go.Proofs.YtklnkmdgajiebaaGreat
open Go.RowKit
section
def mostF : List Int := [4096, 4096, 4096, 4096, 4096, 4096, 4096, 4096]
theorem q191 {Φ : List Int → Prop} (h : Φ mostF) : q58 Φ := q245 (o := mostF) (by kernel_rfl) h
structure q423 (c : q11) : Prop where
  pos : c.Positions.length ≤ 100000
  len : c.Writes.length ≤ 100000
  data : ∀ w ∈ c.Writes, w.Data.length ≤ 100000
  chk : cycE c mostF = 0
theorem q180 {l : List Bool} {Φ : List Bool → Prop} (hl : l.length ≤ 1000000) (hΦ : Φ l) : Z96 l Φ :=
  ⟨fun h => (by subst h; exact hΦ), iL hl (by omega), hΦ⟩
theorem q123 {c : q11} {Φ : q11 → Prop} (h : q423 c) (hΦ : Φ c) : Z98 c Φ := by
  have hp := h.pos; have hl := h.len; refine q24 (by omega) ⟨by omega, iL (by omega) (by omega), ?_⟩; refine LoopW.upT c.Writes.length (fun k => ((k : Int), c.Writes.take k)) rfl (fun k rec hk hr => ⟨fun _ => ⟨iX (by omega) (by omega), ?_⟩, fun q => absurd (show (k : Int) < (c.Writes.length : Int) by omega) q⟩) fun rec => ⟨fun q => absurd (show (c.Writes.length : Int) < (c.Writes.length : Int) from q) (by omega), fun _ => ?_⟩
  · refine q61 (by have := h.data _ (q88 (iX (i := (k : Int)) (by omega) (by omega))); omega) ⟨iL (by rw [q18, lenT (by omega)]; omega) (by omega), iI (by omega) (by omega), hr _ (pairE rfl ?_)⟩
    exact (q78 hk).symm
  · rw [q50]; exact hΦ
theorem q622 {f : q13} {Φ : q13 → Prop} (hk : ∀ c ∈ f.Kept, q423 c) (h1 : f.Kept.length ≤ 1000) (h2 : f.Applied.length ≤ 1000) (h3 : f.Lost.length ≤ 1000) (hΦ : Φ f) : Z100 f Φ := by
  refine ⟨(f.Applied, ()), q24 (by omega) rfl, (f.Lost, ()), q180 (by omega) rfl, ?_⟩; refine LoopW.upT f.Kept.length (fun k => ((k : Int), f.Kept.take k)) rfl (fun k rec hk' hr => ⟨fun _ => ⟨iX (by omega) (by omega), (ix f.Kept (k : Int), ()), q123 (hk _ (q88 (iX (by omega) (by omega)))) rfl, iL (by rw [q18, lenT (by omega)]; omega) (by omega), iI (by omega) (by omega), hr _ (pairE rfl (q78 hk').symm)⟩, fun q => absurd (show (k : Int) < (f.Kept.length : Int) by omega) q⟩) fun rec => ⟨fun q => absurd (show (f.Kept.length : Int) < (f.Kept.length : Int) from q) (by omega), fun _ => ?_⟩
  rw [q50]; exact hΦ
def oldS (a : List Int) (l : List Bool) : Nat → Int
  | 0 => -1
  | k + 1 => if ix l (k : Int) = true then oldS a l k else if oldS a l k < 0 then ix a (k : Int) else if ix a (k : Int) < oldS a l k then ix a (k : Int) else oldS a l k
theorem q623 {f : q13} {Φ : Int → Prop} (hl : f.Lost.length = f.Applied.length) (hn : f.Applied.length ≤ 1000) (hΦ : Φ (oldS f.Applied f.Lost f.Applied.length)) : Z89 f Φ := by
  refine LoopW.upT f.Applied.length (fun k => (oldS f.Applied f.Lost k, (k : Int))) rfl (fun k rec hk hr => ⟨fun _ => ⟨iX (by omega) (by omega), iX (by omega) (by omega), fun h => ?_, fun h => ⟨iI (by omega) (by omega), hr _ (pairE ?_ rfl)⟩⟩, fun q => absurd (show (k : Int) < (f.Applied.length : Int) by omega) q⟩) fun rec => ⟨fun q => absurd (show (f.Applied.length : Int) < (f.Applied.length : Int) from q) (by omega), fun _ => hΦ⟩
  · refine ⟨fun g => ⟨iI (by omega) (by omega), hr _ (pairE ?_ rfl)⟩, fun g => ⟨iI (by omega) (by omega), hr _ (pairE ?_ rfl)⟩⟩
    · show _ = oldS f.Applied f.Lost (k + 1)
      rw [oldS.eq_2, if_neg h, if_pos g]
    · show _ = oldS f.Applied f.Lost (k + 1)
      rw [oldS.eq_2, if_neg h, if_neg g]
  · show oldS f.Applied f.Lost k = oldS f.Applied f.Lost (k + 1)
    rw [oldS.eq_2, if_pos (Classical.not_not.1 h)]
def mxS (a : List Int) : Nat → Int
  | 0 => ix a 0
  | k + 1 => if mxS a k < ix a ((k + 1 : Nat) : Int) then ix a ((k + 1 : Nat) : Int) else mxS a k
theorem q384 {a : List Int} {Φ : Int → Prop} (h1 : 1 ≤ a.length) (hn : a.length ≤ 1000) (hΦ : Φ (mxS a (a.length - 1))) : Z82 a Φ := by
  refine ⟨fun q => absurd q (by omega), fun _ => ⟨iX (by omega) (by omega), ?_⟩⟩; refine LoopW.upT (a.length - 1) (fun k => (mxS a k, ((k + 1 : Nat) : Int))) rfl (fun k rec hk hr => ⟨fun _ => ⟨iX (by omega) (by omega), iI (by omega) (by omega), hr _ (pairE rfl rfl)⟩, fun q => absurd (show ((k + 1 : Nat) : Int) < (a.length : Int) by omega) q⟩) fun rec => ⟨fun q => absurd (show ((a.length - 1 + 1 : Nat) : Int) < (a.length : Int) from q) (by omega), fun _ => hΦ⟩
def seg (Y : Nat → q11) (b n : Nat) : List q11 := tabL n fun k => Y (b + k)
structure CycY (Y : Nat → q11) (k : Nat) : Prop where
  base : (Y k).Base = (k : Int)
  num : (Y k).Number = (k : Int) + 1
  keep : q423 (Y k)
theorem q204 (Y : Nat → q11) (b n : Nat) : (seg Y b n).length = n := q16 _ _
theorem q341 {Y : Nat → q11} {b n k : Nat} (h : k < n) : ix (seg Y b n) (k : Int) = Y (b + k) := q59 h
theorem mem_seg {Y : Nat → q11} {b n : Nat} {c : q11} (h : c ∈ seg Y b n) : ∃ k, k < n ∧ c = Y (b + k) := by
  unfold seg tabL at h; obtain ⟨k, hk, e⟩ := List.mem_map.1 h; exact ⟨k, List.mem_range.1 hk, e.symm⟩
section
variable {Y : Nat → q11} {b m : Nat} {a : Nat → Nat} {l : Nat → Bool}
theorem q424 {c : q11} {Φ : Int → Prop} (h : q423 c) (hΦ : Φ 0) : q45 c mostF Φ := by
  have h1 := h.pos; have h2 := h.len; exact q189 (by omega) (by omega) (fun w hw => by have := h.data w hw; omega) (by rw [h.chk]; exact hΦ)
theorem sub_seg {Y : Nat → q11} {b n k : Nat} (h : k ≤ n) : sub (seg Y b n) (k : Int) (n : Int) = seg Y (b + k) (n - k) := by
  refine q254 (by unfold sub; rw [List.length_take, List.length_drop, q204, q204]; omega) fun i hi => ?_; have hl : (sub (seg Y b n) (k : Int) (n : Int)).length = n - k := by unfold sub; rw [List.length_take, List.length_drop, q204]; omega
  rw [hl] at hi; rw [q341 hi, q498]; unfold sub; have e1 : ((k : Int)).toNat = k := by omega
  have e2 : ((n : Int) - (k : Int)).toNat = n - k := by omega
  rw [e1, e2, List.getD_eq_getElem?_getD, List.getElem?_take_of_lt hi, List.getElem?_drop, ← List.getD_eq_getElem?_getD, ← q498, q341 (by omega), Nat.add_assoc]
end
theorem q685 (Y : Nat → q11) (b n : Nat) : seg Y b n ++ [Y (b + n)] = seg Y b (n + 1) := (q82 n fun k => Y (b + k)).symm
theorem q312 {im : List (List Sec)} {c : q11} {Φ : List (List Sec) × Int → Prop} (hi : im.length ≤ 100000) (hp : c.Positions.length ≤ 100000) (hl : c.Writes.length ≤ 100000) (hd : ∀ w ∈ c.Writes, w.Data.length ≤ 1000000) (hΦ : Φ (appR im c)) : q97 im c Φ := by
  unfold appR at hΦ; refine q81 hi ⟨fun q => by rw [if_pos q] at hΦ; exact hΦ, fun q => ?_⟩; rw [if_neg q] at hΦ; refine LoopW.upT im.length (fun k => ((k : Int), (im.take k).map fun v => (v.length : Int))) rfl (fun k rec hk hr => ⟨fun _ => ⟨iX (by omega) (by omega), iL (by rw [q18, List.length_map, lenT (by omega)]; omega) (by omega), iI (by omega) (by omega), hr _ (by rw [q146 _ hk]; rfl)⟩, fun _ => by omega⟩) fun rec => ⟨fun _ => by omega, fun _ => ?_⟩
  rw [q50]; show q45 c (szs im) _; refine q189 hp hl hd ⟨fun t => by rw [if_pos t] at hΦ; exact hΦ, fun t => ?_⟩; rw [if_neg t] at hΦ; exact q188 (by omega) (Classical.not_not.1 q) (wrs_fit (q674 (Classical.not_not.1 t))) hΦ
end
section
def fan1 (Y : Nat → q11) (a m : Nat) : q13 := ⟨100, seg Y a (m - a), [(a : Int)], [false]⟩
section
variable {Y : Nat → q11} {a m : Nat}
theorem q124 (Y : Nat → q11) (a m : Nat) : (fan1 Y a m).Kept.length = m - a := q204 _ _ _
theorem f1_ix {k : Nat} (hk : k < m - a) : ix (fan1 Y a m).Kept (k : Int) = Y (a + k) := q341 hk
theorem q624 {L : Int} {K : List q11} {Φ : Int → Prop} (hΦ : Φ (a : Int)) : Z89 ⟨L, K, [(a : Int)], [false]⟩ Φ :=
  q623 rfl (show (1 : Nat) ≤ 1000 by omega) hΦ
theorem q625 (hY : ∀ k, a ≤ k → k < m → CycY Y k) (h : a ≤ m) (hm : m ≤ 1000) {Φ : Int → Prop} (hΦ : Φ (m : Int)) : Z83 (fan1 Y a m) Φ := by
  have e : ((fan1 Y a m).Kept.length : Int) = (m - a : Nat) := by rw [q124]
  refine ⟨fun q => ?_, fun q => ?_⟩
  · rw [e] at q ⊢
    refine ⟨iI (by omega) (by omega), iX (by omega) (by rw [q124]; omega), ?_⟩; have e2 : ((m - a : Nat) : Int) - 1 = ((m - a - 1 : Nat) : Int) := by omega
    rw [e2, f1_ix (by omega), (hY (a + (m - a - 1)) (by omega) (by omega)).num]; have e3 : ((a + (m - a - 1) : Nat) : Int) + 1 = (m : Int) := by omega
    rw [e3]; exact hΦ
  · rw [e] at q
    refine q384 (show 1 ≤ 1 by omega) (show 1 ≤ 1000 by omega) ?_; show Φ (a : Int); rw [show a = m by omega]; exact hΦ
theorem q306 (hY : ∀ k, a ≤ k → k < m → CycY Y k) (h : a ≤ m) (hm : m ≤ 1000) {n : Nat} {Φ : Bool → Prop} (hΦ : Φ (decide (a < n ∧ n ≤ m))) : Z85 (fan1 Y a m) (n : Int) Φ := by
  have e : ((fan1 Y a m).Kept.length : Int) = (m - a : Nat) := by rw [q124]
  refine LoopW.findI (m - a) (fun k => decide (a + k + 1 = n)) (fun k rec hk hn hr => ?_) fun rec hn => ?_
  · have en : (ix (fan1 Y a m).Kept (k : Int)).Number = ((a + k : Nat) : Int) + 1 := by
      rw [f1_ix hk, (hY (a + k) (by omega) (by omega)).num]
    refine ⟨fun _ => ⟨iX (by omega) (by rw [q124]; omega), fun q => ?_, fun q => ⟨iI (by omega) (by omega), hr (decide_eq_false (by rw [en] at q; omega))⟩⟩, fun q => absurd (by omega) q⟩; rw [en] at q; rw [decide_eq_true (by omega : (0 : Int) ≤ (k : Int))]; rwa [decide_eq_true (by omega : a < n ∧ n ≤ m)] at hΦ
  · refine ⟨fun q => absurd q (by omega), fun _ => ?_⟩
    rw [decide_eq_false (by omega)]; rwa [decide_eq_false (fun q => by have := hn (n - a - 1) (by omega); simp at this; omega)] at hΦ
theorem q454 (hY : ∀ k, a ≤ k → k < m → CycY Y k) (h : a ≤ m) (hm : m ≤ 1000) {n : Nat} {Φ : Bool → Prop} (h1 : a ≤ n) (h2 : n ≤ m) (hΦ : Φ true) : Z86 (fan1 Y a m) (n : Int) Φ := by
  have e : ((fan1 Y a m).Kept.length : Int) = (m - a : Nat) := by rw [q124]
  refine q625 hY h hm ⟨fun _ => hΦ, fun q => q306 hY h hm ⟨fun _ => hΦ, fun g => ⟨fun r => ⟨iX (by omega) (by rw [q124]; omega), ?_⟩, fun r => ?_⟩⟩⟩
  · have g : ¬ (a < n ∧ n ≤ m) := by simpa using g
    rw [decide_eq_true]
    · exact hΦ
    · show (ix (fan1 Y a m).Kept ((0 : Nat) : Int)).Base = (n : Int)
      rw [f1_ix (by omega), (hY (a + 0) (by omega) (by omega)).base]; omega
  · have g : ¬ (a < n ∧ n ≤ m) := by simpa using g
    rw [e] at r; omega
theorem q626 (hY : ∀ k, a ≤ k → k < m → CycY Y k) (hm : m ≤ 1000) {Φ : q13 → Prop} (hΦ : Φ (fan1 Y a m)) : Z100 (fan1 Y a m) Φ :=
  q622 (fun c hc => by
    obtain ⟨k, hk, rfl⟩ := mem_seg hc
    exact (hY (a + k) (by omega) (by omega)).keep) (by rw [q124]; omega) (show 1 ≤ 1000 by omega) (show 1 ≤ 1000 by omega) hΦ
theorem q515 (hY : ∀ k, a ≤ k → k < m → CycY Y k) (h : a ≤ m) (hlen : m ≤ a + 100) (hm : m ≤ 1000) {Φ : Int → Prop} (hΦ : Φ 0) : Z95 (fan1 Y a m) Φ := by
  have ek := q124 Y a m; have ix0 : ix (fan1 Y a m).Applied ((0 : Nat) : Int) = (a : Int) := rfl; have ix1 : ix (fan1 Y a m).Lost ((0 : Nat) : Int) = false := rfl; refine ⟨fun q => absurd (show (1 : Int) < 1 from q) (by omega), fun _ => ⟨fun q => absurd (show (4 : Int) < 1 from q) (by omega), fun _ => ?_⟩⟩; rw [decide_eq_false (show ¬ (((fan1 Y a m).Lost.length : Int) ≠ ((fan1 Y a m).Applied.length : Int)) from fun q => q rfl)]; refine ⟨fun q => absurd q (by simp), fun _ => ⟨fun q => absurd (show (100 : Int) < 1 from q) (by omega), fun _ => ⟨fun q => absurd (show (1024 : Int) < 100 from q) (by omega), fun _ => ?_⟩⟩⟩; refine LoopW.upT 1 (fun k => (k : Int)) rfl (fun k rec hk hr => ⟨fun _ => ⟨iX (by omega) (show (k : Int) < ((1 : Nat) : Int) by omega), ?_⟩, fun q => absurd (show (k : Int) < 1 by omega) q⟩) fun rec => ⟨fun q => absurd (show (1 : Int) < 1 from q) (by omega), fun _ => ?_⟩
  · obtain rfl : k = 0 := by omega
    rw [ix0]; refine ⟨fun _ => ?_, fun q => absurd (show (0 : Int) ≤ (a : Int) by omega) q⟩; rw [decide_eq_true (show (a : Int) ≤ 1073741824 by omega)]; exact ⟨fun q => absurd rfl q, fun _ => ⟨iI (by omega) (by omega), hr _ rfl⟩⟩
  refine ⟨fun q => absurd q (by simp), fun _ => ⟨fun q => absurd (show (100 : Int) < ((fan1 Y a m).Kept.length : Int) from q) (by rw [ek]; omega), fun _ => q191 ?_⟩⟩; refine LoopW.upT (m - a) (fun k => (k : Int)) rfl (fun k rec hk hr => ⟨fun _ => ⟨iX (by omega) (by rw [ek]; omega), ?_⟩, fun q => absurd (show (k : Int) < ((fan1 Y a m).Kept.length : Int) by rw [ek]; omega) q⟩) fun rec => ⟨fun q => absurd (show ((m - a : Nat) : Int) < ((fan1 Y a m).Kept.length : Int) from q) (by rw [ek]; omega), fun _ => ?_⟩
  · have yk := hY (a + k) (by omega) (by omega)
    rw [f1_ix hk]; refine q424 yk.keep ⟨fun q => absurd rfl q, fun _ => ⟨fun q => ⟨iI (by omega) (by omega), iX (by omega) (by rw [ek]; omega), fun r => ?_, fun _ => ⟨iI (by omega) (by omega), hr _ rfl⟩⟩, fun _ => ⟨iI (by omega) (by omega), hr _ rfl⟩⟩⟩; have e : (k : Int) - 1 = ((k - 1 : Nat) : Int) := by omega
    rw [e, f1_ix (by omega), yk.base, (hY (a + (k - 1)) (by omega) (by omega)).num] at r; omega
  refine LoopW.upT 1 (fun k => (k : Int)) rfl (fun k rec hk hr => ⟨fun _ => ⟨iX (by omega) (show (k : Int) < ((1 : Nat) : Int) by omega), q625 hY h hm ?_⟩, fun q => absurd (show (k : Int) < 1 by omega) q⟩) fun rec => ⟨fun q => absurd (show (1 : Int) < 1 from q) (by omega), fun _ => ?_⟩
  · obtain rfl : k = 0 := by omega
    rw [ix0]; refine ⟨fun q => absurd q (by omega), fun _ => ⟨iX (by omega) (show (0 : Int) < ((1 : Nat) : Int) by omega), fun q => ?_, fun _ => ⟨iI (by omega) (by omega), hr _ rfl⟩⟩⟩; exact q454 hY h hm (Nat.le_refl _) h ⟨fun r => absurd rfl r, fun _ => ⟨iI (by omega) (by omega), hr _ rfl⟩⟩
  · refine ⟨fun q => ⟨((a : Int), ()), q624 rfl, iX (by omega) q, fun r => ?_, fun _ => hΦ⟩, fun _ => hΦ⟩
    rw [ek] at q; have e : ix (fan1 Y a m).Kept 0 = Y a := f1_ix (k := 0) (by omega); rw [e, (hY (a) (by omega) (by omega)).base] at r; exact absurd rfl r
theorem q723 (hY : ∀ k, a ≤ k → k < m → CycY Y k) (h : a ≤ m) (hlen : m ≤ a + 100) (hm : m ≤ 1000) {Φ : Int → Prop} (hΦ : Φ 0) : Z109 (fan1 Y a m) 0 Φ :=
  q515 hY h hlen hm ⟨fun q => absurd rfl q, fun _ => ⟨fun q => absurd q (by omega), fun _ => ⟨fun q => absurd (show (1 : Int) ≤ 0 from q) (by omega), fun _ => hΦ⟩⟩⟩
theorem f1_next (hY : ∀ k, a ≤ k → k < m → CycY Y k) (h : a < m) (hlen : m ≤ a + 100) (hm : m ≤ 1000) {Φ : q11 × Bool → Prop} (hΦ : Φ (Y a, true)) : q144 (fan1 Y a m) 0 Φ := by
  have ek := q124 Y a m; refine q723 hY (by omega) hlen hm ⟨fun q => absurd rfl q, fun _ => ⟨iX (by omega) (show (0 : Int) < ((1 : Nat) : Int) by omega), fun q => (by cases q), fun _ => ?_⟩⟩; refine LoopW.upT 0 (fun k => (k : Int)) rfl (fun k _ hk => absurd hk (Nat.not_lt_zero k)) fun rec => ⟨fun _ => ⟨iX (by omega) (by rw [ek]; omega), iX (by omega) (show (0 : Int) < ((1 : Nat) : Int) by omega), fun r => ?_, fun r => ?_⟩, fun r => absurd (show (0 : Int) < ((fan1 Y a m).Kept.length : Int) by rw [ek]; omega) r⟩
  · have e : ix (fan1 Y a m).Kept ((0 : Nat) : Int) = Y a := f1_ix (k := 0) (by omega)
    rw [e]; exact q123 (hY a (by omega) (by omega)).keep hΦ
  · have e : ix (fan1 Y a m).Kept ((0 : Nat) : Int) = Y a := f1_ix (k := 0) (by omega)
    rw [e, (hY (a) (by omega) (by omega)).num] at r; exact absurd (show (a : Int) < (a : Int) + 1 by omega) r
theorem f1_tidy (hY : ∀ k, a ≤ k → k < m → CycY Y k) {n : Nat} (h1 : a ≤ n) (h2 : n ≤ m) (hm : m ≤ 1000) {Φ : q13 → Prop} (hΦ : Φ (fan1 Y n m)) : q98 ⟨100, seg Y a (m - a), [(n : Int)], [false]⟩ Φ := by
  have el : (seg Y a (m - a)).length = m - a := q204 _ _ _
  have fo : Z113 ⟨100, seg Y a (m - a), [(n : Int)], [false]⟩ Φ ((n - a : Nat) : Int) := by
    refine ⟨iS (by omega) (by show ((n - a : Nat) : Int) ≤ ((seg Y a (m - a)).length : Int); rw [el]; omega) (Int.le_refl _), ?_⟩; show Φ ⟨100, sub (seg Y a (m - a)) ((n - a : Nat) : Int) ((seg Y a (m - a)).length : Int), _, _⟩; rw [el, sub_seg (by omega), show a + (n - a) = n by omega, show m - a - (n - a) = m - n by omega]; exact hΦ
  refine q624 ?_; refine LoopW.upI (m - a) (fun k => (k : Int)) (fun k => a + k ≤ n) rfl (by omega) (fun k rec hk hI hr => ⟨fun _ => ⟨iX (by omega) (by rw [el]; omega), fun _ => ?_, fun q => absurd (show (0 : Int) ≤ (n : Int) by omega) q⟩, fun q => absurd (show (k : Int) < ((seg Y a (m - a)).length : Int) by rw [el]; omega) q⟩) fun rec hI => ⟨fun q => absurd (show ((m - a : Nat) : Int) < ((seg Y a (m - a)).length : Int) from q) (by rw [el]; omega), fun _ => ⟨fun _ => ?_, fun q => absurd (show (-1 : Int) < 0 by omega) q⟩⟩
  · have e : (ix (seg Y a (m - a)) (k : Int)).Number = ((a + k : Nat) : Int) + 1 := by rw [q341 hk]; exact (hY (a + k) (by omega) (by omega)).num
    show Z115 _ (k : Int) rec Φ (decide ((n : Int) < (ix (seg Y a (m - a)) (k : Int)).Number)); rw [e]; by_cases c : n = a + k
    · rw [decide_eq_true (by omega)]
      refine ⟨fun _ => ⟨fun q => absurd q (by omega), fun _ => ?_⟩, fun q => absurd rfl q⟩; rw [show ((k : Nat) : Int) = ((n - a : Nat) : Int) by omega]; exact fo
    · rw [decide_eq_false (by omega)]
      exact ⟨fun q => absurd q (by simp), fun _ => ⟨iI (by omega) (by omega), hr (by omega) _ rfl⟩⟩
  · show Z113 _ Φ ((seg Y a (m - a)).length : Int)
    rw [el, show ((m - a : Nat) : Int) = ((n - a : Nat) : Int) by omega]; exact fo
theorem q526 (hY : ∀ k, a ≤ k → k < m → CycY Y k) {n : Nat} (h : a ≤ m) (hlen : m ≤ a + 100) (hm : m ≤ 1000) (h1 : a ≤ n) (h2 : n ≤ m) {Φ : q13 × Int → Prop} (hΦ : Φ (fan1 Y n m, 0)) : Z118 (fan1 Y a m) 0 (n : Int) Φ := by
  have ix0 : ix (fan1 Y a m).Applied 0 = (a : Int) := rfl; refine q723 hY h hlen hm ⟨fun q => absurd rfl q, fun _ => ⟨iX (by omega) (show (0 : Int) < ((1 : Nat) : Int) by omega), fun q => (by cases q), fun _ => ⟨iX (by omega) (show (0 : Int) < ((1 : Nat) : Int) by omega), fun q => ?_, fun _ => ?_⟩⟩⟩
  · rw [ix0] at q; omega
  · have fin : Z117 (fan1 Y a m) 0 (n : Int) Φ false := by
      refine ⟨fun q => absurd q (by simp), fun _ => q626 hY hm ⟨iX (by omega) (show (0 : Int) < ((1 : Nat) : Int) by omega), ?_⟩⟩; show q98 ⟨100, seg Y a (m - a), [(n : Int)], [false]⟩ _; exact f1_tidy hY h1 h2 hm hΦ
    refine ⟨iX (by omega) (show (0 : Int) < ((1 : Nat) : Int) by omega), fun q => ?_, fun _ => fin⟩; rw [ix0] at q; refine q306 hY h hm ?_; rw [decide_eq_true (by omega : a < n ∧ n ≤ m), decide_eq_false (by simp)]; exact fin
theorem f1_push (hY : ∀ k, a ≤ k → k < m → CycY Y k) (hy : CycY Y m) (h : a ≤ m) (hlen : m + 1 ≤ a + 100) (hm : m + 1 ≤ 1000) {Φ : q13 × List Int × Int → Prop} (hΦ : Φ (fan1 Y a (m + 1), [], 0)) : q143 (fan1 Y a m) (Y m) Φ := by
  refine q515 hY h (by omega) (by omega) ⟨fun q => absurd rfl q, fun _ => q624 ⟨fun q => absurd q (by omega), fun q => ?_⟩⟩; refine ⟨(mostF, ()), q191 rfl, (0, ()), q424 hy.keep rfl, fun r => absurd rfl r, fun _ => ⟨((m : Int), ()), q625 hY h (by omega) rfl, fun r => absurd hy.base r, fun _ => q626 hY (by omega) ⟨(Y m, ()), q123 hy.keep rfl, iL (by rw [q18, q124]; omega) (by omega), ?_⟩⟩⟩
  have es : seg Y a (m - a) ++ [Y m] = seg Y a (m + 1 - a) := by
    have := q685 Y a (m - a); rwa [show a + (m - a) = m by omega, show m - a + 1 = m + 1 - a by omega] at this
  show LoopW (Z108 Φ) (100, seg Y a (m - a) ++ [Y m], [(a : Int)], [], [false]); rw [es]; exact LoopW.upT 0 (fun _ => (100, seg Y a (m + 1 - a), [(a : Int)], [], [false])) rfl (fun k _ hk => absurd hk (Nat.not_lt_zero k)) fun rec => ⟨fun r => absurd (show (100 : Int) < ((seg Y a (m + 1 - a)).length : Int) from r) (by rw [q204]; omega), fun _ => ⟨show (0 : Nat) ≤ 1099511627776 by omega, by rw [show sortI ([] : List Int) = [] from rfl]; exact hΦ⟩⟩
end
end
def capP (sz : List Int) (n : Nat) (p : Int) (l : List q8) : q10 := ⟨(n : Int), sz, [p], List.replicate l.length 0, l⟩
structure OpnQ (sz : List Int) (l : List q8) : Prop where
  len : l.length ≤ 250
  fit : ∀ w ∈ l, fitW sz w = 0
  data : ∀ w ∈ l, w.Data.length ≤ 24
theorem q627 {n k : Nat} (h : k < n) : ix (List.replicate n (0 : Int)) (k : Int) = 0 := by
  rw [q66 (by rw [List.length_replicate]; exact h), List.getElem_replicate]
theorem q628 (n : Nat) : ∀ k : Nat, k ≤ n → cnt (List.replicate n (0 : Int)) 0 k = k
  | 0, _ => rfl
  | k + 1, h => by rw [q379, q628 n k (by omega), q627 (by omega), if_pos rfl]
theorem q385 {least p : Int} (h0 : least ≤ 1) (h1 : 0 ≤ p) (h2 : p ≤ 1073741824) : posR least [p] = 0 := by
  unfold posR; rw [if_neg (by show ¬ ((1 : Int) < least ∨ (8 : Int) < 1); omega)]; refine q35.2 fun k hk => ?_; have hk : k < 1 := hk; obtain rfl : k = 0 := by omega
  show (if p < 0 ∨ 1073741824 < p then 2 else 0) = (0 : Int)
  rw [if_neg (by omega)]
theorem q629 {sz : List Int} (hz : q20 sz = 0) {n : Nat} {p : Int} {l : List q8} (h : OpnQ sz l) (hn : n ≤ 1000) (hp : 0 ≤ p ∧ p ≤ 100000) : cptE (capP sz n p l) = 0 := by
  have hl := h.len; unfold cptE; have e1 : (capP sz n p l).Sizes = sz := rfl; have e2 : (capP sz n p l).Number = (n : Int) := rfl; have e3 : (capP sz n p l).Positions = [p] := rfl; have e4 : (capP sz n p l).Nodes = List.replicate l.length 0 := rfl; have e5 : (capP sz n p l).Writes = l := rfl; rw [e1, e2, e3, e4, e5, if_neg (fun t => t hz), if_neg (by omega), if_neg (fun t => t (q385 (by omega) hp.1 (by omega))), if_neg (by rw [List.length_replicate]; omega)]; refine q35.2 fun k hk => ?_; unfold nodW; rw [e1, e3, e4, e5, q627 hk, if_neg (by show ¬ ((0 : Int) < 0 ∨ (1 : Int) ≤ 0); omega)]; exact h.fit _ (q88 (iX (by omega) (by omega)))
theorem q527 {sz : List Int} (hz : q20 sz = 0) {n : Nat} {p : Int} {l : List q8} (h : OpnQ sz l) : q716 (capP sz n p l) := by
  have hl := h.len; have h8 := (q37 hz).2; exact ⟨by show sz.length ≤ 20; omega, by show 1 ≤ 20; omega, by show (List.replicate l.length (0 : Int)).length ≤ 300; rw [List.length_replicate]; omega, by show l.length ≤ 300; omega, h.data⟩
theorem add_one {sz : List Int} (hz : q20 sz = 0) {n : Nat} {p : Int} {l : List q8} {w : q8} (h : OpnQ sz l) (hn : n ≤ 1000) (hp : 0 ≤ p ∧ p ≤ 100000) (hw : fitW sz w = 0) : addR (capP sz n p l) 0 w = (capP sz n p (l ++ [w]), 0) := by
  have hl := h.len
  have e : addE (capP sz n p l) 0 w = 0 := by
    unfold addE; rw [if_neg (fun t => t (q629 hz h hn hp)), if_neg (by show ¬ ((0 : Int) < 0 ∨ (1 : Int) ≤ 0); omega), if_neg (fun t => t hw), if_neg (by show ¬ 4096 ≤ l.length; omega)]
  unfold addR; rw [if_neg (fun t => t e)]; unfold capP; rw [q18, List.replicate_succ']
def cycY (n i : Nat) (q : Int) (l : List q8) : q11 := ⟨(n : Int), (n : Int) + 1, (i : Int), [q], canL (effM l)⟩
theorem q630 {sz : List Int} (hz : q20 sz = 0) {n i : Nat} {p q : Int} {l : List q8} (h : OpnQ sz l) (hn : n ≤ 1000) (hi : i ≤ 100000) (hp : 0 ≤ p ∧ p ≤ 100000) (hq : q = p + (l.length : Int)) : cloR (capP sz n p l) (i : Int) [q] = (capP sz (n + 1) q [], cycY n i q l, 0) := by
  have hl := h.len; have c0 : ∀ k, k ≤ l.length → cnt (List.replicate l.length (0 : Int)) 0 k = k := fun k hk => q628 _ _ hk
  have hb : badB (capP sz n p l) [q] = false := q336 fun k hk hbad => by
    have hk : k < 1 := hk; obtain rfl : k = 0 := by omega
    unfold badI at hbad; have e1 : ix [q] ((0 : Nat) : Int) = q := rfl; have e2 : ix (capP sz n p l).Positions ((0 : Nat) : Int) = p := rfl
    have e3 : cnt (capP sz n p l).Nodes ((0 : Nat) : Int) (capP sz n p l).Nodes.length = l.length := by
      show cnt (List.replicate l.length (0 : Int)) 0 (List.replicate l.length (0 : Int)).length = _; rw [List.length_replicate]; exact c0 _ (Nat.le_refl _)
    rw [e1, e2, e3] at hbad; omega
  have hE : cloE (capP sz n p l) (i : Int) [q] = 0 := by
    unfold cloE; rw [if_neg (fun t => t (q629 hz h hn hp)), if_neg (by omega), if_neg (by show ¬ (1 ≠ 1); omega), if_neg (by rw [hb]; simp)]
  have hin : ∀ k, k < l.length → inB (capP sz n p l) [q] k = true := fun k hk => by
    unfold inB partF; have e1 : ix (capP sz n p l).Nodes (k : Int) = 0 := q627 hk; rw [e1]; have e2 : dT (capP sz n p l) [q] (0 : Int).toNat = q - p := rfl; have e3 : cnt (capP sz n p l).Nodes 0 k = k := c0 k (by omega); rw [e2, e3]; refine decide_eq_true ?_; unfold pos0; rw [if_neg (by omega)]; omega
  have f1 : (List.range l.length).filter (inB (capP sz n p l) [q]) = List.range l.length := List.filter_eq_self.2 fun k hk => hin k (List.mem_range.1 hk); have f2 : ((List.range l.length).filter fun j => !inB (capP sz n p l) [q] j) = [] := List.filter_eq_nil_iff.2 fun k hk => by rw [hin k (List.mem_range.1 hk)]; simp
  have s1 : selW (capP sz n p l) (inB (capP sz n p l) [q]) (capP sz n p l).Writes.length = l := by
    show ((List.range l.length).filter _).map (fun j : Nat => ix l (j : Int)) = l; rw [f1]; exact q509 l
  have s2 : outN (capP sz n p l) (inB (capP sz n p l) [q]) (capP sz n p l).Writes.length = [] := by
    show ((List.range l.length).filter _).map _ = _; rw [f2]; rfl
  have s3 : outW (capP sz n p l) (inB (capP sz n p l) [q]) (capP sz n p l).Writes.length = [] := by
    show ((List.range l.length).filter _).map _ = _; rw [f2]; rfl
  unfold cloR; rw [if_neg (fun t => t hE), s1, s2, s3]; rfl
theorem q307 {sz : List Int} {l : List q8} (h : OpnQ sz l) : secN l ≤ 6000 := by
  have := q179 l h.data; have := h.len; have := Nat.mul_le_mul_right 24 h.len; omega
structure CycOk (sz : List Int) (k : Nat) (c : q11) : Prop where
  base : c.Base = (k : Int)
  num : c.Number = (k : Int) + 1
  chk : cycE c sz = 0
  pos : c.Positions.length ≤ 20
  len : c.Writes.length ≤ 6000
  data : ∀ w ∈ c.Writes, w.Data.length ≤ 6000
theorem q386 {sz : List Int} (hz : q20 sz = 0) {n i : Nat} {q : Int} {l : List q8} (h : OpnQ sz l) (hn : n ≤ 1000) (hi : i ≤ 100000) (hq : 0 ≤ q ∧ q ≤ 200000) : CycOk sz n (cycY n i q l) := by
  have C := q244 (fun t => t hz) h.fit; have hfit := q450 C (q508 (fun t => t hz) h.fit); have hs := q307 h; have he := q270 l; have hsum := C.sum; refine ⟨rfl, rfl, ?_, by show 1 ≤ 20; omega, ?_, fun w hw => ?_⟩
  · unfold cycE cycY
    simp only; rw [if_neg (fun t => t hz), if_neg (by omega), if_neg (by omega), if_neg (fun t => t (q385 (by omega) hq.1 (by omega)))]; exact q602 C hfit
  · have := can_len C
    show (canL (effM l)).length ≤ 6000; omega
  · have := q604 w hw
    have e : secN (cycY n i q l).Writes = secN (canL (effM l)) := rfl; omega
theorem q631 : q20 mostF = 0 := by decide
theorem q686 {sz : List Int} (hz : q20 sz = 0) {w : q8} (h : fitW sz w = 0) : fitW mostF w = 0 := by
  obtain ⟨h1, h2, h3, h4, h5, h6⟩ := q301 (fun t => t hz) h; have h8 := (q37 hz).2
  have h7 : ix mostF w.Volume = 4096 := by
    rcases (show w.Volume = 0 ∨ w.Volume = 1 ∨ w.Volume = 2 ∨ w.Volume = 3 ∨ w.Volume = 4 ∨ w.Volume = 5 ∨ w.Volume = 6 ∨ w.Volume = 7 by omega) with e | e | e | e | e | e | e | e <;> rw [e] <;> rfl
  unfold fitW; rw [h7, if_neg (by show ¬ (w.Volume < 0 ∨ (8 : Int) ≤ w.Volume); omega), if_neg (by omega), if_neg (by omega)]
theorem keepY {sz : List Int} (hz : q20 sz = 0) {n i : Nat} {q : Int} {l : List q8} (h : OpnQ sz l) (hn : n ≤ 1000) (hi : i ≤ 100000) (hq : 0 ≤ q ∧ q ≤ 200000) : q423 (cycY n i q l) := by
  have c := q386 hz h hn hi hq; have hf : ∀ w ∈ l, fitW mostF w = 0 := fun w hw => q686 hz (h.fit w hw); have C := q244 (fun t => t hz) h.fit; have hfit := q450 C (q508 (fun t => t q631) hf); refine ⟨by have := c.pos; omega, by have := c.len; omega, fun w hw => by have := c.data w hw; omega, ?_⟩; unfold cycE cycY; simp only; rw [if_neg (fun t => t q631), if_neg (by omega), if_neg (by omega), if_neg (fun t => t (q385 (by omega) hq.1 (by omega)))]; exact q602 C hfit
theorem q632 {sz : List Int} (hz : q20 sz = 0) {im : List (List Sec)} (h : szs im = sz) : imgE im = 0 := by unfold imgE; rw [h]; exact hz
theorem applyY {sz : List Int} (hz : q20 sz = 0) {im : List (List Sec)} {n i : Nat} {q : Int} {l : List q8} (hs : szs im = sz) (h : OpnQ sz l) (hn : n ≤ 1000) (hi : i ≤ 100000) (hq : 0 ≤ q ∧ q ≤ 200000) : appR im (cycY n i q l) = (appL im l, 0) := by
  have c := (q386 hz h hn hi hq).chk; unfold appR; rw [if_neg (fun t => t (q632 hz hs)), hs, if_neg (fun t => t c)]; show (appL im (canL (effM l)), (0 : Int)) = _; rw [q673 (by rw [hs]; exact fun t => t hz) fun w hw => by rw [hs]; exact h.fit w hw]
theorem q633 {sz : List Int} (hz : q20 sz = 0) {im : List (List Sec)} {l : List q8} (hs : szs im = sz) (h : OpnQ sz l) : szs (appL im l) = sz :=
  (q148 (by rw [hs]; exact fun t => t hz) fun w hw => by rw [hs]; exact h.fit w hw).trans hs
section
theorem q528 {l : List Sec} {Φ : Bool → Prop} (hl : l.length ≤ 1000000) (hΦ : Φ true) : Z120 l l Φ :=
  ⟨fun h => absurd rfl h, fun _ => LoopW.upT l.length (fun k => (k : Int)) rfl (fun k rec hk hr => ⟨fun hlt => ⟨iX (by omega) hlt, iX (by omega) hlt, fun q => absurd rfl q, fun _ => ⟨iI (by omega) (by omega), hr _ rfl⟩⟩, fun r => absurd (show (k : Int) < (l.length : Int) by omega) r⟩) fun rec => ⟨fun r => absurd r (by omega), fun _ => hΦ⟩⟩
theorem q634 {im : List (List Sec)} {Φ : Bool → Prop} (hi : imgE im = 0) (hΦ : Φ true) : q118 im im Φ := by
  have sm := q596 (im := im) (by rw [show q20 (szs im) = 0 from hi]; simp); exact ⟨fun h => absurd rfl h, fun _ => LoopW.upT im.length (fun k => (k : Int)) rfl (fun k rec hk hr => ⟨fun hlt => ⟨iX (by omega) hlt, iX (by omega) hlt, q528 (by have := (sm.2.2 k hk).2; omega) ⟨fun t => absurd rfl t, fun _ => ⟨iI (by omega) (by omega), hr _ rfl⟩⟩⟩, fun r => absurd (show (k : Int) < (im.length : Int) by omega) r⟩) fun rec => ⟨fun r => absurd r (by omega), fun _ => hΦ⟩⟩
def catL (L : List (List q8)) (a : Nat) : Nat → List q8
  | 0 => []
  | j + 1 => catL L a j ++ ix L ((a + j : Nat) : Int)
theorem q387 (L : List (List q8)) (a i : Nat) : ∀ j, catL L a (i + j) = catL L a i ++ catL L (a + i) j
  | 0 => by show catL L a i = catL L a i ++ []; rw [List.append_nil]
  | j + 1 => by
    show catL L a (i + j) ++ ix L ((a + (i + j) : Nat) : Int) = catL L a i ++ (catL L (a + i) j ++ ix L ((a + i + j : Nat) : Int))
    rw [q387 L a i j, List.append_assoc, Nat.add_assoc a i j]
theorem q635 (L : List (List q8)) (a : Nat) {i j : Nat} (h : i ≤ j) : (catL L a i).length ≤ (catL L a j).length := by
  have := q387 L a i (j - i); rw [show i + (j - i) = j by omega] at this; rw [this, List.length_append]; omega
theorem q272 {L : List (List q8)} {a : Nat} {w : q8} : ∀ {j : Nat}, w ∈ catL L a j → ∃ i, a ≤ i ∧ i < a + j ∧ w ∈ ix L (i : Int)
  | 0, h => by cases h
  | j + 1, h => by
    rcases List.mem_append.1 h with h | h
    · obtain ⟨i, h1, h2, h3⟩ := q272 h
      exact ⟨i, h1, by omega, h3⟩
    · exact ⟨a + j, by omega, by omega, h⟩
def wN (L : List (List q8)) (j : Nat) : Nat := (catL L 0 j).length
theorem q724 (L : List (List q8)) (i j : Nat) : wN L (i + j) = wN L i + (catL L i j).length := by
  unfold wN; rw [q387, List.length_append, Nat.zero_add]
def bm (n P c : Nat) : Nat := if c * P < n then c * P else n
def cwL (L : List (List q8)) (n P k : Nat) : List q8 := catL L (k * P) (lenK n P k)
def sgL (L : List (List q8)) (n P k : Nat) : Nat := secN (canL (effM (cwL L n P k)))
def imQ (L : List (List q8)) (sz : List Int) (n P : Nat) : Nat → List (List Sec)
  | 0 => zeroI sz
  | k + 1 => appL (imQ L sz n P k) (cwL L n P k)
def cyL (L : List (List q8)) (n P k : Nat) : q11 := cycY k ((k + 1) * P) (wN L (bm n P (k + 1)) : Int) (cwL L n P k)
structure SimOk (L : List (List q8)) (sz C : List Int) (P la ap n m : Nat) (E : Nat → Nat) : Prop where
  n_eq : L.length = n
  m_eq : m = cycN n P
  n24 : n ≤ 24
  P0 : 0 < P
  P6 : P ≤ 6
  l4 : la ≤ 4
  a3 : ap ≤ 3
  lnk : LnkOk C
  hz : q20 sz = 0
  fit : ∀ i : Nat, i < n → ∀ w ∈ ix L (i : Int), fitW sz w = 0 ∧ w.Data.length ≤ 24
  few : ∀ k, k < m → (cwL L n P k).length ≤ 250
  all : wN L n ≤ 100000
  fin : FinE C (sgL L n P) P m E
  Eb : ∀ k, k < m → E k ≤ 1000
section
variable {L : List (List q8)} {sz C : List Int} {P la ap n m : Nat} {E : Nat → Nat}
theorem SimOk.kP (h : SimOk L sz C P la ap n m E) {k : Nat} (hk : k < m) : k * P < n ∧ (k + 1) * P ≤ 29 ∧ (k + 1) * P = k * P + P := by
  have h1 := (q122 h.P0).1 (by rw [← h.m_eq]; exact hk); have e : (k + 1) * P = k * P + P := Nat.succ_mul k P; have := h.n24; have := h.P6; exact ⟨h1, by omega, e⟩
theorem SimOk.m24 (h : SimOk L sz C P la ap n m E) : m ≤ 24 := by
  rcases Nat.lt_or_ge 24 m with c | c
  · have := (h.kP c).1
    have : 24 * 1 ≤ 24 * P := Nat.mul_le_mul_left 24 h.P0; have := h.n24; omega
  · exact c
theorem SimOk.bmk (h : SimOk L sz C P la ap n m E) {k : Nat} (hk : k < m) : bm n P k = k * P ∧ bm n P (k + 1) = k * P + lenK n P k := by
  have h1 := h.kP hk; refine ⟨by unfold bm; rw [if_pos h1.1], ?_⟩; unfold bm lenK
  split <;> split <;> omega
theorem bm_le {c : Nat} : bm n P c ≤ n := by
  unfold bm
  split <;> omega
theorem SimOk.wN_le (h : SimOk L sz C P la ap n m E) {j : Nat} (hj : j ≤ n) : wN L j ≤ 100000 := by
  have h1 := q635 L 0 hj; have h2 := h.all; unfold wN at *; omega
theorem SimOk.opn (h : SimOk L sz C P la ap n m E) {k j : Nat} (hk : k < m) (hj : j ≤ lenK n P k) : OpnQ sz (catL L (k * P) j) := by
  have h1 := h.kP hk; have h2 : lenK n P k ≤ n - k * P := by unfold lenK; split <;> omega
  have h3 := h.few k hk; have h4 := q635 L (k * P) hj; refine ⟨by unfold cwL at h3; omega, fun w hw => ?_, fun w hw => ?_⟩
  · obtain ⟨i, h5, h6, h7⟩ := q272 hw
    exact (h.fit i (by omega) w h7).1
  · obtain ⟨i, h5, h6, h7⟩ := q272 hw
    exact (h.fit i (by omega) w h7).2
theorem SimOk.img (h : SimOk L sz C P la ap n m E) : ∀ k, k ≤ m → szs (imQ L sz n P k) = sz
  | 0, _ => q169 h.hz
  | k + 1, hk => q633 h.hz (h.img k (by omega)) (h.opn (k := k) (by omega) (Nat.le_refl _))
theorem SimOk.cyc (h : SimOk L sz C P la ap n m E) {k : Nat} (hk : k < m) : CycY (cyL L n P) k := by
  have h1 := h.kP hk; have h2 := h.m24; have h3 := h.wN_le (bm_le (n := n) (P := P) (c := k + 1)); exact ⟨rfl, rfl, keepY h.hz (h.opn hk (Nat.le_refl _)) (by omega) (by omega) ⟨by omega, by omega⟩⟩
theorem SimOk.app (h : SimOk L sz C P la ap n m E) {k : Nat} (hk : k < m) {Φ : List (List Sec) × Int → Prop} (hΦ : Φ (imQ L sz n P (k + 1), 0)) : q97 (imQ L sz n P k) (cyL L n P k) Φ := by
  have h1 := h.kP hk; have h2 := h.m24; have h3 := h.wN_le (bm_le (n := n) (P := P) (c := k + 1)); have hs := h.img k (by omega); have ho := h.opn hk (Nat.le_refl (lenK n P k)); have hc : CycOk sz k (cyL L n P k) := q386 h.hz (n := k) (i := (k + 1) * P) (q := (wN L (bm n P (k + 1)) : Int)) ho (by omega) (by omega) ⟨by omega, by omega⟩
  have hl : (imQ L sz n P k).length ≤ 8 := by
    have := (q37 h.hz).2; rw [← hs, q39] at this; exact this
  refine q312 (by omega) (by have := hc.pos; omega) (by have := hc.len; omega) (fun w hw => by have := hc.data w hw; omega) ?_; have e : appR (imQ L sz n P k) (cyL L n P k) = (imQ L sz n P (k + 1), 0) := applyY h.hz hs ho (by omega) (by omega) ⟨by omega, by omega⟩; rw [e]; exact hΦ
theorem SimOk.same (h : SimOk L sz C P la ap n m E) {k : Nat} (hk : k ≤ m) {Φ : Bool → Prop} (hΦ : Φ true) : q118 (imQ L sz n P k) (imQ L sz n P k) Φ :=
  q634 (q632 h.hz (h.img k hk)) hΦ
end
end
section
section
variable {L : List (List q8)} {sz C : List Int} {P la ap n m : Nat} {E e : Nat → Nat} {w : Nat → Nat} {t : q14}
structure AgeC (P la ap m : Nat) (E e : Nat → Nat) (T a' b : Nat) : Prop where
  bm : b ≤ m
  lo : ∀ i, i < b → e i + la + ap ≤ T
  hi : ∀ i, b ≤ i → i < m → T < e i + la + ap
  old : (T : Int) - ((a' * P : Nat) : Int) ≤ (T : Int) - ((b * P : Nat) : Int)
  bnd : (T : Int) - ((b * P : Nat) : Int) ≤ bndE P (fun k => e k + la + ap) m
theorem age_cov {Z : Nat → Nat} (he : FinE C Z P m e) (hle : ∀ k, k < m → E k ≤ e k) {T a a' : Nat} (ham : a < m) (ha : ∀ k, k < m → (E k + la + ap < T ↔ k < a)) (ha' : ∀ k, k < m → (E k + la + ap < T + 1 ↔ k < a')) : ∃ b, AgeC P la ap m E e T a' b := by
  obtain ⟨b, h1, h2, h3⟩ := q340 (fun k => e k + la + ap) T m fun i j hij hj => by have := he.le hij hj; show e i + la + ap ≤ e j + la + ap; omega
  have hb : b ≤ a' := by
    rcases Nat.lt_or_ge a' b with c | c
    · have q1 := h2 a' c
      have q1 : e a' + la + ap ≤ T := q1; have q2 := hle a' (by omega); have := (ha' a' (by omega)).1 (by omega); omega
    · exact c
  have hm := Nat.mul_le_mul_right P hb; refine ⟨b, h1, h2, h3, by omega, ?_⟩; rcases Nat.lt_or_ge b m with c | c
  · have q := h3 b (Nat.le_refl _) c
    have q : T < e b + la + ap := q
    have := q683 (P := P) (A := fun k => e k + la + ap) c (by
      rcases Nat.eq_zero_or_pos b with g | g
      · exact .inl g
      · have := h2 (b - 1) (by omega)
        exact .inr (by show e (b - 1) + la + ap < e b + la + ap; have : e (b - 1) + la + ap ≤ T := this; omega))
    have this : ((e b + la + ap : Nat) : Int) - 1 - ((b * P : Nat) : Int) ≤ bndE P (fun k => e k + la + ap) m := this; omega
  · have q1 := h2 (m - 1) (by omega)
    have q1 : e (m - 1) + la + ap ≤ T := q1; have q2 := hle (m - 1) (by omega); have q3 : ¬ E (m - 1) + la + ap < T := fun g => by have := (ha (m - 1) (by omega)).1 g; omega
    have := q684 (P := P) (A := fun k => e k + la + ap) (k := m - 1) (m := m) (by omega); have this : ((e (m - 1) + la + ap : Nat) : Int) - (((m - 1 + 1) * P : Nat) : Int) ≤ bndE P (fun k => e k + la + ap) m := this; rw [show m - 1 + 1 = m by omega] at this; rw [show b = m by omega]; omega
abbrev StR := Int × Int × Int × List Int × List Int × List Int × List q8 × Int × List q11 × List Int × List Bool × List (List Sec) × List (List Sec) × Int × Int × Int × List (List (List Sec)) × List Int
theorem q636 (hS : SimOk L sz C P la ap n m E) (hT : TrOk t C w n P la ap) (he : PlanE C (sizK w n P) P (cycN n P) e) (hle : ∀ k, k < m → E k ≤ e k) {v1 : q14 × Bool} {v2 : q17 × Int} (hv1 : v1.1 = t) (hv2 : v2.1 = planV P la ap (cycN n P) e)
    {T a c d : Nat} (hTb : T ≤ 1500) (hcm : c ≤ m) (hdc : d ≤ c) (ham : a < m) (had : a ≤ d) (hd : ∀ k, k < m → (E k < T + 1 ↔ k < d)) (ha : ∀ k, k < m → (E k + la + ap < T ↔ k < a))
    {rec3 : StR → Prop} {v52 : List (List Sec)} {v53 v54 v64 : Int} {v55 v56 v57 : List Int} {v58 : List q8} {Φ : Bool → Prop}
    (hr : ∀ a', a' ≤ d → (∀ k, k < m → (E k + la + ap < T + 1 ↔ k < a')) → rec3 ((a' : Int), (T : Int) + 1, v54, v55, v56, v57, v58, 100, seg (cyL L n P) a' (c - a'), [(a' : Int)], [false], v52, imQ L sz n P a', v64, v53, ((a' * P : Nat) : Int), tabL (c + 1) (imQ L sz n P), tabL d fun k => (E k : Int))) :
    LoopW (Z126 v1 v2 (P : Int) (la : Int) (ap : Int) (T : Int) rec3 v52 v53 v54 v55 v56 v57 v58 (tabL (c + 1) (imQ L sz n P)) v64 (tabL d fun k => (E k : Int)) Φ) (0, 100, seg (cyL L n P) a (c - a), [(a : Int)], [false], imQ L sz n P a, ((a * P : Nat) : Int)) := by
  have hm24 := hS.m24; have hP0 := hS.P0; have hP6 := hS.P6; have hl4 := hS.l4; have ha3 := hS.a3; have el : (tabL d fun k => (E k : Int)).length = d := q16 _ _; refine LoopW.upS d (fun s : Int × Int × List q11 × List Int × List Bool × List (List Sec) × Int => s.1) (fun k s => ∃ x, s = ((k : Int), 100, seg (cyL L n P) x (c - x), [(x : Int)], [false], imQ L sz n P x, ((x * P : Nat) : Int)) ∧ a ≤ x ∧ (∀ i, i < x → i < d ∧ E i + la + ap ≤ T) ∧ (∀ i, i < k → E i + la + ap ≤ T → i < x) ∧ (x ≤ a ∨ x ≤ k)) (fun k s rec hk _ hI hrec => ?_) 0 rfl (Nat.zero_le _) ⟨a, rfl, Nat.le_refl _, fun i hi => ⟨by omega, by have := (ha i (by omega)).2 hi; omega⟩, fun i hi => absurd hi (Nat.not_lt_zero i), .inl (Nat.le_refl _)⟩; obtain ⟨x, rfl, h1, h2, h3, h4⟩ := hI
  have hxd : x ≤ d := by
    rcases Nat.lt_or_ge d x with q | q
    · have := (h2 d q).1; omega
    · exact q
  refine ⟨fun q => ?_, fun q => ?_⟩
  · have q : (k : Int) < ((tabL d fun k => (E k : Int)).length : Int) := q
    have hkd : k < d := by omega
    have ei : ix (tabL d fun k => (E k : Int)) (k : Int) = (E k : Int) := q59 hkd; have hEb := hS.Eb k (by omega); rw [ei]; have next : ∀ x', a ≤ x' → (∀ i, i < x' → i < d ∧ E i + la + ap ≤ T) → (∀ i, i < k + 1 → E i + la + ap ≤ T → i < x') → (x' ≤ a ∨ x' ≤ k + 1) → rec ((k : Int) + 1, 100, seg (cyL L n P) x' (c - x'), [(x' : Int)], [false], imQ L sz n P x', ((x' * P : Nat) : Int)) := fun x' g1 g2 g3 g4 => hrec _ hkd rfl ⟨x', rfl, g1, g2, g3, g4⟩
    refine ⟨iX (by omega) q, iI (by omega) (by omega), iI (by omega) (by omega), fun g => ⟨iI (by omega) (by omega), next x h1 h2 (fun i hi hA => ?_) (by omega)⟩, fun g => ?_⟩
    · rcases Nat.lt_or_ge i k with c1 | c1
      · exact h3 i c1 hA
      · obtain rfl : i = k := by omega
        have hlt : E i + la + ap < T := by omega
        have := (ha i (by omega)).1 hlt; omega
    · have hA : E k + la + ap = T := by omega
      -- all before have been applied
      have hka : ¬ k < a := fun z => by have := (ha k (by omega)).2 z; omega
      have hxk : x = k := by
        have g1 : k ≤ x := by
          rcases Nat.eq_zero_or_pos k with z | z
          · omega
          · have := hS.fin.le (i := k - 1) (j := k) (by omega) (by omega)
            have := h3 (k - 1) (by omega) (by omega); omega
        omega
      subst hxk; have hY : ∀ i, x ≤ i → i < c → CycY (cyL L n P) i := fun i _ hi => hS.cyc (by omega); have hcb := (hS.kP (k := x) (by omega)).2; refine f1_next (Y := cyL L n P) (a := x) (m := c) hY (by omega) (by omega) (by omega) ⟨(imQ L sz n P (x + 1), 0, ()), hS.app (by omega) rfl, (fan1 (cyL L n P) (x + 1) c, 0, ()), ?_, fun z => absurd rfl z, fun _ => ⟨fun z => absurd rfl z, fun _ => ⟨fun z => absurd rfl z, fun _ => ⟨iI (by omega) (by omega), fun z => absurd rfl z, fun _ => ⟨iI (by omega) (by omega), ?_, iI (by omega) (by omega), ?_⟩⟩⟩⟩⟩
      · exact q526 (Y := cyL L n P) (a := x) (m := c) (n := x + 1) hY (by omega) (by omega) (by omega) (by omega) (by omega) rfl
      · have e1 : ((x : Int) + 1) * (P : Int) = (((x + 1) * P : Nat) : Int) := by rw [Int.natCast_mul]; rfl
        rw [e1]; exact iI (by omega) (by omega)
      · have e1 : ((x : Int) + 1) * (P : Int) = (((x + 1) * P : Nat) : Int) := by rw [Int.natCast_mul]; rfl
        rw [e1]; refine next (x + 1) (by omega) (fun i hi => ?_) (fun i hi _ => hi) (.inr (Nat.le_refl _))
        rcases Nat.lt_or_ge i x with c1 | c1
        · exact h2 i c1
        · obtain rfl : i = x := by omega
          exact ⟨hkd, by omega⟩
  · have q : ¬ (k : Int) < ((tabL d fun k => (E k : Int)).length : Int) := q
    obtain rfl : k = d := by omega
    have hx : ∀ i, i < m → (E i + la + ap < T + 1 ↔ i < x) := fun i hi => by
      refine ⟨fun z => ?_, fun z => by have := (h2 i z).2; omega⟩; have := (hd i hi).1 (by omega); exact h3 i this (by omega)
    have hxm : x ≤ m := by omega
    have hPb : x * P ≤ 29 := by
      rcases Nat.eq_zero_or_pos x with z | z
      · rw [z, Nat.zero_mul]; omega
      · have := (hS.kP (k := x - 1) (by omega)).2.1
        rwa [show x - 1 + 1 = x by omega] at this
    have ediv : ((x * P : Nat) : Int) / (P : Int) = (x : Int) := by
      rw [← Int.natCast_ediv, Nat.mul_div_cancel _ hP0]
    have el2 : (tabL (c + 1) (imQ L sz n P)).length = c + 1 := q16 _ _; have ei : ix (tabL (c + 1) (imQ L sz n P)) (x : Int) = imQ L sz n P x := q59 (by omega); rw [ediv, ei]; refine ⟨⟨by omega, iI (by omega) (by omega), by omega⟩, fun z => absurd z (by omega), fun _ => ⟨iX (by omega) (by omega), (true, ()), hS.same hxm rfl, fun z => absurd rfl z, fun _ => ⟨iI (by omega) (by omega), ?_⟩⟩⟩; rw [hv1, hv2]; obtain ⟨b, hb⟩ := age_cov (Z := sizK w n P) (he := by rw [hS.m_eq]; exact he.fin) hle ham ha hx; have em := hS.m_eq; refine age_ok hT he (T := T) (a := b) (by omega) (by rw [← em]; exact hb.bm) hb.lo (fun i g1 g2 => hb.hi i g1 (by omega)) ⟨fun _ => ⟨fun _ => ⟨fun z => ?_, fun _ => ⟨iI (by omega) (by omega), hr x hxd hx⟩⟩, fun z => absurd hb.old z⟩, fun z => absurd rfl z⟩; have h5 := hb.bnd; have h6 := hb.old; rw [em] at h5; exact absurd (show (T : Int) - ((x * P : Nat) : Int) ≤ bndE P (fun k => e k + la + ap) (cycN n P) by omega) z
end
end
section
def lfv (C : List Int) (Z : Nat → Nat) (P : Nat) (E : Nat → Nat) (c d T : Nat) : Int := if d < c then (Z d : Int) - (sumC C T - sumC C (stK P E d)) else 0
section
variable {L : List (List q8)} {sz C : List Int} {P la ap n m : Nat} {E e : Nat → Nat}
theorem SimOk.sec (h : SimOk L sz C P la ap n m E) {k : Nat} (hk : k < m) {Φ : Int → Prop} (hΦ : Φ (sgL L n P k : Int)) : Z1 (cyL L n P k).Writes Φ := by
  have h1 := h.kP hk; have h2 := h.m24; have h3 := h.wN_le (bm_le (n := n) (P := P) (c := k + 1)); have ho := h.opn hk (Nat.le_refl (lenK n P k)); have hc : CycOk sz k (cyL L n P k) := q386 h.hz (n := k) (i := (k + 1) * P) (q := (wN L (bm n P (k + 1)) : Int)) ho (by omega) (by omega) ⟨by omega, by omega⟩; have C' := q244 (fun t => t h.hz) ho.fit; have h5 := q307 ho; have h6 := q270 (catL L (k * P) (lenK n P k)); have h7 := C'.sum; refine q617 (by have := hc.len; omega) ?_ hΦ; show secN (canL (effM (catL L (k * P) (lenK n P k)))) ≤ _; omega
theorem SimOk.sg (h : SimOk L sz C P la ap n m E) {k : Nat} (hk : k < m) : sgL L n P k ≤ secN (cwL L n P k) ∧ sgL L n P k = (effM (cwL L n P k)).length := by
  have ho := h.opn hk (Nat.le_refl (lenK n P k)); have C' := q244 (fun t => t h.hz) ho.fit; have h6 := q270 (catL L (k * P) (lenK n P k)); have h7 := C'.sum; exact ⟨by show secN (canL (effM (catL L (k * P) (lenK n P k)))) ≤ secN (catL L (k * P) (lenK n P k)); omega, h7⟩
theorem SimOk.sg6 (h : SimOk L sz C P la ap n m E) {k : Nat} (hk : k < m) : sgL L n P k ≤ 6000 := by
  have := (h.sg hk).1; have h5 : secN (cwL L n P k) ≤ 6000 := q307 (h.opn hk (Nat.le_refl (lenK n P k))); omega
structure TickO (P m : Nat) (E : Nat → Nat) (T c0 c d0 : Nat) : Prop where
  c0m : c0 ≤ c
  cm : c ≤ m
  d0c : d0 ≤ c0
  hc0 : ∀ k, k < m → ((k + 1) * P < T ↔ k < c0)
  hc : ∀ k, k < m → ((k + 1) * P < T + 1 ↔ k < c)
  hd0 : ∀ k, k < m → (E k < T ↔ k < d0)
def DoneO (m : Nat) (E : Nat → Nat) (T d : Nat) : Prop := ∀ k, k < m → (E k < T + 1 ↔ k < d)
theorem q516 (hS : SimOk L sz C P la ap n m E) {T c0 c d0 a : Nat} (hO : TickO P m E T c0 c d0) (had : a ≤ d0) {J7 : Int × List Int → Prop} {Φ : Bool → Prop} (hJ : ∀ d, d0 ≤ d → d ≤ c → DoneO m E T d → J7 (lfv C (sgL L n P) P E c d T, tabL d fun k => (E k : Int)))
    {k0 : Nat} (hk0 : d0 ≤ k0 ∧ k0 ≤ c) (hE0 : ∀ i, i < k0 → E i ≤ T) (hs0 : k0 < c → stK P E k0 = T) : LoopW (Z131 (P : Int) (T : Int) (seg (cyL L n P) a (c - a)) (tabL (c + 1) (imQ L sz n P)) J7 Φ) ((k0 : Int), 0, tabL k0 fun k => (E k : Int)) := by
  have hm24 := hS.m24; have hcm := hO.cm; have el : ((tabL (c + 1) (imQ L sz n P)).length : Int) - 1 = (c : Int) := by rw [q16]; omega
  refine LoopW.upS c (fun s : Int × Int × List Int => s.1) (fun k s => s = ((k : Int), 0, tabL k fun k => (E k : Int)) ∧ d0 ≤ k ∧ (∀ i, i < k → E i ≤ T) ∧ (k < c → stK P E k = T)) (fun k s rec hk _ hI hrec => ?_) k0 rfl hk0.2 ⟨rfl, hk0.1, hE0, hs0⟩; obtain ⟨rfl, h1, h2, h3⟩ := hI
  have hP : (k + 1) * P ≤ 1000 ∨ k = c := by
    rcases Nat.lt_or_ge k c with q | q
    · have := (hS.kP (k := k) (by omega)).2.1; omega
    · exact .inr (by omega)
  have e1 : ((k : Int) + 1) * (P : Int) = (((k + 1) * P : Nat) : Int) := by rw [Int.natCast_mul]; rfl
  unfold Z131 Join; rw [el]; refine ⟨iI (by omega) (by omega), fun q => ?_, fun q => ?_⟩
  · have hkc : k < c := by omega
    have hcl := (hO.hc k (by omega)).2 hkc; have hkb := (hS.kP (k := k) (by omega)).2.1; have hst := h3 hkc; rw [e1]; refine ⟨iI (by omega) (by omega), iI (by omega) (by omega), fun _ => ?_, fun z => absurd (by omega) z⟩; rw [decide_eq_true (show (0 : Int) ≤ 0 by omega)]; refine ⟨fun _ => ?_, fun z => absurd rfl z⟩; have hend := hS.fin k (by omega); rw [hst] at hend; have hsg := hS.sg6 (k := k) (by omega)
    have J12 : Z128 (T : Int) J7 (tabL k fun k => (E k : Int)) rec Φ (sgL L n P k : Int) := by
      refine ⟨fun z => ⟨iL (by rw [q18, q16]; omega) (by omega), ?_⟩, fun z => ?_⟩
      · have z0 : sgL L n P k = 0 := by omega
        rw [z0] at hend; have hET : E k = T := hend.uniq (EndC.zero T); have e2 : (tabL k fun k => (E k : Int)) ++ [(T : Int)] = tabL (k + 1) fun k => (E k : Int) := by rw [q82, hET]
        rw [e2, q16]; refine hrec _ hkc rfl ⟨rfl, by omega, fun i hi => ?_, fun hk1 => ?_⟩
        · rcases Nat.lt_or_ge i k with c1 | c1
          · exact h2 i c1
          · obtain rfl : i = k := by omega
            omega
        · have h5 := (hO.hc (k + 1) (by omega)).2 hk1
          exact q619 (by omega) (by show E k ≤ T; omega) (.inr hET)
      · have hgt : T < E k := by
          rcases Nat.lt_or_ge T (E k) with c1 | c1
          · exact c1
          · have q1 := hend.done
            have q2 := hS.lnk.le c1; omega
        have hf : lfv C (sgL L n P) P E c k T = (sgL L n P k : Int) := by
          unfold lfv; rw [if_pos hkc, hst]; omega
        rw [← hf]; refine hJ k h1 (by omega) fun i hi => ⟨fun g => ?_, fun g => by have := h2 i g; omega⟩
        rcases Nat.lt_or_ge i k with c1 | c1
        · exact c1
        · have := hS.fin.le c1 hi; omega
    have hak : a ≤ k := by omega
    have els : (seg (cyL L n P) a (c - a)).length = c - a := q204 _ _ _; unfold Join; refine LoopW.upT (k - a) (fun i => (i : Int)) rfl (fun i rec2 hi hr2 => ?_) fun rec2 => ?_
    · have ei : ix (seg (cyL L n P) a (c - a)) (i : Int) = cyL L n P (a + i) := q341 (by omega)
      refine ⟨fun z => ⟨iX (by omega) z, iI (by omega) (by omega), fun g => ?_, fun _ => ⟨iI (by omega) (by omega), hr2 _ rfl⟩⟩, fun z => absurd (show (i : Int) < ((seg (cyL L n P) a (c - a)).length : Int) by omega) z⟩; rw [ei] at g; have g : ((a + i : Nat) : Int) + 1 = (k : Int) + 1 := g; omega
    · have ei : ix (seg (cyL L n P) a (c - a)) ((k - a : Nat) : Int) = cyL L n P (a + (k - a)) := q341 (by omega)
      rw [show a + (k - a) = k by omega] at ei; refine ⟨fun z => ⟨iX (by omega) z, iI (by omega) (by omega), fun _ => ?_, fun g => absurd ?_ g⟩, fun z => absurd (show ((k - a : Nat) : Int) < ((seg (cyL L n P) a (c - a)).length : Int) by omega) z⟩
      · rw [ei]
        exact hS.sec (by omega) J12
      · rw [ei]; rfl
  · obtain rfl : k = c := by omega
    refine ⟨fun z => absurd z (by simp), fun _ => ?_⟩
    have hf : lfv C (sgL L n P) P E k k T = 0 := by
      unfold lfv; rw [if_neg (by omega)]
    rw [← hf]; refine hJ k h1 (Nat.le_refl _) fun i hi => ⟨fun g => ?_, fun g => by have := h2 i g; omega⟩
    have h5 := hS.fin.close hi; exact (hO.hc i hi).1 (by omega)
theorem q637 (hS : SimOk L sz C P la ap n m E) {T c0 c d0 a : Nat} (hTb : T ≤ 1500) (hO : TickO P m E T c0 c d0) (had : a ≤ d0) {J7 : Int × List Int → Prop} {Φ : Bool → Prop} (hJ : ∀ d, d0 ≤ d → d ≤ c → DoneO m E T d → J7 (lfv C (sgL L n P) P E c d T, tabL d fun k => (E k : Int))) :
    (0 < (T : Int) → inI (((tabL (c + 1) (imQ L sz n P)).length : Int) - 1) ∧
      (((tabL d0 fun k => (E k : Int)).length : Int) < (((tabL (c + 1) (imQ L sz n P)).length : Int) - 1) → Z133 C (T : Int) (lfv C (sgL L n P) P E c0 d0 (T - 1)) (tabL d0 fun k => (E k : Int)) (Z132 (P : Int) (T : Int) (seg (cyL L n P) a (c - a)) (tabL (c + 1) (imQ L sz n P)) J7 Φ) Φ (decide (0 < lfv C (sgL L n P) P E c0 d0 (T - 1)))) ∧
      (¬ ((tabL d0 fun k => (E k : Int)).length : Int) < (((tabL (c + 1) (imQ L sz n P)).length : Int) - 1) → Z133 C (T : Int) (lfv C (sgL L n P) P E c0 d0 (T - 1)) (tabL d0 fun k => (E k : Int)) (Z132 (P : Int) (T : Int) (seg (cyL L n P) a (c - a)) (tabL (c + 1) (imQ L sz n P)) J7 Φ) Φ false)) ∧
    (¬ 0 < (T : Int) → Z133 C (T : Int) (lfv C (sgL L n P) P E c0 d0 (T - 1)) (tabL d0 fun k => (E k : Int)) (Z132 (P : Int) (T : Int) (seg (cyL L n P) a (c - a)) (tabL (c + 1) (imQ L sz n P)) J7 Φ) Φ false) := by
  have hm24 := hS.m24; have hcm := hO.cm; have hc0m := hO.c0m; have hd0c := hO.d0c; have el : ((tabL (c + 1) (imQ L sz n P)).length : Int) - 1 = (c : Int) := by rw [q16]; omega
  have ed : (tabL d0 fun k => (E k : Int)).length = d0 := q16 _ _; have hE0 : ∀ i, i < d0 → E i ≤ T := fun i hi => by have := (hO.hd0 i (by omega)).2 hi; omega
  have hfr : fr0 E d0 ≤ T ∧ (0 < d0 → fr0 E d0 < T) := by
    cases d0 with
    | zero => exact ⟨Nat.zero_le _, fun q => absurd q (by omega)⟩
    | succ d => have := (hO.hd0 d (by omega)).2 (by omega); exact ⟨by show E d ≤ T; omega, fun _ => this⟩
  -- nothing is under way
  have none_ : ¬ d0 < c0 → Z133 C (T : Int) (lfv C (sgL L n P) P E c0 d0 (T - 1)) (tabL d0 fun k => (E k : Int)) (Z132 (P : Int) (T : Int) (seg (cyL L n P) a (c - a)) (tabL (c + 1) (imQ L sz n P)) J7 Φ) Φ false := fun hn => by
    have hf : lfv C (sgL L n P) P E c0 d0 (T - 1) = 0 := by
      unfold lfv; rw [if_neg hn]
    refine ⟨fun q => absurd q (by simp), fun _ => ?_⟩; rw [hf]; show LoopW (Z131 (P : Int) (T : Int) (seg (cyL L n P) a (c - a)) (tabL (c + 1) (imQ L sz n P)) J7 Φ) (((tabL d0 fun k => (E k : Int)).length : Int), 0, tabL d0 fun k => (E k : Int)); rw [ed]; refine q516 hS hO had hJ ⟨Nat.le_refl _, by omega⟩ hE0 fun hdc => ?_; have q1 := (hO.hc d0 (by omega)).2 hdc; have q2 : ¬ (d0 + 1) * P < T := fun g => hn ((hO.hc0 d0 (by omega)).1 g); exact q619 (by omega) hfr.1 (.inl (by omega))
  by_cases hdc0 : d0 < c0
  · -- a transfer is under way
    have hT1 : (d0 + 1) * P < T := (hO.hc0 d0 (by omega)).2 hdc0
    have hst : stK P E d0 ≤ T - 1 := by
      unfold stK; rcases Nat.eq_zero_or_pos d0 with z | z
      · subst z
        split
        · have : fr0 E 0 = 0 := rfl
          omega
        · omega
      · have := hfr.2 z
        split <;> omega
    have hend := hS.fin d0 (by omega)
    have hET : T ≤ E d0 := by
      rcases Nat.lt_or_ge (E d0) T with q | q
      · have := (hO.hd0 d0 (by omega)).1 q; omega
      · exact q
    have hl := hend.least (T - 1) hst (by omega)
    have hsT : sumC C T = sumC C (T - 1) + capC C (T - 1) := by
      have e1 : T = T - 1 + 1 := by omega
      have : sumC C (T - 1 + 1) = sumC C (T - 1) + capC C (T - 1) := rfl; rwa [← e1] at this
    have hcap := hS.lnk.cap (T - 1); have hb1 := hS.lnk.bnd (T - 1); have hb2 := hS.lnk.bnd (stK P E d0); have hsg := hS.sg6 (k := d0) (by omega); have hmo := hS.lnk.le hst
    have hf : lfv C (sgL L n P) P E c0 d0 (T - 1) = (sgL L n P d0 : Int) - (sumC C (T - 1) - sumC C (stK P E d0)) := by
      unfold lfv; rw [if_pos hdc0]
    have hlen1 := hS.lnk.one; have hlen2 := hS.lnk.len
    have eix : ix C (if ((C.length : Int) - 1) < ((T : Int) - 1) then ((C.length : Int) - 1) else ((T : Int) - 1)) = capC C (T - 1) := by
      unfold capC
      congr 1
      split <;> split <;> omega
    have eidx : inX (if ((C.length : Int) - 1) < ((T : Int) - 1) then ((C.length : Int) - 1) else ((T : Int) - 1)) C.length := by
      split
      · exact iX (by omega) (by omega)
      · exact iX (by omega) (by omega)
    have J9 : ∀ x : Int, x = (sgL L n P d0 : Int) - (sumC C T - sumC C (stK P E d0)) → (x ≤ 0 → Z132 (P : Int) (T : Int) (seg (cyL L n P) a (c - a)) (tabL (c + 1) (imQ L sz n P)) J7 Φ (0, (tabL d0 fun k => (E k : Int)) ++ [(T : Int)])) ∧ (¬ x ≤ 0 → Z132 (P : Int) (T : Int) (seg (cyL L n P) a (c - a)) (tabL (c + 1) (imQ L sz n P)) J7 Φ (x, tabL d0 fun k => (E k : Int))) := fun x hx => by
      refine ⟨fun q => ?_, fun q => ?_⟩
      · have hEe : E d0 = T := by
          rcases Nat.lt_or_ge T (E d0) with g | g
          · have := hend.least T (by omega) g; omega
          · omega
        have e2 : (tabL d0 fun k => (E k : Int)) ++ [(T : Int)] = tabL (d0 + 1) fun k => (E k : Int) := by rw [q82, hEe]
        rw [e2]; show LoopW (Z131 (P : Int) (T : Int) (seg (cyL L n P) a (c - a)) (tabL (c + 1) (imQ L sz n P)) J7 Φ) (((tabL (d0 + 1) fun k => (E k : Int)).length : Int), 0, tabL (d0 + 1) fun k => (E k : Int)); rw [q16]; refine q516 hS hO had hJ ⟨by omega, by omega⟩ (fun i hi => ?_) fun hdc => ?_
        · rcases Nat.lt_or_ge i d0 with c1 | c1
          · exact hE0 i c1
          · obtain rfl : i = d0 := by omega
            omega
        · have q1 := (hO.hc (d0 + 1) (by omega)).2 hdc
          exact q619 (by omega) (by show E d0 ≤ T; omega) (.inr hEe)
      · have hgt : T < E d0 := by
          rcases Nat.lt_or_ge T (E d0) with g | g
          · exact g
          · have q1 := hend.done
            have q2 := hS.lnk.le g; omega
        show LoopW (Z131 (P : Int) (T : Int) (seg (cyL L n P) a (c - a)) (tabL (c + 1) (imQ L sz n P)) J7 Φ) (((tabL d0 fun k => (E k : Int)).length : Int), x, tabL d0 fun k => (E k : Int)); rw [ed]
        have fin : J7 (x, tabL d0 fun k => (E k : Int)) := by
          have hf2 : lfv C (sgL L n P) P E c d0 T = x := by
            unfold lfv; rw [if_pos (by omega), hx]
          rw [← hf2]; refine hJ d0 (Nat.le_refl _) (by omega) fun i hi => ⟨fun g => ?_, fun g => by have := hE0 i g; omega⟩
          rcases Nat.lt_or_ge i d0 with c1 | c1
          · exact c1
          · have := hS.fin.le c1 hi; omega
        refine LoopW.upT 0 (fun _ => ((d0 : Int), x, tabL d0 fun k => (E k : Int))) rfl (fun k _ hk => absurd hk (Nat.not_lt_zero k)) fun rec => ?_; have e1 : ((d0 : Int) + 1) * (P : Int) = (((d0 + 1) * P : Nat) : Int) := by rw [Int.natCast_mul]; rfl
        have J11 : Z130 (T : Int) (seg (cyL L n P) a (c - a)) J7 (d0 : Int) x (tabL d0 fun k => (E k : Int)) rec Φ false := ⟨fun z => absurd z (by simp), fun _ => fin⟩
        unfold Z131 Join; dsimp only; rw [el, e1]; refine ⟨iI (by omega) (by omega), fun _ => ⟨iI (by omega) (by omega), iI (by omega) (by omega), fun _ => ?_, fun _ => J11⟩, fun _ => J11⟩; rw [decide_eq_false q]; exact J11
    refine ⟨fun _ => ⟨by rw [el]; exact iI (by omega) (by omega), fun _ => ?_, fun q => absurd (show ((tabL d0 fun k => (E k : Int)).length : Int) < ((tabL (c + 1) (imQ L sz n P)).length : Int) - 1 by rw [el, ed]; omega) q⟩, fun q => absurd (show (0 : Int) < (T : Int) by omega) q⟩; rw [hf, decide_eq_true (by omega)]; refine ⟨fun _ => ⟨iI (by omega) (by omega), iI (by omega) (by omega), eidx, ?_⟩, fun z => absurd rfl z⟩; rw [eix]; have hJ9 := J9 ((sgL L n P d0 : Int) - (sumC C (T - 1) - sumC C (stK P E d0)) - capC C (T - 1)) (by omega); exact ⟨iI (by omega) (by omega), fun q => ⟨iL (by rw [q18, q16]; omega) (by omega), hJ9.1 q⟩, fun q => hJ9.2 q⟩
  · have hf : lfv C (sgL L n P) P E c0 d0 (T - 1) = 0 := by
      unfold lfv; rw [if_neg hdc0]
    have hN := none_ hdc0; refine ⟨fun _ => ⟨by rw [el]; exact iI (by omega) (by omega), fun _ => ?_, fun _ => hN⟩, fun _ => hN⟩; have e0 : decide (0 < lfv C (sgL L n P) P E c0 d0 (T - 1)) = false := decide_eq_false (by rw [hf]; omega); rw [e0]; exact hN
end
end
section
theorem OpnQ.pre {sz : List Int} {a b : List q8} (h : OpnQ sz (a ++ b)) (k : Nat) : OpnQ sz (a ++ b.take k) := by
  have h1 : ∀ w ∈ a ++ b.take k, w ∈ a ++ b := fun w hw => by
    rcases List.mem_append.1 hw with q | q
    · exact List.mem_append.2 (.inl q)
    · exact List.mem_append.2 (.inr (List.mem_of_mem_take q))
  refine ⟨?_, fun w hw => h.fit w (h1 w hw), fun w hw => h.data w (h1 w hw)⟩; have := h.len; rw [List.length_append] at this ⊢; rw [List.length_take]; omega
section
variable {L : List (List q8)} {sz C : List Int} {P la ap n m : Nat} {E e : Nat → Nat}
theorem add_cov (hS : SimOk L sz C P la ap n m E) {x : q12} (hx : x.Ticks = L) {t c : Nat} (htn : t < n) (hc : c < m) (h1 : c * P ≤ t) (h2 : t < (c + 1) * P) {J5 : Int × List Int × List Int × List Int × List q8 × List (List Sec) × Int → Prop} {Φ : Bool → Prop} {p : Int} (hp : 0 ≤ p ∧ p ≤ 100000)
    (hJ : J5 ((c : Int), sz, [p], List.replicate (catL L (c * P) (t + 1 - c * P)).length 0, catL L (c * P) (t + 1 - c * P), appL (imQ L sz n P c) (catL L (c * P) (t + 1 - c * P)), (wN L (t + 1) : Int))) :
    LoopW (Z136 x ((t : Int) + 1) J5 Φ) (0, (c : Int), sz, [p], List.replicate (catL L (c * P) (t - c * P)).length 0, catL L (c * P) (t - c * P), appL (imQ L sz n P c) (catL L (c * P) (t - c * P)), (wN L t : Int)) := by
  have hm24 := hS.m24; have hkP := hS.kP hc; have e1 : (t : Int) + 1 - 1 = ((t : Nat) : Int) := by omega
  have e2 : catL L (c * P) (t + 1 - c * P) = catL L (c * P) (t - c * P) ++ ix L (t : Int) := by
    rw [show t + 1 - c * P = t - c * P + 1 by omega]; show catL L (c * P) (t - c * P) ++ ix L ((c * P + (t - c * P) : Nat) : Int) = _; rw [show c * P + (t - c * P) = t by omega]
  have hle : t + 1 - c * P ≤ lenK n P c := by unfold lenK; split <;> omega
  have ho := hS.opn hc hle; rw [e2] at ho hJ; have hz := hS.hz; have hs := hS.img c (by omega); have hw1 := hS.wN_le (j := t) (by omega)
  have e3 : wN L (t + 1) = wN L t + (ix L (t : Int)).length := by
    rw [q724]; show wN L t + ([] ++ ix L ((t + 0 : Nat) : Int)).length = _; rw [List.nil_append, Nat.add_zero]
  have hlen := ho.len; rw [List.length_append] at hlen; refine LoopW.upT (ix L (t : Int)).length (fun k => ((k : Int), (c : Int), sz, [p], List.replicate (catL L (c * P) (t - c * P) ++ (ix L (t : Int)).take k).length 0, catL L (c * P) (t - c * P) ++ (ix L (t : Int)).take k, appL (imQ L sz n P c) (catL L (c * P) (t - c * P) ++ (ix L (t : Int)).take k), (wN L t : Int) + (k : Int))) (by rw [List.take_zero, List.append_nil]; simp) (fun k rec hk hr => ?_) fun rec => ?_
  · have hok := ho.pre k
    have hok1 := ho.pre (k + 1); have ew : catL L (c * P) (t - c * P) ++ (ix L (t : Int)).take (k + 1) = (catL L (c * P) (t - c * P) ++ (ix L (t : Int)).take k) ++ [ix (ix L (t : Int)) (k : Int)] := by rw [q78 hk, List.append_assoc]
    have hf : fitW sz (ix (ix L (t : Int)) (k : Int)) = 0 := hok1.fit _ (by rw [ew]; exact List.mem_append.2 (.inr (List.mem_singleton.2 rfl))); have hd : (ix (ix L (t : Int)) (k : Int)).Data.length ≤ 24 := hok1.data _ (by rw [ew]; exact List.mem_append.2 (.inr (List.mem_singleton.2 rfl))); have hsi := q633 hz hs hok; have hlk := hok.len; have hlk1 := hok1.len; unfold Z136; dsimp only; rw [hx, e1]; refine ⟨fun q => ⟨iX (by omega) q, (appL (appL (imQ L sz n P c) (catL L (c * P) (t - c * P) ++ (ix L (t : Int)).take k)) [ix (ix L (t : Int)) (k : Int)], 0, 0, ()), q188 (show 1 ≤ 1000000 by omega) (q632 hz hsi) (fun w hw => by rw [List.mem_singleton.1 hw, hsi]; exact hf) rfl, ((addR (capP sz c p (catL L (c * P) (t - c * P) ++ (ix L (t : Int)).take k)) 0 (ix (ix L (t : Int)) (k : Int))).1, (addR (capP sz c p (catL L (c * P) (t - c * P) ++ (ix L (t : Int)).take k)) 0 (ix (ix L (t : Int)) (k : Int))).2, ()), q420 (show 1 ≤ 100000 by omega) (by rw [List.length_replicate]; omega) (by show (catL L (c * P) (t - c * P) ++ (ix L (t : Int)).take k).length ≤ _; omega) (fun w hw => by have := hok.data w hw; omega) (by omega) rfl, fun q2 => absurd rfl q2, fun _ => ?_⟩, fun q => absurd (show (k : Int) < ((ix L (t : Int)).length : Int) by omega) q⟩; rw [add_one hz hok (by omega) hp hf]; refine ⟨fun q2 => absurd rfl q2, fun _ => ⟨iI (by omega) (by omega), iI (by omega) (by omega), hr _ ?_⟩⟩; rw [ew, q230]
    show ((k : Int) + 1, (c : Int), sz, [p], _, _, _, (wN L t : Int) + (k : Int) + 1) = ((k : Int) + 1, (c : Int), sz, [p], _, _, _, (wN L t : Int) + ((k : Int) + 1))
    rw [Int.add_assoc]; rfl
  · unfold Z136
    dsimp only; rw [hx, e1]; refine ⟨fun q => absurd q (by omega), fun _ => ?_⟩; rw [q50]; rw [e3] at hJ; rw [← Int.natCast_add]; exact hJ
end
end
section
def tkN (n t : Nat) : Nat := if t < n then t else n
def opT (L : List (List q8)) (n P c j : Nat) : List q8 := catL L (bm n P c) (j - bm n P c)
structure HeadO (P la ap m : Nat) (E : Nat → Nat) (T a c d : Nat) : Prop where
  ad : a ≤ d
  dc : d ≤ c
  cm : c ≤ m
  hc : ∀ k, k < m → ((k + 1) * P < T ↔ k < c)
  hd : ∀ k, k < m → (E k < T ↔ k < d)
  ha : ∀ k, k < m → (E k + la + ap < T ↔ k < a)
def hdS (L : List (List q8)) (sz C : List Int) (P n : Nat) (E : Nat → Nat) (T a c d : Nat) : StR :=
  ((a : Int), (T : Int), (c : Int), sz, [(wN L (bm n P c) : Int)], List.replicate (opT L n P c (tkN n (T - 1))).length 0, opT L n P c (tkN n (T - 1)), 100, seg (cyL L n P) a (c - a), [(a : Int)], [false], appL (imQ L sz n P c) (opT L n P c (tkN n (T - 1))), imQ L sz n P a, lfv C (sgL L n P) P E c d (T - 1), (wN L (tkN n (T - 1)) : Int), ((a * P : Nat) : Int), tabL (c + 1) (imQ L sz n P), tabL d fun k => (E k : Int))
section
variable {L : List (List q8)} {sz C : List Int} {P la ap n m : Nat} {E e : Nat → Nat} {w : Nat → Nat} {t : q14}
theorem SimOk.mI (h : SimOk L sz C P la ap n m E) : ((n : Int) + (P : Int) - 1) / (P : Int) = (m : Int) := by
  have := h.P0; rw [h.m_eq]; unfold cycN; rw [Int.natCast_ediv]
  congr 1
  omega
theorem q687 (hS : SimOk L sz C P la ap n m E) (hT : TrOk t C w n P la ap) (he : PlanE C (sizK w n P) P (cycN n P) e) (hle : ∀ k, k < m → E k ≤ e k) {v1 : q14 × Bool} {v2 : q17 × Int} (hv1 : v1.1 = t) (hv2 : v2.1 = planV P la ap (cycN n P) e) {x : q12} (hx : x.Ticks = L)
    {T a c d : Nat} (hTb : T < 1500) (hH : HeadO P la ap m E T a c d) (ham : a < m) {rec3 : StR → Prop} {Φ : Bool → Prop} (hr : ∀ a' c' d', HeadO P la ap m E (T + 1) a' c' d' → rec3 (hdS L sz C P n E (T + 1) a' c' d')) :
    Z137 x v1 v2 C (P : Int) (la : Int) (ap : Int) (a : Int) (T : Int) (c : Int) sz [(wN L (bm n P c) : Int)] (List.replicate (opT L n P c (tkN n (T - 1))).length 0) (opT L n P c (tkN n (T - 1))) 100 (seg (cyL L n P) a (c - a)) [(a : Int)] [false] (appL (imQ L sz n P c) (opT L n P c (tkN n (T - 1)))) (imQ L sz n P a) (lfv C (sgL L n P) P E c d (T - 1)) (wN L (tkN n (T - 1)) : Int) ((a * P : Nat) : Int) (tabL (c + 1) (imQ L sz n P)) (tabL d fun k => (E k : Int)) rec3 Φ true := by
  have hm24 := hS.m24; have hP0 := hS.P0; have hP6 := hS.P6; have hn24 := hS.n24; have hz := hS.hz; have hnL := hS.n_eq; have had := hH.ad; have hdc := hH.dc; have hcm := hH.cm; have hn : x.Ticks.length = n := by rw [hx]; exact hnL
  -- behind the closing
  have j6 : ∀ c', c ≤ c' → c' ≤ m → (∀ k, k < m → ((k + 1) * P < T + 1 ↔ k < c')) → Z134 v1 v2 C (P : Int) (la : Int) (ap : Int) (T : Int) (imQ L sz n P a) (lfv C (sgL L n P) P E c d (T - 1)) ((a * P : Nat) : Int) (tabL d fun k => (E k : Int)) rec3 (appL (imQ L sz n P c') (opT L n P c' (tkN n T))) (wN L (tkN n T) : Int) Φ ((c' : Int), sz, [(wN L (bm n P c') : Int)], List.replicate (opT L n P c' (tkN n T)).length 0, opT L n P c' (tkN n T), 100, seg (cyL L n P) a (c' - a), [(a : Int)], [false], tabL (c' + 1) (imQ L sz n P)) := fun c' h1 h2 h3 => by
    unfold Z134 Join; dsimp only; exact q637 hS (by omega) ⟨h1, h2, hdc, hH.hc, h3, hH.hd⟩ had fun d' g1 g2 g3 => q636 hS hT he hle hv1 hv2 (by omega) h2 g2 ham (by omega) g3 hH.ha fun a' q1 q2 => hr a' c' d' ⟨q1, g2, h2, h3, g3, q2⟩
  -- behind the writes
  have j5 : Z135 x v1 v2 C (P : Int) (la : Int) (ap : Int) (T : Int) 100 (seg (cyL L n P) a (c - a)) [(a : Int)] [false] (imQ L sz n P a) (lfv C (sgL L n P) P E c d (T - 1)) ((a * P : Nat) : Int) (tabL (c + 1) (imQ L sz n P)) (tabL d fun k => (E k : Int)) rec3 Φ ((c : Int), sz, [(wN L (bm n P c) : Int)], List.replicate (opT L n P c (tkN n T)).length 0, opT L n P c (tkN n T), appL (imQ L sz n P c) (opT L n P c (tkN n T)), (wN L (tkN n T) : Int)) := by
    have el : ((tabL (c + 1) (imQ L sz n P)).length : Int) - 1 = (c : Int) := by rw [q16]; omega
    have stay : (∀ k, k < m → (k + 1) * P ≠ T) → Z134 v1 v2 C (P : Int) (la : Int) (ap : Int) (T : Int) (imQ L sz n P a) (lfv C (sgL L n P) P E c d (T - 1)) ((a * P : Nat) : Int) (tabL d fun k => (E k : Int)) rec3 (appL (imQ L sz n P c) (opT L n P c (tkN n T))) (wN L (tkN n T) : Int) Φ ((c : Int), sz, [(wN L (bm n P c) : Int)], List.replicate (opT L n P c (tkN n T)).length 0, opT L n P c (tkN n T), 100, seg (cyL L n P) a (c - a), [(a : Int)], [false], tabL (c + 1) (imQ L sz n P)) := fun hk => j6 c (Nat.le_refl _) hcm fun k hkm => by
      have := hH.hc k hkm; have := hk k hkm; omega
    unfold Z135 Join; dsimp only; rw [el, hn, hS.mI]; refine ⟨fun q => ⟨⟨by omega, by omega⟩, fun hmod => ⟨iI (by omega) (by omega), fun hcl => ?_, fun hcl => ?_⟩, fun hmod => ?_⟩, fun q => ?_⟩
    · have hcm' : c < m := by omega
      have hTP : T = (c + 1) * P := by
        have h1 : T % P = 0 := by
          have : ((T % P : Nat) : Int) = 0 := by rw [Int.natCast_emod]; exact hmod
          omega
        have h2 := Nat.div_add_mod T P; rw [h1, Nat.add_zero, Nat.mul_comm] at h2; have h3 : ¬ (c + 1) * P < T := fun g => by have := (hH.hc c hcm').1 g; omega
        have h4 : ¬ c + 1 < T / P := fun g => by
          have := Nat.mul_lt_mul_of_pos_right g hP0; omega
        have h5 : c < T / P := by
          rcases Nat.lt_or_ge c (T / P) with g | g
          · exact g
          · have g1 := Nat.mul_le_mul_right P g
            rcases Nat.eq_zero_or_pos c with z | z
            · rw [z, Nat.zero_mul] at g1; omega
            · have := (hH.hc (c - 1) (by omega)).2 (by omega)
              rw [show c - 1 + 1 = c by omega] at this; omega
        rw [← h2, show T / P = c + 1 by omega]
      have hkP := hS.kP hcm'; have hb := hS.bmk hcm'; have htk : tkN n T = bm n P (c + 1) := by rw [hTP]; rfl
      have hop : opT L n P c (tkN n T) = cwL L n P c := by
        unfold opT cwL; rw [htk, hb.2, hb.1, show c * P + lenK n P c - c * P = lenK n P c by omega]
      have hop1 : opT L n P (c + 1) (tkN n T) = [] := by
        unfold opT; rw [htk, Nat.sub_self]; rfl
      have ho := hS.opn hcm' (Nat.le_refl (lenK n P c)); have hw0 := hS.wN_le (bm_le (n := n) (P := P) (c := c)); have hw1 := hS.wN_le (bm_le (n := n) (P := P) (c := c + 1))
      have hwq : (wN L (tkN n T) : Int) = (wN L (bm n P c) : Int) + ((catL L (c * P) (lenK n P c)).length : Int) := by
        rw [htk, hb.2, hb.1, q724]; omega
      have hY : ∀ i, a ≤ i → i < c → CycY (cyL L n P) i := fun i _ hi => hS.cyc (by omega); have hcl := q630 hz (n := c) (i := T) (p := (wN L (bm n P c) : Int)) (q := (wN L (tkN n T) : Int)) ho (by omega) (by omega) ⟨by omega, by omega⟩ hwq
      have ecy : cycY c T (wN L (tkN n T) : Int) (catL L (c * P) (lenK n P c)) = cyL L n P c := by
        unfold cyL; rw [htk, hTP]; rfl
      rw [ecy] at hcl; rw [hop]; refine ⟨(capP sz (c + 1) (wN L (tkN n T) : Int) [], cyL L n P c, 0, ()), q311 (c := capP sz c (wN L (bm n P c) : Int) (cwL L n P c)) (q527 hz ho) (show 1 ≤ 20 by omega) (fun i hi => ?_) ?_, (fan1 (cyL L n P) a (c + 1), [], 0, ()), ?_, iL (by rw [q18, q16]; omega) (by omega), fun _ => ⟨fun _ => ⟨fun z => absurd rfl z, fun _ => ?_⟩, fun z => absurd rfl z⟩, fun z => absurd rfl z⟩
      · have hi : i < 1 := hi
        obtain rfl : i = 0 := by omega
        show inI (wN L (tkN n T) : Int); rw [htk]; exact iI (by omega) (by omega)
      · show (_, _, _, ()) = _
        have hcl : cloR (capP sz c (wN L (bm n P c) : Int) (cwL L n P c)) (T : Int) [(wN L (tkN n T) : Int)] = _ := hcl; rw [hcl]
      · exact f1_push (Y := cyL L n P) (a := a) (m := c) hY (hS.cyc hcm') (by omega) (by omega) (by omega) rfl
      · have := j6 (c + 1) (by omega) (by omega) fun k hk => by
          refine ⟨fun g => ?_, fun g => ?_⟩
          · rcases Nat.lt_or_ge k (c + 1) with g1 | g1
            · exact g1
            · have g2 := Nat.mul_le_mul_right P (show c + 1 + 1 ≤ k + 1 by omega)
              have g3 : (c + 1 + 1) * P = (c + 1) * P + P := Nat.succ_mul _ _; omega
          · have g2 := Nat.mul_le_mul_right P (show k + 1 ≤ c + 1 by omega)
            omega
        rw [hop1, ← htk, q82 (c + 1) (imQ L sz n P)] at this; exact this
    · exact stay fun k hk => by have := (hH.hc k hk).2 (by omega); omega
    · refine stay fun k hk g => hmod ?_
      rw [← g, Int.natCast_mul]; exact Int.mul_emod_left ..
    · exact stay fun k hk => by
        have := Nat.mul_le_mul_right P (show 1 ≤ k + 1 by omega); omega
  unfold Z137 Join; dsimp only; rw [hn]; refine ⟨fun _ => ⟨fun q => ⟨fun q2 => ⟨iI (by omega) (by omega), iX (by omega) (by omega), ?_⟩, fun q2 => ?_⟩, fun q => ?_⟩, fun z => absurd rfl z⟩
  · obtain ⟨t', rfl⟩ : ∃ t', T = t' + 1 := ⟨T - 1, by omega⟩
    have htn : t' < n := by omega
    have hcm' : c < m := by
      rcases Nat.lt_or_ge c m with g | g
      · exact g
      · have g1 := (hH.hc (m - 1) (by omega)).2 (by omega)
        rw [show m - 1 + 1 = m by omega] at g1; have g2 := (q122 (n := n) (k := m) hP0).2 (by omega); rw [← hS.m_eq] at g2; omega
    have hb := (hS.bmk hcm').1
    have h1 : c * P ≤ t' := by
      rcases Nat.eq_zero_or_pos c with z | z
      · rw [z, Nat.zero_mul]; omega
      · have := (hH.hc (c - 1) (by omega)).2 (by omega)
        rw [show c - 1 + 1 = c by omega] at this; omega
    have h2 : t' < (c + 1) * P := by
      have : ¬ (c + 1) * P < t' + 1 := fun g => by have := (hH.hc c hcm').1 g; omega
      omega
    have e0 : tkN n (t' + 1 - 1) = t' := if_pos htn; have e1 : tkN n (t' + 1) = t' + 1 := by unfold tkN; split <;> omega
    rw [e1] at j5; rw [e0]; have hw0 := hS.wN_le (bm_le (n := n) (P := P) (c := c)); unfold opT at j5 ⊢; rw [hb] at j5 hw0 ⊢; exact add_cov hS hx htn hcm' h1 h2 (p := (wN L (c * P) : Int)) ⟨by omega, by omega⟩ j5
  · have e1 : tkN n (T - 1) = tkN n T := by unfold tkN; split <;> split <;> omega
    rw [e1]; exact j5
  · have e1 : tkN n (T - 1) = tkN n T := by rw [show T - 1 = T by omega]
    rw [e1]; exact j5
end
end
section
theorem q313 {im : List (List Sec)} {w : q8} {Φ : Int → Prop} (hd : w.Data.length ≤ 100000) (hv : ∀ k : Nat, k < im.length → (ix im (k : Int)).length ≤ 1000000) (h0 : fitW (szs im) w = 0 → Φ 0) (h1 : ∀ e, e ≠ 0 → Φ e) : q64 im w Φ := by
  have tail : 0 ≤ w.Volume → w.Volume < (im.length : Int) → q96 im w Φ false := fun q1 q2 => by
    obtain ⟨v, hvv⟩ := Int.eq_ofNat_of_zero_le q1; have hvl : v < im.length := by omega
    have hl := hv v hvl; have e : ix (szs im) w.Volume = ((ix im w.Volume).length : Int) := by rw [hvv, q130 hvl]
    have hl' : (ix im w.Volume).length ≤ 1000000 := by rw [hvv]; exact hl
    refine ⟨fun q => (by cases q), fun _ => ⟨fun _ => h1 1 (by omega), fun hz => ⟨fun _ => h1 2 (by omega), fun hst => ⟨iX q1 q2, iI (by omega) (by omega), fun _ => h1 2 (by omega), fun hlt => h0 ?_⟩⟩⟩⟩; unfold fitW; rw [e, q39, if_neg (by omega), if_neg (by omega), if_neg (by omega)]
  refine ⟨fun _ => ⟨fun _ => h1 7 (by omega), fun q => absurd rfl q⟩, fun q => ?_⟩; by_cases r : (im.length : Int) ≤ w.Volume
  · rw [decide_eq_true r]; exact ⟨fun _ => h1 7 (by omega), fun q => absurd rfl q⟩
  · rw [decide_eq_false r]; exact tail (by omega) (by omega)
theorem q314 {im : List (List Sec)} {l : List q8} {Φ : List (List Sec) × Int × Int → Prop} (him : im.length ≤ 100000) (hl : l.length ≤ 100000) (hd : ∀ w ∈ l, w.Data.length ≤ 100000) (h0 : imgE im = 0 → (∀ w ∈ l, fitW (szs im) w = 0) → Φ (appL im l, 0, 0)) (h1 : ∀ o i e, e ≠ 0 → Φ (o, i, e)) : q38 im l Φ := by
  refine q81 him ⟨fun q => h1 _ _ _ q, fun hs => ?_⟩; have hs : imgE im = 0 := Classical.not_not.1 hs; refine q149 hs ?_; refine LoopW.upI l.length (fun k => (appL im (l.take k), (k : Int))) (fun k => ∀ w ∈ l.take k, fitW (szs im) w = 0) rfl (fun w hw => by cases hw) (fun k rec hk hI hr => ?_) fun rec hI => ⟨fun q => absurd (show (l.length : Int) < (l.length : Int) from q) (by omega), fun _ => by rw [q50] at hI ⊢; exact h0 hs hI⟩
  have e : szs (appL im (l.take k)) = szs im := q148 (by rw [show q20 (szs im) = 0 from hs]; simp) hI; have hs' : imgE (appL im (l.take k)) = 0 := by unfold imgE; rw [e]; exact hs
  refine ⟨fun _ => ⟨iX (by omega) (by omega), q313 (hd _ (q88 (iX (by omega) (by omega)))) (fun j hj => Nat.le_trans (q229 hs' j hj) (by omega)) (fun hf => ⟨fun q => absurd rfl q, fun _ => ?_⟩) fun e' he' => ⟨fun _ => h1 _ _ _ he', fun q => absurd he' q⟩⟩, fun q => absurd (show (k : Int) < (l.length : Int) by omega) q⟩; rw [e] at hf; obtain ⟨v, s, hfw⟩ := q147 (by rw [show q20 (szs im) = 0 from hs]; simp) hf; have hv := hfw.hv; have hle := hfw.le; rw [← e, q39] at hv; rw [← e, q130 hv] at hle; refine ⟨by rw [hfw.vol]; exact iX (by omega) (by omega), by rw [hfw.vol, hfw.start]; exact iS (by omega) (by omega) (by omega), iI (by omega) (by omega), hr (fun w hw => ?_) _ (by rw [q416 hk]; rfl)⟩; rw [q78 hk] at hw; rcases List.mem_append.1 hw with hw | hw
  · exact hI w hw
  · obtain rfl := List.mem_singleton.1 hw; exact hf
theorem q425 {im : List (List Sec)} {Φ : Bool → Prop} (h0 : Φ false) (h1 : im.length ≤ 9 → Φ true) : q200 im Φ := by
  refine ⟨fun _ => h0, fun q => ?_⟩; refine LoopW.upT im.length (fun k => (k : Int)) rfl (fun k rec hk hr => ⟨fun _ => ⟨iX (by omega) (by omega), fun _ => h0, fun _ => ⟨iI (by omega) (by omega), hr _ rfl⟩⟩, fun q => absurd (show (k : Int) < (im.length : Int) by omega) q⟩) fun rec => ⟨fun q => absurd (show (im.length : Int) < (im.length : Int) from q) (by omega), fun _ => h1 (by omega)⟩
section
variable {L : List (List q8)} {sz C : List Int} {P la ap n m : Nat} {E e : Nat → Nat} {w : Nat → Nat} {t : q14}
theorem q517 (L : List (List q8)) (a : Nat) : ∀ j, secN (catL L a j) = sumN (fun i => secN (ix L (i : Int))) a j
  | 0 => rfl
  | j + 1 => by
    show secN (catL L a j ++ ix L ((a + j : Nat) : Int)) = sumN (fun i => secN (ix L (i : Int))) a j + secN (ix L ((a + j : Nat) : Int)); rw [q79, q517 L a j]
theorem q638 {a b : Nat} : ∀ j : Nat, (∀ i : Nat, i < a + j → (ix L (i : Int)).length ≤ b) → (catL L a j).length ≤ j * b
  | 0, _ => Nat.zero_le _
  | j + 1, h => by
    have h1 := q638 (a := a) (b := b) j fun i hi => h i (by omega); have h2 := h (a + j) (by omega); show (catL L a j ++ ix L ((a + j : Nat) : Int)).length ≤ _; rw [List.length_append, Nat.succ_mul]; omega
theorem sg_le (hz : q20 sz = 0) {n k P : Nat} (hk : k * P + lenK n P k ≤ n) (hf : ∀ i : Nat, i < n → ∀ w ∈ ix L (i : Int), fitW sz w = 0) : sgL L n P k ≤ secN (cwL L n P k) ∧ sgL L n P k = (effM (cwL L n P k)).length := by
  have C' := q244 (fun t => t hz) (l := cwL L n P k) fun w hw => by
    obtain ⟨i, h5, h6, h7⟩ := q272 hw; exact hf i (by omega) w h7
  have h6 := q270 (cwL L n P k); have h7 := C'.sum; exact ⟨by show secN (canL (effM (cwL L n P k))) ≤ _; omega, h7⟩
theorem q639 (hP : 0 < P) {k : Nat} (hk : k < cycN n P) : k * P + lenK n P k ≤ n := by
  have := (q122 hP).1 hk; unfold lenK
  split <;> omega
theorem q529 {x : q12} (hX : q305 x) (hsum : sumN (wX x) 0 x.Ticks.length ≤ 200) (hz : q20 sz = 0) (hf : ∀ i : Nat, i < x.Ticks.length → ∀ w ∈ ix x.Ticks (i : Int), fitW sz w = 0) (he : PlanE (capX x) (sizK (wX x) x.Ticks.length (perX x)) (perX x) (cycN x.Ticks.length (perX x)) e) :
    ∃ E, SimOk x.Ticks sz (capX x) (perX x) (latX x) (appX x) x.Ticks.length (cycN x.Ticks.length (perX x)) E ∧ ∀ k, k < cycN x.Ticks.length (perX x) → E k ≤ e k := by
  have hT := hX.tr; have hP := hT.P0
  have hZ : ∀ k, k < cycN x.Ticks.length (perX x) → sgL x.Ticks x.Ticks.length (perX x) k ≤ sizK (wX x) x.Ticks.length (perX x) k := fun k hk => by
    have h1 := (sg_le hz (q639 hP hk) hf).1; have h2 := q517 x.Ticks (k * perX x) (lenK x.Ticks.length (perX x) k); have h3 : sizK (wX x) x.Ticks.length (perX x) k = sumN (wX x) (k * perX x) (lenK x.Ticks.length (perX x) k) := rfl; rw [h3]; show _ ≤ sumN (fun i => secN (ix x.Ticks (i : Int))) (k * perX x) (lenK x.Ticks.length (perX x) k); rw [← h2]; exact h1
  obtain ⟨E, h1, h2⟩ := q514 hT.lnk (show FinE (capX x) (sizK (wX x) x.Ticks.length (perX x)) (perX x) (cycN x.Ticks.length (perX x)) e from he.fin) hZ _ (Nat.le_refl _); have hb : ∀ i : Nat, i < x.Ticks.length → (ix x.Ticks (i : Int)).length ≤ 6 := fun i hi => (hX.few i hi).1; refine ⟨E, ⟨rfl, rfl, hT.n24, hP, hT.P6, hT.l4, hT.a3, hT.lnk, hz, fun i hi w hw => ⟨hf i hi w hw, (hX.few i hi).2 w hw⟩, fun k hk => ?_, ?_, h1, fun k hk => ?_⟩, h2⟩
  · have h3 := q639 hP hk
    have h4 := q638 (L := x.Ticks) (a := k * perX x) (b := 6) (lenK x.Ticks.length (perX x) k) fun i hi => hb i (by omega); have h5 := hX.n24; show (catL _ _ _).length ≤ _; omega
  · have h4 := q638 (L := x.Ticks) (a := 0) (b := 6) x.Ticks.length fun i hi => hb i (by omega)
    have h5 := hX.n24; show (catL _ _ _).length ≤ _; omega
  · have h3 := h2 k hk
    have h4 := he.bnd k hk; have h5 := hT.kP hk; rw [q382 (wX x) hP (k + 1) (by omega)] at h4; have h6 : sumN (wX x) 0 (if (k + 1) * perX x < x.Ticks.length then (k + 1) * perX x else x.Ticks.length) ≤ sumN (wX x) 0 x.Ticks.length := sumN_le _ _ (by split <;> omega); omega
theorem hd0 (L : List (List q8)) (sz C : List Int) (P n : Nat) (E : Nat → Nat) : hdS L sz C P n E 0 0 0 0 = (0, 0, 0, sz, [0], [], [], 100, [], [0], [false], zeroI sz, zeroI sz, 0, 0, 0, [zeroI sz], []) := by
  have e1 : bm n P 0 = 0 := by unfold bm; rw [Nat.zero_mul]; split <;> omega
  have e2 : tkN n (0 - 1) = 0 := by unfold tkN; split <;> omega
  unfold hdS opT lfv; rw [e1, e2, if_neg (by omega), Nat.zero_mul]; rfl
theorem q688 (hS : SimOk L sz C P la ap n m E) (hT : TrOk t C w n P la ap) (he : PlanE C (sizK w n P) P (cycN n P) e) (hle : ∀ k, k < m → E k ≤ e k) {v1 : q14 × Bool} {v2 : q17 × Int} (hv1 : v1.1 = t) (hv2 : v2.1 = planV P la ap (cycN n P) e) {x : q12} (hx : x.Ticks = L) {Φ : Bool → Prop} (hΦ : Φ true) :
    LoopW (Z138 x v1 v2 C (P : Int) (la : Int) (ap : Int) Φ) (0, 0, 0, sz, [0], [], [], 100, [], [0], [false], zeroI sz, zeroI sz, 0, 0, 0, [zeroI sz], []) := by
  rw [← hd0 L sz C P n E]; have hn : x.Ticks.length = n := by rw [hx]; exact hS.n_eq
  refine LoopW.upS 1500 (fun s : StR => s.2.1) (fun T s => ∃ a c d, s = hdS L sz C P n E T a c d ∧ HeadO P la ap m E T a c d) (fun T s rec hTb _ hI hrec => ?_) 0 rfl (Nat.zero_le _) ⟨0, 0, 0, rfl, Nat.le_refl _, Nat.le_refl _, Nat.zero_le _, fun k _ => ⟨fun q => absurd q (Nat.not_lt_zero _), fun q => absurd q (Nat.not_lt_zero _)⟩, fun k _ => ⟨fun q => absurd q (Nat.not_lt_zero _), fun q => absurd q (Nat.not_lt_zero _)⟩, fun k _ => ⟨fun q => absurd q (Nat.not_lt_zero _), fun q => absurd q (Nat.not_lt_zero _)⟩⟩; obtain ⟨a, c, d, rfl, hH⟩ := hI; have h1 := hH.ad; have h2 := hH.dc; have h3 := hH.cm; unfold Z138 hdS Join; dsimp only; rw [hn, hS.mI]; refine ⟨fun q => ?_, fun q => ?_⟩
  · have ham : a < m := by omega
    have hTb' : T < 1500 := by
      have g1 : ¬ E a + la + ap < T := fun g => by have := (hH.ha a ham).1 g; omega
      have g2 := hS.Eb a ham; have g3 := hS.l4; have g4 := hS.a3; omega
    rw [decide_eq_true (show (T : Int) < 1500 by omega)]; exact q687 hS hT he hle hv1 hv2 hx hTb' hH ham fun a' c' d' h => hrec _ hTb' rfl ⟨a', c', d', rfl, h⟩
  · have ham : a = m := by omega
    unfold Z137 Join; dsimp only; refine ⟨fun z => absurd z (by simp), fun _ => ?_⟩; rw [hn, hS.mI, decide_eq_true (show (a : Int) = (m : Int) by omega)]; exact hΦ
end
theorem q246 (x0 : q12) (_ : Rg.rg x0) : Z141 x0 fun y => y = true := by
  refine q682 (fun t hc hw => q618 hc hw ⟨fun _ => rfl, fun q => absurd (by simp) q⟩) fun hX => ?_; have hT := hX.tr; by_cases hsum : sumN (wX x0) 0 x0.Ticks.length ≤ 200
  · rw [decide_eq_true hsum]
    refine q453 hT (fun e he => ⟨fun q => absurd rfl q, fun _ => ⟨fun q => absurd rfl q, fun _ => ?_⟩⟩) fun _ => ⟨fun _ => rfl, fun _ => ⟨fun _ => rfl, fun q => absurd (show (21 : Int) ≠ 0 by omega) q⟩⟩
    have J0 : ∀ s : List Int × List Int × Int × Int × Int × Int × List Int × List q8 × Int × List q11 × List (List Sec) × List (List Sec) × Int × Int × Int × List Int × List Int × List Int × List Bool × List (List (List Sec)) × List Int, Z140 x0 (trX x0, true) (planV (perX x0) (latX x0) (appX x0) (cycN x0.Ticks.length (perX x0)) e, 0) (fun y => y = true) (false, s) := fun s => ⟨fun _ => rfl, fun q => absurd (by simp) q⟩
    unfold Join; refine q67 (fun hz => ?_) fun hz => ?_
    · refine q231 ?_
      have eo : openR x0.Sizes 1 0 = (⟨0, x0.Sizes, [0], [], []⟩, 0) := by
        unfold openR; rw [if_neg (fun q => q hz), if_neg (by omega), if_neg (by omega)]; rfl
      rw [eo]; refine q150 1 100 0 (o := (⟨100, [], [0], [false]⟩, 0)) (by kernel_rfl) ⟨fun _ => ⟨fun _ => ?_, fun q => absurd rfl q⟩, fun q => absurd rfl q⟩; refine ⟨fun q => absurd rfl q, fun _ => q425 ⟨fun _ => rfl, fun q => absurd (by simp) q⟩ fun _ => ⟨fun q => absurd rfl q, fun _ => ?_⟩⟩; have es := q169 hz; have h8 := (q37 hz).2; have h24 := hX.n24; refine LoopW.upI x0.Ticks.length (fun k => (k : Int)) (fun k => ∀ i : Nat, i < k → ∀ w ∈ ix x0.Ticks (i : Int), fitW x0.Sizes w = 0) rfl (fun i hi => absurd hi (Nat.not_lt_zero i)) (fun k rec hk hI hr => ?_) fun rec hI => ?_
      · have hfew := hX.few k hk
        refine ⟨fun q => ⟨iX (by omega) q, q314 (by rw [← q39, es]; omega) (by omega) (fun w hw => by have := hfew.2 w hw; omega) (fun _ hf => ⟨fun z => absurd rfl z, fun _ => ⟨iI (by omega) (by omega), hr (fun i hi => ?_) _ rfl⟩⟩) fun o i er her => ⟨fun _ => rfl, fun z => absurd her z⟩⟩, fun q => absurd (show (k : Int) < (x0.Ticks.length : Int) by omega) q⟩; rcases Nat.lt_or_ge i k with c | c
        · exact hI i c
        · obtain rfl : i = k := by omega
          rw [es] at hf; exact hf
      · obtain ⟨E, hS, hle⟩ := q529 hX hsum hz hI he
        have hP0 := hT.P0; have hP6 := hT.P6; have eP : (trX x0).Period = (perX x0 : Int) := rfl; refine ⟨fun q => absurd (show (x0.Ticks.length : Int) < (x0.Ticks.length : Int) from q) (by omega), fun _ => ⟨?_, ?_, ?_, ?_⟩⟩
        · show inI ((x0.Ticks.length : Int) + (perX x0 : Int)); exact iI (by omega) (by omega)
        · show inI ((x0.Ticks.length : Int) + (perX x0 : Int) - 1); exact iI (by omega) (by omega)
        · show 0 ≤ (x0.Ticks.length : Int) + (perX x0 : Int) - 1 ∧ inI ((x0.Ticks.length : Int) + (perX x0 : Int) - 1) ∧ (0 : Int) < (perX x0 : Int)
          exact ⟨by omega, iI (by omega) (by omega), by omega⟩
        · exact q688 hS hT he hle rfl rfl rfl rfl
    · refine q231 (q150 1 100 0 (o := (⟨100, [], [0], [false]⟩, 0)) (by kernel_rfl) ⟨fun q => absurd q hz, fun _ => J0 _⟩)
  · rw [decide_eq_false hsum]
    exact q453 hT (fun e he => ⟨fun _ => rfl, fun q => absurd (by simp) q⟩) fun _ => ⟨fun _ => rfl, fun q => absurd (by simp) q⟩
end
end Go.Proofs.YtklnkmdgajiebaaGreat
namespace Go.Proofs.YtklnkmdgajiebaaGreat
open Go.RowKit Go.ChangeShapes Go.WideShapes Go.ChangeAt
set_option maxRecDepth 100000 in
theorem q181 (os : Os) (started : os.Started) (H : Type) (enc : TypeId × Value → H) :
    ReturnsInHanded {} Tryz.checked os 4 .any (Rows.topPlanCoversSpec.pre6 enc Tryz.prog Tryz.f4 Rows.topPlanCoversRow.domain false) (Rows.topPlanCoversSpec.post enc Tryz.prog Tryz.f4 false true false false) := by
  refine returnsInHanded_of_change (C := Tryz.checked) Tryz.own started (by kernel_rfl) Tryz.func4
    (ChangeSpec.witness6 (enc := enc) (C := Tryz.checked) false ⟨#[], #[.agg #[.slice none 0 0, .int .u8 (0), .int .u8 (0), .int .u8 (0), .slice none 0 0, .slice none 0 0]], []⟩ 8 (by kernel_rfl) (by kernel_rfl) (by kernel_rfl) (by kernel_rfl)) ?_
  intro W base args ds gs before hval0 hW _ _; have hval : ∀ (j : Nat) t v, Tryz.f4.params[j]? = some t → args[j]? = some v → Value.okWide Tryz.prog W .any base t v := hval0; have hW' := hW; obtain ⟨p, q, hA0, hV, hpq, _, _⟩ := hW; have hA : DataW.TrodAll enc Tryz.prog W 0 (fun _ => true) true Tryz.f4.params.toList args.toList ds p := hA0; rw [Tryz.params4] at hA hval; obtain ⟨v0, d0, rfl, rfl, h0⟩ := trodAll_one hA; obtain ⟨rfl, rfl⟩ := trodVars_none hV; obtain ⟨ks0, x0, rfl, hr0, hg0⟩ := q539 Tryz.underlying26 rd26 (hval 0 26 v0 rfl rfl) h0; refine Calls.mono ((RetP.toV (y := true) (F := fun z => .bool z) (RetP.mono (ok4 (x0, ()) (fun y => y.1 = true) (q246 x0 hg0) (HW W) [.agg ks0.toArray] trivial ⟨_, ks0, _, rfl, by rw [pkw26], (show Dt.rd (α := q12) (HW W) _ _ from hr0), rfl⟩) fun _ _ _ _ ⟨y, hy, hr⟩ => lawRes y hy hr)) W fun b o e => e) ?_
  rintro e W' ⟨v, _, rfl, _, _, _, hb, rfl⟩
  exact ⟨_, rfl, q641 Tryz.laidOut Tryz.underlying4 rfl (by kernel_rfl) hW' rfl rfl hb⟩
theorem topPlanCovers_holds : Rows.TopPlanCoversSaid :=
  OpenClaim.holds_of_wide 4 Tryz.f4 rfl rfl rfl rfl rfl rfl rfl ⟨rfl, rfl, rfl, rfl, rfl⟩ rfl rfl rfl rfl rfl (by kernel_rfl) Tryz.func4 (by kernel_rfl)
    (of_decide_eq_true (by kernel_rfl)) (by unfold Func.isWrapper; first | (rw [if_pos (by decide +kernel)]; kernel_rfl) | (rw [if_neg (by decide +kernel)]; exact ⟨rfl, rfl⟩))
    (fun os started H enc _ => q181 os started H enc)
end Go.Proofs.YtklnkmdgajiebaaGreat
