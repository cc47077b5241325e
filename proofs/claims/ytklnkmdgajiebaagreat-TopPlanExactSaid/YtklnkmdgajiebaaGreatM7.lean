/- Proved: the tied card of the statement TopPlanExact: for every argument that can be read the law returns true and leaves its arguments as they were. Conditions: the row's own alone. -/
import Derived.Lib.TrailingZeros
import Derived.Shelf.SlicesG.Cmp
import Derived.Shelf.SlGeneric
import Derived.Ground.SlgcProg
import Derived.Ground.SlgmProg
import Derived.Ground.SlsfProg
import Derived.Shelf.SortM.Plain
import Derived.Shelf.SortM.SortNone
import Derived.Test.YtklnkmdgajiebaaGreatM6
namespace Go.Proofs.YtklnkmdgajiebaaGreat
open Go.RowKit
section
def mostF : List Int := [4096, 4096, 4096, 4096, 4096, 4096, 4096, 4096]
theorem q187 {Φ : List Int → Prop} (h : Φ mostF) : q59 Φ := q241 (o := mostF) (by kernel_rfl) h
structure q419 (c : q11) : Prop where
  pos : c.Positions.length ≤ 100000
  len : c.Writes.length ≤ 100000
  data : ∀ w ∈ c.Writes, w.Data.length ≤ 100000
  chk : cycE c mostF = 0
theorem q177 {l : List Bool} {Φ : List Bool → Prop} (hl : l.length ≤ 1000000) (hΦ : Φ l) : Z99 l Φ :=
  ⟨fun h => (by subst h; exact hΦ), iL hl (by omega), hΦ⟩
theorem q122 {c : q11} {Φ : q11 → Prop} (h : q419 c) (hΦ : Φ c) : Z101 c Φ := by
  have hp := h.pos; have hl := h.len; refine q24 (by omega) ⟨by omega, iL (by omega) (by omega), ?_⟩; refine LoopW.upT c.Writes.length (fun k => ((k : Int), c.Writes.take k)) rfl (fun k rec hk hr => ⟨fun _ => ⟨iX (by omega) (by omega), ?_⟩, fun q => absurd (show (k : Int) < (c.Writes.length : Int) by omega) q⟩) fun rec => ⟨fun q => absurd (show (c.Writes.length : Int) < (c.Writes.length : Int) from q) (by omega), fun _ => ?_⟩
  · refine q63 (by have := h.data _ (q92 (iX (i := (k : Int)) (by omega) (by omega))); omega) ⟨iL (by rw [q17, lenT (by omega)]; omega) (by omega), iI (by omega) (by omega), hr _ (pairE rfl ?_)⟩
    exact (q88 hk).symm
  · rw [q60]; exact hΦ
theorem q621 {f : q12} {Φ : q12 → Prop} (hk : ∀ c ∈ f.Kept, q419 c) (h1 : f.Kept.length ≤ 1000) (h2 : f.Applied.length ≤ 1000) (h3 : f.Lost.length ≤ 1000) (hΦ : Φ f) : Z103 f Φ := by
  refine ⟨(f.Applied, ()), q24 (by omega) rfl, (f.Lost, ()), q177 (by omega) rfl, ?_⟩; refine LoopW.upT f.Kept.length (fun k => ((k : Int), f.Kept.take k)) rfl (fun k rec hk' hr => ⟨fun _ => ⟨iX (by omega) (by omega), (ix f.Kept (k : Int), ()), q122 (hk _ (q92 (iX (by omega) (by omega)))) rfl, iL (by rw [q17, lenT (by omega)]; omega) (by omega), iI (by omega) (by omega), hr _ (pairE rfl (q88 hk').symm)⟩, fun q => absurd (show (k : Int) < (f.Kept.length : Int) by omega) q⟩) fun rec => ⟨fun q => absurd (show (f.Kept.length : Int) < (f.Kept.length : Int) from q) (by omega), fun _ => ?_⟩
  rw [q60]; exact hΦ
def oldS (a : List Int) (l : List Bool) : Nat → Int
  | 0 => -1
  | k + 1 => if ix l (k : Int) = true then oldS a l k else if oldS a l k < 0 then ix a (k : Int) else if ix a (k : Int) < oldS a l k then ix a (k : Int) else oldS a l k
theorem q622 {f : q12} {Φ : Int → Prop} (hl : f.Lost.length = f.Applied.length) (hn : f.Applied.length ≤ 1000) (hΦ : Φ (oldS f.Applied f.Lost f.Applied.length)) : Z92 f Φ := by
  refine LoopW.upT f.Applied.length (fun k => (oldS f.Applied f.Lost k, (k : Int))) rfl (fun k rec hk hr => ⟨fun _ => ⟨iX (by omega) (by omega), iX (by omega) (by omega), fun h => ?_, fun h => ⟨iI (by omega) (by omega), hr _ (pairE ?_ rfl)⟩⟩, fun q => absurd (show (k : Int) < (f.Applied.length : Int) by omega) q⟩) fun rec => ⟨fun q => absurd (show (f.Applied.length : Int) < (f.Applied.length : Int) from q) (by omega), fun _ => hΦ⟩
  · refine ⟨fun g => ⟨iI (by omega) (by omega), hr _ (pairE ?_ rfl)⟩, fun g => ⟨iI (by omega) (by omega), hr _ (pairE ?_ rfl)⟩⟩
    · show _ = oldS f.Applied f.Lost (k + 1)
      rw [oldS.eq_2, if_neg h, if_pos g]
    · show _ = oldS f.Applied f.Lost (k + 1)
      rw [oldS.eq_2, if_neg h, if_neg g]
  · show oldS f.Applied f.Lost k = oldS f.Applied f.Lost (k + 1)
    rw [oldS.eq_2, if_pos (Classical.not_not.1 h)]
def mxS (a : List Int) : Nat → Int
  | 0 => ix a 0
  | k + 1 => if mxS a k < ix a ((k + 1 : Nat) : Int) then ix a ((k + 1 : Nat) : Int) else mxS a k
theorem q382 {a : List Int} {Φ : Int → Prop} (h1 : 1 ≤ a.length) (hn : a.length ≤ 1000) (hΦ : Φ (mxS a (a.length - 1))) : Z85 a Φ := by
  refine ⟨fun q => absurd q (by omega), fun _ => ⟨iX (by omega) (by omega), ?_⟩⟩; refine LoopW.upT (a.length - 1) (fun k => (mxS a k, ((k + 1 : Nat) : Int))) rfl (fun k rec hk hr => ⟨fun _ => ⟨iX (by omega) (by omega), iI (by omega) (by omega), hr _ (pairE rfl rfl)⟩, fun q => absurd (show ((k + 1 : Nat) : Int) < (a.length : Int) by omega) q⟩) fun rec => ⟨fun q => absurd (show ((a.length - 1 + 1 : Nat) : Int) < (a.length : Int) from q) (by omega), fun _ => hΦ⟩
def seg (Y : Nat → q11) (b n : Nat) : List q11 := tabL n fun k => Y (b + k)
structure CycY (Y : Nat → q11) (k : Nat) : Prop where
  base : (Y k).Base = (k : Int)
  num : (Y k).Number = (k : Int) + 1
  keep : q419 (Y k)
theorem q197 (Y : Nat → q11) (b n : Nat) : (seg Y b n).length = n := q14 _ _
theorem q337 {Y : Nat → q11} {b n k : Nat} (h : k < n) : ix (seg Y b n) (k : Int) = Y (b + k) := q38 h
theorem mem_seg {Y : Nat → q11} {b n : Nat} {c : q11} (h : c ∈ seg Y b n) : ∃ k, k < n ∧ c = Y (b + k) := by
  unfold seg tabL at h; obtain ⟨k, hk, e⟩ := List.mem_map.1 h; exact ⟨k, List.mem_range.1 hk, e.symm⟩
section
variable {Y : Nat → q11} {b m : Nat} {a : Nat → Nat} {l : Nat → Bool}
theorem q420 {c : q11} {Φ : Int → Prop} (h : q419 c) (hΦ : Φ 0) : q44 c mostF Φ := by
  have h1 := h.pos; have h2 := h.len; exact q185 (by omega) (by omega) (fun w hw => by have := h.data w hw; omega) (by rw [h.chk]; exact hΦ)
theorem sub_seg {Y : Nat → q11} {b n k : Nat} (h : k ≤ n) : sub (seg Y b n) (k : Int) (n : Int) = seg Y (b + k) (n - k) := by
  refine q220 (by unfold sub; rw [List.length_take, List.length_drop, q197, q197]; omega) fun i hi => ?_; have hl : (sub (seg Y b n) (k : Int) (n : Int)).length = n - k := by unfold sub; rw [List.length_take, List.length_drop, q197]; omega
  rw [hl] at hi; rw [q337 hi, q500]; unfold sub; have e1 : ((k : Int)).toNat = k := by omega
  have e2 : ((n : Int) - (k : Int)).toNat = n - k := by omega
  rw [e1, e2, List.getD_eq_getElem?_getD, List.getElem?_take_of_lt hi, List.getElem?_drop, ← List.getD_eq_getElem?_getD, ← q500, q337 (by omega), Nat.add_assoc]
end
theorem q683 (Y : Nat → q11) (b n : Nat) : seg Y b n ++ [Y (b + n)] = seg Y b (n + 1) := (q61 n fun k => Y (b + k)).symm
theorem q311 {im : List (List Sec)} {c : q11} {Φ : List (List Sec) × Int → Prop} (hi : im.length ≤ 100000) (hp : c.Positions.length ≤ 100000) (hl : c.Writes.length ≤ 100000) (hd : ∀ w ∈ c.Writes, w.Data.length ≤ 1000000) (hΦ : Φ (appR im c)) : q95 im c Φ := by
  unfold appR at hΦ; refine q120 hi ⟨fun q => by rw [if_pos q] at hΦ; exact hΦ, fun q => ?_⟩; rw [if_neg q] at hΦ; refine LoopW.upT im.length (fun k => ((k : Int), (im.take k).map fun v => (v.length : Int))) rfl (fun k rec hk hr => ⟨fun _ => ⟨iX (by omega) (by omega), iL (by rw [q17, List.length_map, lenT (by omega)]; omega) (by omega), iI (by omega) (by omega), hr _ (by rw [q145 _ hk]; rfl)⟩, fun _ => by omega⟩) fun rec => ⟨fun _ => by omega, fun _ => ?_⟩
  rw [q60]; show q44 c (szs im) _; refine q185 hp hl hd ⟨fun t => by rw [if_pos t] at hΦ; exact hΦ, fun t => ?_⟩; rw [if_neg t] at hΦ; exact q184 (by omega) (Classical.not_not.1 q) (wrs_fit (q672 (Classical.not_not.1 t))) hΦ
end
section
def fan1 (Y : Nat → q11) (a m : Nat) : q12 := ⟨100, seg Y a (m - a), [(a : Int)], [false]⟩
section
variable {Y : Nat → q11} {a m : Nat}
theorem q123 (Y : Nat → q11) (a m : Nat) : (fan1 Y a m).Kept.length = m - a := q197 _ _ _
theorem f1_ix {k : Nat} (hk : k < m - a) : ix (fan1 Y a m).Kept (k : Int) = Y (a + k) := q337 hk
theorem q623 {L : Int} {K : List q11} {Φ : Int → Prop} (hΦ : Φ (a : Int)) : Z92 ⟨L, K, [(a : Int)], [false]⟩ Φ :=
  q622 rfl (show (1 : Nat) ≤ 1000 by omega) hΦ
theorem q624 (hY : ∀ k, a ≤ k → k < m → CycY Y k) (h : a ≤ m) (hm : m ≤ 1000) {Φ : Int → Prop} (hΦ : Φ (m : Int)) : Z86 (fan1 Y a m) Φ := by
  have e : ((fan1 Y a m).Kept.length : Int) = (m - a : Nat) := by rw [q123]
  refine ⟨fun q => ?_, fun q => ?_⟩
  · rw [e] at q ⊢
    refine ⟨iI (by omega) (by omega), iX (by omega) (by rw [q123]; omega), ?_⟩; have e2 : ((m - a : Nat) : Int) - 1 = ((m - a - 1 : Nat) : Int) := by omega
    rw [e2, f1_ix (by omega), (hY (a + (m - a - 1)) (by omega) (by omega)).num]; have e3 : ((a + (m - a - 1) : Nat) : Int) + 1 = (m : Int) := by omega
    rw [e3]; exact hΦ
  · rw [e] at q
    refine q382 (show 1 ≤ 1 by omega) (show 1 ≤ 1000 by omega) ?_; show Φ (a : Int); rw [show a = m by omega]; exact hΦ
theorem q305 (hY : ∀ k, a ≤ k → k < m → CycY Y k) (h : a ≤ m) (hm : m ≤ 1000) {n : Nat} {Φ : Bool → Prop} (hΦ : Φ (decide (a < n ∧ n ≤ m))) : Z88 (fan1 Y a m) (n : Int) Φ := by
  have e : ((fan1 Y a m).Kept.length : Int) = (m - a : Nat) := by rw [q123]
  refine LoopW.findI (m - a) (fun k => decide (a + k + 1 = n)) (fun k rec hk hn hr => ?_) fun rec hn => ?_
  · have en : (ix (fan1 Y a m).Kept (k : Int)).Number = ((a + k : Nat) : Int) + 1 := by
      rw [f1_ix hk, (hY (a + k) (by omega) (by omega)).num]
    refine ⟨fun _ => ⟨iX (by omega) (by rw [q123]; omega), fun q => ?_, fun q => ⟨iI (by omega) (by omega), hr (decide_eq_false (by rw [en] at q; omega))⟩⟩, fun q => absurd (by omega) q⟩; rw [en] at q; rw [decide_eq_true (by omega : (0 : Int) ≤ (k : Int))]; rwa [decide_eq_true (by omega : a < n ∧ n ≤ m)] at hΦ
  · refine ⟨fun q => absurd q (by omega), fun _ => ?_⟩
    rw [decide_eq_false (by omega)]; rwa [decide_eq_false (fun q => by have := hn (n - a - 1) (by omega); simp at this; omega)] at hΦ
theorem q453 (hY : ∀ k, a ≤ k → k < m → CycY Y k) (h : a ≤ m) (hm : m ≤ 1000) {n : Nat} {Φ : Bool → Prop} (h1 : a ≤ n) (h2 : n ≤ m) (hΦ : Φ true) : Z89 (fan1 Y a m) (n : Int) Φ := by
  have e : ((fan1 Y a m).Kept.length : Int) = (m - a : Nat) := by rw [q123]
  refine q624 hY h hm ⟨fun _ => hΦ, fun q => q305 hY h hm ⟨fun _ => hΦ, fun g => ⟨fun r => ⟨iX (by omega) (by rw [q123]; omega), ?_⟩, fun r => ?_⟩⟩⟩
  · have g : ¬ (a < n ∧ n ≤ m) := by simpa using g
    rw [decide_eq_true]
    · exact hΦ
    · show (ix (fan1 Y a m).Kept ((0 : Nat) : Int)).Base = (n : Int)
      rw [f1_ix (by omega), (hY (a + 0) (by omega) (by omega)).base]; omega
  · have g : ¬ (a < n ∧ n ≤ m) := by simpa using g
    rw [e] at r; omega
theorem q625 (hY : ∀ k, a ≤ k → k < m → CycY Y k) (hm : m ≤ 1000) {Φ : q12 → Prop} (hΦ : Φ (fan1 Y a m)) : Z103 (fan1 Y a m) Φ :=
  q621 (fun c hc => by
    obtain ⟨k, hk, rfl⟩ := mem_seg hc
    exact (hY (a + k) (by omega) (by omega)).keep) (by rw [q123]; omega) (show 1 ≤ 1000 by omega) (show 1 ≤ 1000 by omega) hΦ
theorem q516 (hY : ∀ k, a ≤ k → k < m → CycY Y k) (h : a ≤ m) (hlen : m ≤ a + 100) (hm : m ≤ 1000) {Φ : Int → Prop} (hΦ : Φ 0) : Z98 (fan1 Y a m) Φ := by
  have ek := q123 Y a m; have ix0 : ix (fan1 Y a m).Applied ((0 : Nat) : Int) = (a : Int) := rfl; have ix1 : ix (fan1 Y a m).Lost ((0 : Nat) : Int) = false := rfl; refine ⟨fun q => absurd (show (1 : Int) < 1 from q) (by omega), fun _ => ⟨fun q => absurd (show (4 : Int) < 1 from q) (by omega), fun _ => ?_⟩⟩; rw [decide_eq_false (show ¬ (((fan1 Y a m).Lost.length : Int) ≠ ((fan1 Y a m).Applied.length : Int)) from fun q => q rfl)]; refine ⟨fun q => absurd q (by simp), fun _ => ⟨fun q => absurd (show (100 : Int) < 1 from q) (by omega), fun _ => ⟨fun q => absurd (show (1024 : Int) < 100 from q) (by omega), fun _ => ?_⟩⟩⟩; refine LoopW.upT 1 (fun k => (k : Int)) rfl (fun k rec hk hr => ⟨fun _ => ⟨iX (by omega) (show (k : Int) < ((1 : Nat) : Int) by omega), ?_⟩, fun q => absurd (show (k : Int) < 1 by omega) q⟩) fun rec => ⟨fun q => absurd (show (1 : Int) < 1 from q) (by omega), fun _ => ?_⟩
  · obtain rfl : k = 0 := by omega
    rw [ix0]; refine ⟨fun _ => ?_, fun q => absurd (show (0 : Int) ≤ (a : Int) by omega) q⟩; rw [decide_eq_true (show (a : Int) ≤ 1073741824 by omega)]; exact ⟨fun q => absurd rfl q, fun _ => ⟨iI (by omega) (by omega), hr _ rfl⟩⟩
  refine ⟨fun q => absurd q (by simp), fun _ => ⟨fun q => absurd (show (100 : Int) < ((fan1 Y a m).Kept.length : Int) from q) (by rw [ek]; omega), fun _ => q187 ?_⟩⟩; refine LoopW.upT (m - a) (fun k => (k : Int)) rfl (fun k rec hk hr => ⟨fun _ => ⟨iX (by omega) (by rw [ek]; omega), ?_⟩, fun q => absurd (show (k : Int) < ((fan1 Y a m).Kept.length : Int) by rw [ek]; omega) q⟩) fun rec => ⟨fun q => absurd (show ((m - a : Nat) : Int) < ((fan1 Y a m).Kept.length : Int) from q) (by rw [ek]; omega), fun _ => ?_⟩
  · have yk := hY (a + k) (by omega) (by omega)
    rw [f1_ix hk]; refine q420 yk.keep ⟨fun q => absurd rfl q, fun _ => ⟨fun q => ⟨iI (by omega) (by omega), iX (by omega) (by rw [ek]; omega), fun r => ?_, fun _ => ⟨iI (by omega) (by omega), hr _ rfl⟩⟩, fun _ => ⟨iI (by omega) (by omega), hr _ rfl⟩⟩⟩; have e : (k : Int) - 1 = ((k - 1 : Nat) : Int) := by omega
    rw [e, f1_ix (by omega), yk.base, (hY (a + (k - 1)) (by omega) (by omega)).num] at r; omega
  refine LoopW.upT 1 (fun k => (k : Int)) rfl (fun k rec hk hr => ⟨fun _ => ⟨iX (by omega) (show (k : Int) < ((1 : Nat) : Int) by omega), q624 hY h hm ?_⟩, fun q => absurd (show (k : Int) < 1 by omega) q⟩) fun rec => ⟨fun q => absurd (show (1 : Int) < 1 from q) (by omega), fun _ => ?_⟩
  · obtain rfl : k = 0 := by omega
    rw [ix0]; refine ⟨fun q => absurd q (by omega), fun _ => ⟨iX (by omega) (show (0 : Int) < ((1 : Nat) : Int) by omega), fun q => ?_, fun _ => ⟨iI (by omega) (by omega), hr _ rfl⟩⟩⟩; exact q453 hY h hm (Nat.le_refl _) h ⟨fun r => absurd rfl r, fun _ => ⟨iI (by omega) (by omega), hr _ rfl⟩⟩
  · refine ⟨fun q => ⟨((a : Int), ()), q623 rfl, iX (by omega) q, fun r => ?_, fun _ => hΦ⟩, fun _ => hΦ⟩
    rw [ek] at q; have e : ix (fan1 Y a m).Kept 0 = Y a := f1_ix (k := 0) (by omega); rw [e, (hY (a) (by omega) (by omega)).base] at r; exact absurd rfl r
theorem q720 (hY : ∀ k, a ≤ k → k < m → CycY Y k) (h : a ≤ m) (hlen : m ≤ a + 100) (hm : m ≤ 1000) {Φ : Int → Prop} (hΦ : Φ 0) : Z112 (fan1 Y a m) 0 Φ :=
  q516 hY h hlen hm ⟨fun q => absurd rfl q, fun _ => ⟨fun q => absurd q (by omega), fun _ => ⟨fun q => absurd (show (1 : Int) ≤ 0 from q) (by omega), fun _ => hΦ⟩⟩⟩
theorem f1_next (hY : ∀ k, a ≤ k → k < m → CycY Y k) (h : a < m) (hlen : m ≤ a + 100) (hm : m ≤ 1000) {Φ : q11 × Bool → Prop} (hΦ : Φ (Y a, true)) : q143 (fan1 Y a m) 0 Φ := by
  have ek := q123 Y a m; refine q720 hY (by omega) hlen hm ⟨fun q => absurd rfl q, fun _ => ⟨iX (by omega) (show (0 : Int) < ((1 : Nat) : Int) by omega), fun q => (by cases q), fun _ => ?_⟩⟩; refine LoopW.upT 0 (fun k => (k : Int)) rfl (fun k _ hk => absurd hk (Nat.not_lt_zero k)) fun rec => ⟨fun _ => ⟨iX (by omega) (by rw [ek]; omega), iX (by omega) (show (0 : Int) < ((1 : Nat) : Int) by omega), fun r => ?_, fun r => ?_⟩, fun r => absurd (show (0 : Int) < ((fan1 Y a m).Kept.length : Int) by rw [ek]; omega) r⟩
  · have e : ix (fan1 Y a m).Kept ((0 : Nat) : Int) = Y a := f1_ix (k := 0) (by omega)
    rw [e]; exact q122 (hY a (by omega) (by omega)).keep hΦ
  · have e : ix (fan1 Y a m).Kept ((0 : Nat) : Int) = Y a := f1_ix (k := 0) (by omega)
    rw [e, (hY (a) (by omega) (by omega)).num] at r; exact absurd (show (a : Int) < (a : Int) + 1 by omega) r
theorem f1_tidy (hY : ∀ k, a ≤ k → k < m → CycY Y k) {n : Nat} (h1 : a ≤ n) (h2 : n ≤ m) (hm : m ≤ 1000) {Φ : q12 → Prop} (hΦ : Φ (fan1 Y n m)) : q96 ⟨100, seg Y a (m - a), [(n : Int)], [false]⟩ Φ := by
  have el : (seg Y a (m - a)).length = m - a := q197 _ _ _
  have fo : Z116 ⟨100, seg Y a (m - a), [(n : Int)], [false]⟩ Φ ((n - a : Nat) : Int) := by
    refine ⟨iS (by omega) (by show ((n - a : Nat) : Int) ≤ ((seg Y a (m - a)).length : Int); rw [el]; omega) (Int.le_refl _), ?_⟩; show Φ ⟨100, sub (seg Y a (m - a)) ((n - a : Nat) : Int) ((seg Y a (m - a)).length : Int), _, _⟩; rw [el, sub_seg (by omega), show a + (n - a) = n by omega, show m - a - (n - a) = m - n by omega]; exact hΦ
  refine q623 ?_; refine LoopW.upI (m - a) (fun k => (k : Int)) (fun k => a + k ≤ n) rfl (by omega) (fun k rec hk hI hr => ⟨fun _ => ⟨iX (by omega) (by rw [el]; omega), fun _ => ?_, fun q => absurd (show (0 : Int) ≤ (n : Int) by omega) q⟩, fun q => absurd (show (k : Int) < ((seg Y a (m - a)).length : Int) by rw [el]; omega) q⟩) fun rec hI => ⟨fun q => absurd (show ((m - a : Nat) : Int) < ((seg Y a (m - a)).length : Int) from q) (by rw [el]; omega), fun _ => ⟨fun _ => ?_, fun q => absurd (show (-1 : Int) < 0 by omega) q⟩⟩
  · have e : (ix (seg Y a (m - a)) (k : Int)).Number = ((a + k : Nat) : Int) + 1 := by rw [q337 hk]; exact (hY (a + k) (by omega) (by omega)).num
    show Z118 _ (k : Int) rec Φ (decide ((n : Int) < (ix (seg Y a (m - a)) (k : Int)).Number)); rw [e]; by_cases c : n = a + k
    · rw [decide_eq_true (by omega)]
      refine ⟨fun _ => ⟨fun q => absurd q (by omega), fun _ => ?_⟩, fun q => absurd rfl q⟩; rw [show ((k : Nat) : Int) = ((n - a : Nat) : Int) by omega]; exact fo
    · rw [decide_eq_false (by omega)]
      exact ⟨fun q => absurd q (by simp), fun _ => ⟨iI (by omega) (by omega), hr (by omega) _ rfl⟩⟩
  · show Z116 _ Φ ((seg Y a (m - a)).length : Int)
    rw [el, show ((m - a : Nat) : Int) = ((n - a : Nat) : Int) by omega]; exact fo
theorem q527 (hY : ∀ k, a ≤ k → k < m → CycY Y k) {n : Nat} (h : a ≤ m) (hlen : m ≤ a + 100) (hm : m ≤ 1000) (h1 : a ≤ n) (h2 : n ≤ m) {Φ : q12 × Int → Prop} (hΦ : Φ (fan1 Y n m, 0)) : Z121 (fan1 Y a m) 0 (n : Int) Φ := by
  have ix0 : ix (fan1 Y a m).Applied 0 = (a : Int) := rfl; refine q720 hY h hlen hm ⟨fun q => absurd rfl q, fun _ => ⟨iX (by omega) (show (0 : Int) < ((1 : Nat) : Int) by omega), fun q => (by cases q), fun _ => ⟨iX (by omega) (show (0 : Int) < ((1 : Nat) : Int) by omega), fun q => ?_, fun _ => ?_⟩⟩⟩
  · rw [ix0] at q; omega
  · have fin : Z120 (fan1 Y a m) 0 (n : Int) Φ false := by
      refine ⟨fun q => absurd q (by simp), fun _ => q625 hY hm ⟨iX (by omega) (show (0 : Int) < ((1 : Nat) : Int) by omega), ?_⟩⟩; show q96 ⟨100, seg Y a (m - a), [(n : Int)], [false]⟩ _; exact f1_tidy hY h1 h2 hm hΦ
    refine ⟨iX (by omega) (show (0 : Int) < ((1 : Nat) : Int) by omega), fun q => ?_, fun _ => fin⟩; rw [ix0] at q; refine q305 hY h hm ?_; rw [decide_eq_true (by omega : a < n ∧ n ≤ m), decide_eq_false (by simp)]; exact fin
theorem f1_push (hY : ∀ k, a ≤ k → k < m → CycY Y k) (hy : CycY Y m) (h : a ≤ m) (hlen : m + 1 ≤ a + 100) (hm : m + 1 ≤ 1000) {Φ : q12 × List Int × Int → Prop} (hΦ : Φ (fan1 Y a (m + 1), [], 0)) : q142 (fan1 Y a m) (Y m) Φ := by
  refine q516 hY h (by omega) (by omega) ⟨fun q => absurd rfl q, fun _ => q623 ⟨fun q => absurd q (by omega), fun q => ?_⟩⟩; refine ⟨(mostF, ()), q187 rfl, (0, ()), q420 hy.keep rfl, fun r => absurd rfl r, fun _ => ⟨((m : Int), ()), q624 hY h (by omega) rfl, fun r => absurd hy.base r, fun _ => q625 hY (by omega) ⟨(Y m, ()), q122 hy.keep rfl, iL (by rw [q17, q123]; omega) (by omega), ?_⟩⟩⟩
  have es : seg Y a (m - a) ++ [Y m] = seg Y a (m + 1 - a) := by
    have := q683 Y a (m - a); rwa [show a + (m - a) = m by omega, show m - a + 1 = m + 1 - a by omega] at this
  show LoopW (Z111 Φ) (100, seg Y a (m - a) ++ [Y m], [(a : Int)], [], [false]); rw [es]; exact LoopW.upT 0 (fun _ => (100, seg Y a (m + 1 - a), [(a : Int)], [], [false])) rfl (fun k _ hk => absurd hk (Nat.not_lt_zero k)) fun rec => ⟨fun r => absurd (show (100 : Int) < ((seg Y a (m + 1 - a)).length : Int) from r) (by rw [q197]; omega), fun _ => ⟨show (0 : Nat) ≤ 1099511627776 by omega, by rw [show sortI ([] : List Int) = [] from rfl]; exact hΦ⟩⟩
end
end
def capP (sz : List Int) (n : Nat) (p : Int) (l : List q8) : q10 := ⟨(n : Int), sz, [p], List.replicate l.length 0, l⟩
structure OpnQ (sz : List Int) (l : List q8) : Prop where
  len : l.length ≤ 250
  fit : ∀ w ∈ l, fitW sz w = 0
  data : ∀ w ∈ l, w.Data.length ≤ 24
theorem q626 {n k : Nat} (h : k < n) : ix (List.replicate n (0 : Int)) (k : Int) = 0 := by
  rw [q50 (by rw [List.length_replicate]; exact h), List.getElem_replicate]
theorem q627 (n : Nat) : ∀ k : Nat, k ≤ n → cnt (List.replicate n (0 : Int)) 0 k = k
  | 0, _ => rfl
  | k + 1, h => by rw [q378, q627 n k (by omega), q626 (by omega), if_pos rfl]
theorem q383 {least p : Int} (h0 : least ≤ 1) (h1 : 0 ≤ p) (h2 : p ≤ 1073741824) : posR least [p] = 0 := by
  unfold posR; rw [if_neg (by show ¬ ((1 : Int) < least ∨ (8 : Int) < 1); omega)]; refine q33.2 fun k hk => ?_; have hk : k < 1 := hk; obtain rfl : k = 0 := by omega
  show (if p < 0 ∨ 1073741824 < p then 2 else 0) = (0 : Int)
  rw [if_neg (by omega)]
theorem q628 {sz : List Int} (hz : q21 sz = 0) {n : Nat} {p : Int} {l : List q8} (h : OpnQ sz l) (hn : n ≤ 1000) (hp : 0 ≤ p ∧ p ≤ 100000) : cptE (capP sz n p l) = 0 := by
  have hl := h.len; unfold cptE; have e1 : (capP sz n p l).Sizes = sz := rfl; have e2 : (capP sz n p l).Number = (n : Int) := rfl; have e3 : (capP sz n p l).Positions = [p] := rfl; have e4 : (capP sz n p l).Nodes = List.replicate l.length 0 := rfl; have e5 : (capP sz n p l).Writes = l := rfl; rw [e1, e2, e3, e4, e5, if_neg (fun t => t hz), if_neg (by omega), if_neg (fun t => t (q383 (by omega) hp.1 (by omega))), if_neg (by rw [List.length_replicate]; omega)]; refine q33.2 fun k hk => ?_; unfold nodW; rw [e1, e3, e4, e5, q626 hk, if_neg (by show ¬ ((0 : Int) < 0 ∨ (1 : Int) ≤ 0); omega)]; exact h.fit _ (q92 (iX (by omega) (by omega)))
theorem q528 {sz : List Int} (hz : q21 sz = 0) {n : Nat} {p : Int} {l : List q8} (h : OpnQ sz l) : q714 (capP sz n p l) := by
  have hl := h.len; have h8 := (q41 hz).2; exact ⟨by show sz.length ≤ 20; omega, by show 1 ≤ 20; omega, by show (List.replicate l.length (0 : Int)).length ≤ 300; rw [List.length_replicate]; omega, by show l.length ≤ 300; omega, h.data⟩
theorem add_one {sz : List Int} (hz : q21 sz = 0) {n : Nat} {p : Int} {l : List q8} {w : q8} (h : OpnQ sz l) (hn : n ≤ 1000) (hp : 0 ≤ p ∧ p ≤ 100000) (hw : fitW sz w = 0) : addR (capP sz n p l) 0 w = (capP sz n p (l ++ [w]), 0) := by
  have hl := h.len
  have e : addE (capP sz n p l) 0 w = 0 := by
    unfold addE; rw [if_neg (fun t => t (q628 hz h hn hp)), if_neg (by show ¬ ((0 : Int) < 0 ∨ (1 : Int) ≤ 0); omega), if_neg (fun t => t hw), if_neg (by show ¬ 4096 ≤ l.length; omega)]
  unfold addR; rw [if_neg (fun t => t e)]; unfold capP; rw [q17, List.replicate_succ']
def cycY (n i : Nat) (q : Int) (l : List q8) : q11 := ⟨(n : Int), (n : Int) + 1, (i : Int), [q], canL (effM l)⟩
theorem q629 {sz : List Int} (hz : q21 sz = 0) {n i : Nat} {p q : Int} {l : List q8} (h : OpnQ sz l) (hn : n ≤ 1000) (hi : i ≤ 100000) (hp : 0 ≤ p ∧ p ≤ 100000) (hq : q = p + (l.length : Int)) : cloR (capP sz n p l) (i : Int) [q] = (capP sz (n + 1) q [], cycY n i q l, 0) := by
  have hl := h.len; have c0 : ∀ k, k ≤ l.length → cnt (List.replicate l.length (0 : Int)) 0 k = k := fun k hk => q627 _ _ hk
  have hb : badB (capP sz n p l) [q] = false := q333 fun k hk hbad => by
    have hk : k < 1 := hk; obtain rfl : k = 0 := by omega
    unfold badI at hbad; have e1 : ix [q] ((0 : Nat) : Int) = q := rfl; have e2 : ix (capP sz n p l).Positions ((0 : Nat) : Int) = p := rfl
    have e3 : cnt (capP sz n p l).Nodes ((0 : Nat) : Int) (capP sz n p l).Nodes.length = l.length := by
      show cnt (List.replicate l.length (0 : Int)) 0 (List.replicate l.length (0 : Int)).length = _; rw [List.length_replicate]; exact c0 _ (Nat.le_refl _)
    rw [e1, e2, e3] at hbad; omega
  have hE : cloE (capP sz n p l) (i : Int) [q] = 0 := by
    unfold cloE; rw [if_neg (fun t => t (q628 hz h hn hp)), if_neg (by omega), if_neg (by show ¬ (1 ≠ 1); omega), if_neg (by rw [hb]; simp)]
  have hin : ∀ k, k < l.length → inB (capP sz n p l) [q] k = true := fun k hk => by
    unfold inB partF; have e1 : ix (capP sz n p l).Nodes (k : Int) = 0 := q626 hk; rw [e1]; have e2 : dT (capP sz n p l) [q] (0 : Int).toNat = q - p := rfl; have e3 : cnt (capP sz n p l).Nodes 0 k = k := c0 k (by omega); rw [e2, e3]; refine decide_eq_true ?_; unfold pos0; rw [if_neg (by omega)]; omega
  have f1 : (List.range l.length).filter (inB (capP sz n p l) [q]) = List.range l.length := List.filter_eq_self.2 fun k hk => hin k (List.mem_range.1 hk); have f2 : ((List.range l.length).filter fun j => !inB (capP sz n p l) [q] j) = [] := List.filter_eq_nil_iff.2 fun k hk => by rw [hin k (List.mem_range.1 hk)]; simp
  have s1 : selW (capP sz n p l) (inB (capP sz n p l) [q]) (capP sz n p l).Writes.length = l := by
    show ((List.range l.length).filter _).map (fun j : Nat => ix l (j : Int)) = l; rw [f1]; exact q510 l
  have s2 : outN (capP sz n p l) (inB (capP sz n p l) [q]) (capP sz n p l).Writes.length = [] := by
    show ((List.range l.length).filter _).map _ = _; rw [f2]; rfl
  have s3 : outW (capP sz n p l) (inB (capP sz n p l) [q]) (capP sz n p l).Writes.length = [] := by
    show ((List.range l.length).filter _).map _ = _; rw [f2]; rfl
  unfold cloR; rw [if_neg (fun t => t hE), s1, s2, s3]; rfl
theorem q306 {sz : List Int} {l : List q8} (h : OpnQ sz l) : secN l ≤ 6000 := by
  have := q176 l h.data; have := h.len; have := Nat.mul_le_mul_right 24 h.len; omega
structure CycOk (sz : List Int) (k : Nat) (c : q11) : Prop where
  base : c.Base = (k : Int)
  num : c.Number = (k : Int) + 1
  chk : cycE c sz = 0
  pos : c.Positions.length ≤ 20
  len : c.Writes.length ≤ 6000
  data : ∀ w ∈ c.Writes, w.Data.length ≤ 6000
theorem q384 {sz : List Int} (hz : q21 sz = 0) {n i : Nat} {q : Int} {l : List q8} (h : OpnQ sz l) (hn : n ≤ 1000) (hi : i ≤ 100000) (hq : 0 ≤ q ∧ q ≤ 200000) : CycOk sz n (cycY n i q l) := by
  have C := q239 (fun t => t hz) h.fit; have hfit := q446 C (q509 (fun t => t hz) h.fit); have hs := q306 h; have he := q267 l; have hsum := C.sum; refine ⟨rfl, rfl, ?_, by show 1 ≤ 20; omega, ?_, fun w hw => ?_⟩
  · unfold cycE cycY
    simp only; rw [if_neg (fun t => t hz), if_neg (by omega), if_neg (by omega), if_neg (fun t => t (q383 (by omega) hq.1 (by omega)))]; exact q603 C hfit
  · have := can_len C
    show (canL (effM l)).length ≤ 6000; omega
  · have := q605 w hw
    have e : secN (cycY n i q l).Writes = secN (canL (effM l)) := rfl; omega
theorem q630 : q21 mostF = 0 := by decide
theorem q684 {sz : List Int} (hz : q21 sz = 0) {w : q8} (h : fitW sz w = 0) : fitW mostF w = 0 := by
  obtain ⟨h1, h2, h3, h4, h5, h6⟩ := q299 (fun t => t hz) h; have h8 := (q41 hz).2
  have h7 : ix mostF w.Volume = 4096 := by
    rcases (show w.Volume = 0 ∨ w.Volume = 1 ∨ w.Volume = 2 ∨ w.Volume = 3 ∨ w.Volume = 4 ∨ w.Volume = 5 ∨ w.Volume = 6 ∨ w.Volume = 7 by omega) with e | e | e | e | e | e | e | e <;> rw [e] <;> rfl
  unfold fitW; rw [h7, if_neg (by show ¬ (w.Volume < 0 ∨ (8 : Int) ≤ w.Volume); omega), if_neg (by omega), if_neg (by omega)]
theorem keepY {sz : List Int} (hz : q21 sz = 0) {n i : Nat} {q : Int} {l : List q8} (h : OpnQ sz l) (hn : n ≤ 1000) (hi : i ≤ 100000) (hq : 0 ≤ q ∧ q ≤ 200000) : q419 (cycY n i q l) := by
  have c := q384 hz h hn hi hq; have hf : ∀ w ∈ l, fitW mostF w = 0 := fun w hw => q684 hz (h.fit w hw); have C := q239 (fun t => t hz) h.fit; have hfit := q446 C (q509 (fun t => t q630) hf); refine ⟨by have := c.pos; omega, by have := c.len; omega, fun w hw => by have := c.data w hw; omega, ?_⟩; unfold cycE cycY; simp only; rw [if_neg (fun t => t q630), if_neg (by omega), if_neg (by omega), if_neg (fun t => t (q383 (by omega) hq.1 (by omega)))]; exact q603 C hfit
theorem q631 {sz : List Int} (hz : q21 sz = 0) {im : List (List Sec)} (h : szs im = sz) : imgE im = 0 := by unfold imgE; rw [h]; exact hz
theorem applyY {sz : List Int} (hz : q21 sz = 0) {im : List (List Sec)} {n i : Nat} {q : Int} {l : List q8} (hs : szs im = sz) (h : OpnQ sz l) (hn : n ≤ 1000) (hi : i ≤ 100000) (hq : 0 ≤ q ∧ q ≤ 200000) : appR im (cycY n i q l) = (appL im l, 0) := by
  have c := (q384 hz h hn hi hq).chk; unfold appR; rw [if_neg (fun t => t (q631 hz hs)), hs, if_neg (fun t => t c)]; show (appL im (canL (effM l)), (0 : Int)) = _; rw [q671 (by rw [hs]; exact fun t => t hz) fun w hw => by rw [hs]; exact h.fit w hw]
theorem q632 {sz : List Int} (hz : q21 sz = 0) {im : List (List Sec)} {l : List q8} (hs : szs im = sz) (h : OpnQ sz l) : szs (appL im l) = sz :=
  (q175 (by rw [hs]; exact fun t => t hz) fun w hw => by rw [hs]; exact h.fit w hw).trans hs
section
theorem q529 {l : List Sec} {Φ : Bool → Prop} (hl : l.length ≤ 1000000) (hΦ : Φ true) : Z123 l l Φ :=
  ⟨fun h => absurd rfl h, fun _ => LoopW.upT l.length (fun k => (k : Int)) rfl (fun k rec hk hr => ⟨fun hlt => ⟨iX (by omega) hlt, iX (by omega) hlt, fun q => absurd rfl q, fun _ => ⟨iI (by omega) (by omega), hr _ rfl⟩⟩, fun r => absurd (show (k : Int) < (l.length : Int) by omega) r⟩) fun rec => ⟨fun r => absurd r (by omega), fun _ => hΦ⟩⟩
theorem q633 {im : List (List Sec)} {Φ : Bool → Prop} (hi : imgE im = 0) (hΦ : Φ true) : q116 im im Φ := by
  have sm := q596 (im := im) (by rw [show q21 (szs im) = 0 from hi]; simp); exact ⟨fun h => absurd rfl h, fun _ => LoopW.upT im.length (fun k => (k : Int)) rfl (fun k rec hk hr => ⟨fun hlt => ⟨iX (by omega) hlt, iX (by omega) hlt, q529 (by have := (sm.2.2 k hk).2; omega) ⟨fun t => absurd rfl t, fun _ => ⟨iI (by omega) (by omega), hr _ rfl⟩⟩⟩, fun r => absurd (show (k : Int) < (im.length : Int) by omega) r⟩) fun rec => ⟨fun r => absurd r (by omega), fun _ => hΦ⟩⟩
def catL (L : List (List q8)) (a : Nat) : Nat → List q8
  | 0 => []
  | j + 1 => catL L a j ++ ix L ((a + j : Nat) : Int)
theorem q385 (L : List (List q8)) (a i : Nat) : ∀ j, catL L a (i + j) = catL L a i ++ catL L (a + i) j
  | 0 => by show catL L a i = catL L a i ++ []; rw [List.append_nil]
  | j + 1 => by
    show catL L a (i + j) ++ ix L ((a + (i + j) : Nat) : Int) = catL L a i ++ (catL L (a + i) j ++ ix L ((a + i + j : Nat) : Int))
    rw [q385 L a i j, List.append_assoc, Nat.add_assoc a i j]
theorem q634 (L : List (List q8)) (a : Nat) {i j : Nat} (h : i ≤ j) : (catL L a i).length ≤ (catL L a j).length := by
  have := q385 L a i (j - i); rw [show i + (j - i) = j by omega] at this; rw [this, List.length_append]; omega
theorem q269 {L : List (List q8)} {a : Nat} {w : q8} : ∀ {j : Nat}, w ∈ catL L a j → ∃ i, a ≤ i ∧ i < a + j ∧ w ∈ ix L (i : Int)
  | 0, h => by cases h
  | j + 1, h => by
    rcases List.mem_append.1 h with h | h
    · obtain ⟨i, h1, h2, h3⟩ := q269 h
      exact ⟨i, h1, by omega, h3⟩
    · exact ⟨a + j, by omega, by omega, h⟩
def wN (L : List (List q8)) (j : Nat) : Nat := (catL L 0 j).length
theorem q721 (L : List (List q8)) (i j : Nat) : wN L (i + j) = wN L i + (catL L i j).length := by
  unfold wN; rw [q385, List.length_append, Nat.zero_add]
def bm (n P c : Nat) : Nat := if c * P < n then c * P else n
def cwL (L : List (List q8)) (n P k : Nat) : List q8 := catL L (k * P) (lenK n P k)
def sgL (L : List (List q8)) (n P k : Nat) : Nat := secN (canL (effM (cwL L n P k)))
def imQ (L : List (List q8)) (sz : List Int) (n P : Nat) : Nat → List (List Sec)
  | 0 => zeroI sz
  | k + 1 => appL (imQ L sz n P k) (cwL L n P k)
def cyL (L : List (List q8)) (n P k : Nat) : q11 := cycY k ((k + 1) * P) (wN L (bm n P (k + 1)) : Int) (cwL L n P k)
structure SimOk (L : List (List q8)) (sz C : List Int) (P la ap n m : Nat) (E : Nat → Nat) : Prop where
  n_eq : L.length = n
  m_eq : m = cycN n P
  n24 : n ≤ 24
  P0 : 0 < P
  P6 : P ≤ 6
  l4 : la ≤ 4
  a3 : ap ≤ 3
  lnk : LnkOk C
  hz : q21 sz = 0
  fit : ∀ i : Nat, i < n → ∀ w ∈ ix L (i : Int), fitW sz w = 0 ∧ w.Data.length ≤ 24
  few : ∀ k, k < m → (cwL L n P k).length ≤ 250
  all : wN L n ≤ 100000
  fin : FinE C (sgL L n P) P m E
  Eb : ∀ k, k < m → E k ≤ 1000
section
variable {L : List (List q8)} {sz C : List Int} {P la ap n m : Nat} {E : Nat → Nat}
theorem SimOk.kP (h : SimOk L sz C P la ap n m E) {k : Nat} (hk : k < m) : k * P < n ∧ (k + 1) * P ≤ 29 ∧ (k + 1) * P = k * P + P := by
  have h1 := (q121 h.P0).1 (by rw [← h.m_eq]; exact hk); have e : (k + 1) * P = k * P + P := Nat.succ_mul k P; have := h.n24; have := h.P6; exact ⟨h1, by omega, e⟩
theorem SimOk.m24 (h : SimOk L sz C P la ap n m E) : m ≤ 24 := by
  rcases Nat.lt_or_ge 24 m with c | c
  · have := (h.kP c).1
    have : 24 * 1 ≤ 24 * P := Nat.mul_le_mul_left 24 h.P0; have := h.n24; omega
  · exact c
theorem SimOk.bmk (h : SimOk L sz C P la ap n m E) {k : Nat} (hk : k < m) : bm n P k = k * P ∧ bm n P (k + 1) = k * P + lenK n P k := by
  have h1 := h.kP hk; refine ⟨by unfold bm; rw [if_pos h1.1], ?_⟩; unfold bm lenK
  split <;> split <;> omega
theorem bm_le {c : Nat} : bm n P c ≤ n := by
  unfold bm
  split <;> omega
theorem SimOk.wN_le (h : SimOk L sz C P la ap n m E) {j : Nat} (hj : j ≤ n) : wN L j ≤ 100000 := by
  have h1 := q634 L 0 hj; have h2 := h.all; unfold wN at *; omega
theorem SimOk.opn (h : SimOk L sz C P la ap n m E) {k j : Nat} (hk : k < m) (hj : j ≤ lenK n P k) : OpnQ sz (catL L (k * P) j) := by
  have h1 := h.kP hk; have h2 : lenK n P k ≤ n - k * P := by unfold lenK; split <;> omega
  have h3 := h.few k hk; have h4 := q634 L (k * P) hj; refine ⟨by unfold cwL at h3; omega, fun w hw => ?_, fun w hw => ?_⟩
  · obtain ⟨i, h5, h6, h7⟩ := q269 hw
    exact (h.fit i (by omega) w h7).1
  · obtain ⟨i, h5, h6, h7⟩ := q269 hw
    exact (h.fit i (by omega) w h7).2
theorem SimOk.img (h : SimOk L sz C P la ap n m E) : ∀ k, k ≤ m → szs (imQ L sz n P k) = sz
  | 0, _ => q223 h.hz
  | k + 1, hk => q632 h.hz (h.img k (by omega)) (h.opn (k := k) (by omega) (Nat.le_refl _))
theorem SimOk.cyc (h : SimOk L sz C P la ap n m E) {k : Nat} (hk : k < m) : CycY (cyL L n P) k := by
  have h1 := h.kP hk; have h2 := h.m24; have h3 := h.wN_le (bm_le (n := n) (P := P) (c := k + 1)); exact ⟨rfl, rfl, keepY h.hz (h.opn hk (Nat.le_refl _)) (by omega) (by omega) ⟨by omega, by omega⟩⟩
theorem SimOk.app (h : SimOk L sz C P la ap n m E) {k : Nat} (hk : k < m) {Φ : List (List Sec) × Int → Prop} (hΦ : Φ (imQ L sz n P (k + 1), 0)) : q95 (imQ L sz n P k) (cyL L n P k) Φ := by
  have h1 := h.kP hk; have h2 := h.m24; have h3 := h.wN_le (bm_le (n := n) (P := P) (c := k + 1)); have hs := h.img k (by omega); have ho := h.opn hk (Nat.le_refl (lenK n P k)); have hc : CycOk sz k (cyL L n P k) := q384 h.hz (n := k) (i := (k + 1) * P) (q := (wN L (bm n P (k + 1)) : Int)) ho (by omega) (by omega) ⟨by omega, by omega⟩
  have hl : (imQ L sz n P k).length ≤ 8 := by
    have := (q41 h.hz).2; rw [← hs, q48] at this; exact this
  refine q311 (by omega) (by have := hc.pos; omega) (by have := hc.len; omega) (fun w hw => by have := hc.data w hw; omega) ?_; have e : appR (imQ L sz n P k) (cyL L n P k) = (imQ L sz n P (k + 1), 0) := applyY h.hz hs ho (by omega) (by omega) ⟨by omega, by omega⟩; rw [e]; exact hΦ
theorem SimOk.same (h : SimOk L sz C P la ap n m E) {k : Nat} (hk : k ≤ m) {Φ : Bool → Prop} (hΦ : Φ true) : q116 (imQ L sz n P k) (imQ L sz n P k) Φ :=
  q633 (q631 h.hz (h.img k hk)) hΦ
end
end
section
section
variable {L : List (List q8)} {sz C : List Int} {P la ap n m : Nat} {E e : Nat → Nat} {w : Nat → Nat} {t : q15}
structure AgeC (P la ap m : Nat) (E e : Nat → Nat) (T a' b : Nat) : Prop where
  bm : b ≤ m
  lo : ∀ i, i < b → e i + la + ap ≤ T
  hi : ∀ i, b ≤ i → i < m → T < e i + la + ap
  old : (T : Int) - ((a' * P : Nat) : Int) ≤ (T : Int) - ((b * P : Nat) : Int)
  bnd : (T : Int) - ((b * P : Nat) : Int) ≤ bndE P (fun k => e k + la + ap) m
theorem age_cov {Z : Nat → Nat} (he : FinE C Z P m e) (hle : ∀ k, k < m → E k ≤ e k) {T a a' : Nat} (ham : a < m) (ha : ∀ k, k < m → (E k + la + ap < T ↔ k < a)) (ha' : ∀ k, k < m → (E k + la + ap < T + 1 ↔ k < a')) : ∃ b, AgeC P la ap m E e T a' b := by
  obtain ⟨b, h1, h2, h3⟩ := q336 (fun k => e k + la + ap) T m fun i j hij hj => by have := he.le hij hj; show e i + la + ap ≤ e j + la + ap; omega
  have hb : b ≤ a' := by
    rcases Nat.lt_or_ge a' b with c | c
    · have q1 := h2 a' c
      have q1 : e a' + la + ap ≤ T := q1; have q2 := hle a' (by omega); have := (ha' a' (by omega)).1 (by omega); omega
    · exact c
  have hm := Nat.mul_le_mul_right P hb; refine ⟨b, h1, h2, h3, by omega, ?_⟩; rcases Nat.lt_or_ge b m with c | c
  · have q := h3 b (Nat.le_refl _) c
    have q : T < e b + la + ap := q
    have := q681 (P := P) (A := fun k => e k + la + ap) c (by
      rcases Nat.eq_zero_or_pos b with g | g
      · exact .inl g
      · have := h2 (b - 1) (by omega)
        exact .inr (by show e (b - 1) + la + ap < e b + la + ap; have : e (b - 1) + la + ap ≤ T := this; omega))
    have this : ((e b + la + ap : Nat) : Int) - 1 - ((b * P : Nat) : Int) ≤ bndE P (fun k => e k + la + ap) m := this; omega
  · have q1 := h2 (m - 1) (by omega)
    have q1 : e (m - 1) + la + ap ≤ T := q1; have q2 := hle (m - 1) (by omega); have q3 : ¬ E (m - 1) + la + ap < T := fun g => by have := (ha (m - 1) (by omega)).1 g; omega
    have := q682 (P := P) (A := fun k => e k + la + ap) (k := m - 1) (m := m) (by omega); have this : ((e (m - 1) + la + ap : Nat) : Int) - (((m - 1 + 1) * P : Nat) : Int) ≤ bndE P (fun k => e k + la + ap) m := this; rw [show m - 1 + 1 = m by omega] at this; rw [show b = m by omega]; omega
abbrev StR := Int × Int × Int × List Int × List Int × List Int × List q8 × Int × List q11 × List Int × List Bool × List (List Sec) × List (List Sec) × Int × Int × Int × List (List (List Sec)) × List Int
end
end
section
def lfv (C : List Int) (Z : Nat → Nat) (P : Nat) (E : Nat → Nat) (c d T : Nat) : Int := if d < c then (Z d : Int) - (sumC C T - sumC C (stK P E d)) else 0
section
variable {L : List (List q8)} {sz C : List Int} {P la ap n m : Nat} {E e : Nat → Nat}
theorem SimOk.sec (h : SimOk L sz C P la ap n m E) {k : Nat} (hk : k < m) {Φ : Int → Prop} (hΦ : Φ (sgL L n P k : Int)) : Z1 (cyL L n P k).Writes Φ := by
  have h1 := h.kP hk; have h2 := h.m24; have h3 := h.wN_le (bm_le (n := n) (P := P) (c := k + 1)); have ho := h.opn hk (Nat.le_refl (lenK n P k)); have hc : CycOk sz k (cyL L n P k) := q384 h.hz (n := k) (i := (k + 1) * P) (q := (wN L (bm n P (k + 1)) : Int)) ho (by omega) (by omega) ⟨by omega, by omega⟩; have C' := q239 (fun t => t h.hz) ho.fit; have h5 := q306 ho; have h6 := q267 (catL L (k * P) (lenK n P k)); have h7 := C'.sum; refine q616 (by have := hc.len; omega) ?_ hΦ; show secN (canL (effM (catL L (k * P) (lenK n P k)))) ≤ _; omega
theorem SimOk.sg (h : SimOk L sz C P la ap n m E) {k : Nat} (hk : k < m) : sgL L n P k ≤ secN (cwL L n P k) ∧ sgL L n P k = (effM (cwL L n P k)).length := by
  have ho := h.opn hk (Nat.le_refl (lenK n P k)); have C' := q239 (fun t => t h.hz) ho.fit; have h6 := q267 (catL L (k * P) (lenK n P k)); have h7 := C'.sum; exact ⟨by show secN (canL (effM (catL L (k * P) (lenK n P k)))) ≤ secN (catL L (k * P) (lenK n P k)); omega, h7⟩
theorem SimOk.sg6 (h : SimOk L sz C P la ap n m E) {k : Nat} (hk : k < m) : sgL L n P k ≤ 6000 := by
  have := (h.sg hk).1; have h5 : secN (cwL L n P k) ≤ 6000 := q306 (h.opn hk (Nat.le_refl (lenK n P k))); omega
structure TickO (P m : Nat) (E : Nat → Nat) (T c0 c d0 : Nat) : Prop where
  c0m : c0 ≤ c
  cm : c ≤ m
  d0c : d0 ≤ c0
  hc0 : ∀ k, k < m → ((k + 1) * P < T ↔ k < c0)
  hc : ∀ k, k < m → ((k + 1) * P < T + 1 ↔ k < c)
  hd0 : ∀ k, k < m → (E k < T ↔ k < d0)
def DoneO (m : Nat) (E : Nat → Nat) (T d : Nat) : Prop := ∀ k, k < m → (E k < T + 1 ↔ k < d)
end
end
theorem OpnQ.pre {sz : List Int} {a b : List q8} (h : OpnQ sz (a ++ b)) (k : Nat) : OpnQ sz (a ++ b.take k) := by
  have h1 : ∀ w ∈ a ++ b.take k, w ∈ a ++ b := fun w hw => by
    rcases List.mem_append.1 hw with q | q
    · exact List.mem_append.2 (.inl q)
    · exact List.mem_append.2 (.inr (List.mem_of_mem_take q))
  refine ⟨?_, fun w hw => h.fit w (h1 w hw), fun w hw => h.data w (h1 w hw)⟩; have := h.len; rw [List.length_append] at this ⊢; rw [List.length_take]; omega
section
def tkN (n t : Nat) : Nat := if t < n then t else n
def opT (L : List (List q8)) (n P c j : Nat) : List q8 := catL L (bm n P c) (j - bm n P c)
structure HeadO (P la ap m : Nat) (E : Nat → Nat) (T a c d : Nat) : Prop where
  ad : a ≤ d
  dc : d ≤ c
  cm : c ≤ m
  hc : ∀ k, k < m → ((k + 1) * P < T ↔ k < c)
  hd : ∀ k, k < m → (E k < T ↔ k < d)
  ha : ∀ k, k < m → (E k + la + ap < T ↔ k < a)
def hdS (L : List (List q8)) (sz C : List Int) (P n : Nat) (E : Nat → Nat) (T a c d : Nat) : StR :=
  ((a : Int), (T : Int), (c : Int), sz, [(wN L (bm n P c) : Int)], List.replicate (opT L n P c (tkN n (T - 1))).length 0, opT L n P c (tkN n (T - 1)), 100, seg (cyL L n P) a (c - a), [(a : Int)], [false], appL (imQ L sz n P c) (opT L n P c (tkN n (T - 1))), imQ L sz n P a, lfv C (sgL L n P) P E c d (T - 1), (wN L (tkN n (T - 1)) : Int), ((a * P : Nat) : Int), tabL (c + 1) (imQ L sz n P), tabL d fun k => (E k : Int))
section
variable {L : List (List q8)} {sz C : List Int} {P la ap n m : Nat} {E e : Nat → Nat} {w : Nat → Nat} {t : q15}
theorem SimOk.mI (h : SimOk L sz C P la ap n m E) : ((n : Int) + (P : Int) - 1) / (P : Int) = (m : Int) := by
  have := h.P0; rw [h.m_eq]; unfold cycN; rw [Int.natCast_ediv]
  congr 1
  omega
end
end
section
section
variable {L : List (List q8)} {sz C : List Int} {P la ap n m : Nat} {E e : Nat → Nat} {w : Nat → Nat} {t : q15}
theorem sg_le (hz : q21 sz = 0) {n k P : Nat} (hk : k * P + lenK n P k ≤ n) (hf : ∀ i : Nat, i < n → ∀ w ∈ ix L (i : Int), fitW sz w = 0) : sgL L n P k ≤ secN (cwL L n P k) ∧ sgL L n P k = (effM (cwL L n P k)).length := by
  have C' := q239 (fun t => t hz) (l := cwL L n P k) fun w hw => by
    obtain ⟨i, h5, h6, h7⟩ := q269 hw; exact hf i (by omega) w h7
  have h6 := q267 (cwL L n P k); have h7 := C'.sum; exact ⟨by show secN (canL (effM (cwL L n P k))) ≤ _; omega, h7⟩
theorem q454 (hP : 0 < P) {k : Nat} (hk : k < cycN n P) : k * P + lenK n P k ≤ n := by
  have := (q121 hP).1 hk; unfold lenK
  split <;> omega
theorem hd0 (L : List (List q8)) (sz C : List Int) (P n : Nat) (E : Nat → Nat) : hdS L sz C P n E 0 0 0 0 = (0, 0, 0, sz, [0], [], [], 100, [], [0], [false], zeroI sz, zeroI sz, 0, 0, 0, [zeroI sz], []) := by
  have e1 : bm n P 0 = 0 := by unfold bm; rw [Nat.zero_mul]; split <;> omega
  have e2 : tkN n (0 - 1) = 0 := by unfold tkN; split <;> omega
  unfold hdS opT lfv; rw [e1, e2, if_neg (by omega), Nat.zero_mul]; rfl
end
end
section
abbrev StX := Y0
abbrev StJ := Y1
section
variable {L : List (List q8)} {sz C : List Int} {P la ap n m : Nat} {E : Nat → Nat} {w : Nat → Nat} {t : q15}
theorem q517 (hS : SimOk L sz C P la ap n m E) {T c0 c d0 a : Nat} (hO : TickO P m E T c0 c d0) (had : a ≤ d0) {J7 : Int × List Int → Prop} {Φ : Bool → Prop} (hJ : ∀ d, d0 ≤ d → d ≤ c → DoneO m E T d → J7 (lfv C (sgL L n P) P E c d T, tabL d fun k => (E k : Int)))
    {k0 : Nat} (hk0 : d0 ≤ k0 ∧ k0 ≤ c) (hE0 : ∀ i, i < k0 → E i ≤ T) (hs0 : k0 < c → stK P E k0 = T) : LoopW (Z135 (P : Int) (T : Int) (seg (cyL L n P) a (c - a)) (tabL (c + 1) (imQ L sz n P)) J7 Φ) ((k0 : Int), 0, tabL k0 fun k => (E k : Int)) := by
  have hm24 := hS.m24; have hcm := hO.cm; have el : ((tabL (c + 1) (imQ L sz n P)).length : Int) - 1 = (c : Int) := by rw [q14]; omega
  refine LoopW.upS c (fun s : Int × Int × List Int => s.1) (fun k s => s = ((k : Int), 0, tabL k fun k => (E k : Int)) ∧ d0 ≤ k ∧ (∀ i, i < k → E i ≤ T) ∧ (k < c → stK P E k = T)) (fun k s rec hk _ hI hrec => ?_) k0 rfl hk0.2 ⟨rfl, hk0.1, hE0, hs0⟩; obtain ⟨rfl, h1, h2, h3⟩ := hI
  have hP : (k + 1) * P ≤ 1000 ∨ k = c := by
    rcases Nat.lt_or_ge k c with q | q
    · have := (hS.kP (k := k) (by omega)).2.1; omega
    · exact .inr (by omega)
  have e1 : ((k : Int) + 1) * (P : Int) = (((k + 1) * P : Nat) : Int) := by rw [Int.natCast_mul]; rfl
  unfold Z135 Join; rw [el]; refine ⟨iI (by omega) (by omega), fun q => ?_, fun q => ?_⟩
  · have hkc : k < c := by omega
    have hcl := (hO.hc k (by omega)).2 hkc; have hkb := (hS.kP (k := k) (by omega)).2.1; have hst := h3 hkc; rw [e1]; refine ⟨iI (by omega) (by omega), iI (by omega) (by omega), fun _ => ?_, fun z => absurd (by omega) z⟩; rw [decide_eq_true (show (0 : Int) ≤ 0 by omega)]; refine ⟨fun _ => ?_, fun z => absurd rfl z⟩; have hend := hS.fin k (by omega); rw [hst] at hend; have hsg := hS.sg6 (k := k) (by omega)
    have J12 : Z132 (T : Int) J7 (tabL k fun k => (E k : Int)) rec Φ (sgL L n P k : Int) := by
      refine ⟨fun z => ⟨iL (by rw [q17, q14]; omega) (by omega), ?_⟩, fun z => ?_⟩
      · have z0 : sgL L n P k = 0 := by omega
        rw [z0] at hend; have hET : E k = T := hend.uniq (EndC.zero T); have e2 : (tabL k fun k => (E k : Int)) ++ [(T : Int)] = tabL (k + 1) fun k => (E k : Int) := by rw [q61, hET]
        rw [e2, q14]; refine hrec _ hkc rfl ⟨rfl, by omega, fun i hi => ?_, fun hk1 => ?_⟩
        · rcases Nat.lt_or_ge i k with c1 | c1
          · exact h2 i c1
          · obtain rfl : i = k := by omega
            omega
        · have h5 := (hO.hc (k + 1) (by omega)).2 hk1
          exact q618 (by omega) (by show E k ≤ T; omega) (.inr hET)
      · have hgt : T < E k := by
          rcases Nat.lt_or_ge T (E k) with c1 | c1
          · exact c1
          · have q1 := hend.done
            have q2 := hS.lnk.le c1; omega
        have hf : lfv C (sgL L n P) P E c k T = (sgL L n P k : Int) := by
          unfold lfv; rw [if_pos hkc, hst]; omega
        rw [← hf]; refine hJ k h1 (by omega) fun i hi => ⟨fun g => ?_, fun g => by have := h2 i g; omega⟩
        rcases Nat.lt_or_ge i k with c1 | c1
        · exact c1
        · have := hS.fin.le c1 hi; omega
    have hak : a ≤ k := by omega
    have els : (seg (cyL L n P) a (c - a)).length = c - a := q197 _ _ _; unfold Join; refine LoopW.upT (k - a) (fun i => (i : Int)) rfl (fun i rec2 hi hr2 => ?_) fun rec2 => ?_
    · have ei : ix (seg (cyL L n P) a (c - a)) (i : Int) = cyL L n P (a + i) := q337 (by omega)
      refine ⟨fun z => ⟨iX (by omega) z, iI (by omega) (by omega), fun g => ?_, fun _ => ⟨iI (by omega) (by omega), hr2 _ rfl⟩⟩, fun z => absurd (show (i : Int) < ((seg (cyL L n P) a (c - a)).length : Int) by omega) z⟩; rw [ei] at g; have g : ((a + i : Nat) : Int) + 1 = (k : Int) + 1 := g; omega
    · have ei : ix (seg (cyL L n P) a (c - a)) ((k - a : Nat) : Int) = cyL L n P (a + (k - a)) := q337 (by omega)
      rw [show a + (k - a) = k by omega] at ei; refine ⟨fun z => ⟨iX (by omega) z, iI (by omega) (by omega), fun _ => ?_, fun g => absurd ?_ g⟩, fun z => absurd (show ((k - a : Nat) : Int) < ((seg (cyL L n P) a (c - a)).length : Int) by omega) z⟩
      · rw [ei]
        exact hS.sec (by omega) J12
      · rw [ei]; rfl
  · obtain rfl : k = c := by omega
    refine ⟨fun z => absurd z (by simp), fun _ => ?_⟩
    have hf : lfv C (sgL L n P) P E k k T = 0 := by
      unfold lfv; rw [if_neg (by omega)]
    rw [← hf]; refine hJ k h1 (Nat.le_refl _) fun i hi => ⟨fun g => ?_, fun g => by have := h2 i g; omega⟩
    have h5 := hS.fin.close hi; exact (hO.hc i hi).1 (by omega)
theorem q635 (hS : SimOk L sz C P la ap n m E) {T c0 c d0 a : Nat} (hTb : T ≤ 1500) (hO : TickO P m E T c0 c d0) (had : a ≤ d0) {J7 : Int × List Int → Prop} {Φ : Bool → Prop} (hJ : ∀ d, d0 ≤ d → d ≤ c → DoneO m E T d → J7 (lfv C (sgL L n P) P E c d T, tabL d fun k => (E k : Int))) :
    (0 < (T : Int) → inI (((tabL (c + 1) (imQ L sz n P)).length : Int) - 1) ∧
      (((tabL d0 fun k => (E k : Int)).length : Int) < (((tabL (c + 1) (imQ L sz n P)).length : Int) - 1) → Z137 C (T : Int) (lfv C (sgL L n P) P E c0 d0 (T - 1)) (tabL d0 fun k => (E k : Int)) (Z136 (P : Int) (T : Int) (seg (cyL L n P) a (c - a)) (tabL (c + 1) (imQ L sz n P)) J7 Φ) Φ (decide (0 < lfv C (sgL L n P) P E c0 d0 (T - 1)))) ∧
      (¬ ((tabL d0 fun k => (E k : Int)).length : Int) < (((tabL (c + 1) (imQ L sz n P)).length : Int) - 1) → Z137 C (T : Int) (lfv C (sgL L n P) P E c0 d0 (T - 1)) (tabL d0 fun k => (E k : Int)) (Z136 (P : Int) (T : Int) (seg (cyL L n P) a (c - a)) (tabL (c + 1) (imQ L sz n P)) J7 Φ) Φ false)) ∧
    (¬ 0 < (T : Int) → Z137 C (T : Int) (lfv C (sgL L n P) P E c0 d0 (T - 1)) (tabL d0 fun k => (E k : Int)) (Z136 (P : Int) (T : Int) (seg (cyL L n P) a (c - a)) (tabL (c + 1) (imQ L sz n P)) J7 Φ) Φ false) := by
  have hm24 := hS.m24; have hcm := hO.cm; have hc0m := hO.c0m; have hd0c := hO.d0c; have el : ((tabL (c + 1) (imQ L sz n P)).length : Int) - 1 = (c : Int) := by rw [q14]; omega
  have ed : (tabL d0 fun k => (E k : Int)).length = d0 := q14 _ _; have hE0 : ∀ i, i < d0 → E i ≤ T := fun i hi => by have := (hO.hd0 i (by omega)).2 hi; omega
  have hfr : fr0 E d0 ≤ T ∧ (0 < d0 → fr0 E d0 < T) := by
    cases d0 with
    | zero => exact ⟨Nat.zero_le _, fun q => absurd q (by omega)⟩
    | succ d => have := (hO.hd0 d (by omega)).2 (by omega); exact ⟨by show E d ≤ T; omega, fun _ => this⟩
  -- nothing is under way
  have none_ : ¬ d0 < c0 → Z137 C (T : Int) (lfv C (sgL L n P) P E c0 d0 (T - 1)) (tabL d0 fun k => (E k : Int)) (Z136 (P : Int) (T : Int) (seg (cyL L n P) a (c - a)) (tabL (c + 1) (imQ L sz n P)) J7 Φ) Φ false := fun hn => by
    have hf : lfv C (sgL L n P) P E c0 d0 (T - 1) = 0 := by
      unfold lfv; rw [if_neg hn]
    refine ⟨fun q => absurd q (by simp), fun _ => ?_⟩; rw [hf]; show LoopW (Z135 (P : Int) (T : Int) (seg (cyL L n P) a (c - a)) (tabL (c + 1) (imQ L sz n P)) J7 Φ) (((tabL d0 fun k => (E k : Int)).length : Int), 0, tabL d0 fun k => (E k : Int)); rw [ed]; refine q517 hS hO had hJ ⟨Nat.le_refl _, by omega⟩ hE0 fun hdc => ?_; have q1 := (hO.hc d0 (by omega)).2 hdc; have q2 : ¬ (d0 + 1) * P < T := fun g => hn ((hO.hc0 d0 (by omega)).1 g); exact q618 (by omega) hfr.1 (.inl (by omega))
  by_cases hdc0 : d0 < c0
  · -- a transfer is under way
    have hT1 : (d0 + 1) * P < T := (hO.hc0 d0 (by omega)).2 hdc0
    have hst : stK P E d0 ≤ T - 1 := by
      unfold stK; rcases Nat.eq_zero_or_pos d0 with z | z
      · subst z
        split
        · have : fr0 E 0 = 0 := rfl
          omega
        · omega
      · have := hfr.2 z
        split <;> omega
    have hend := hS.fin d0 (by omega)
    have hET : T ≤ E d0 := by
      rcases Nat.lt_or_ge (E d0) T with q | q
      · have := (hO.hd0 d0 (by omega)).1 q; omega
      · exact q
    have hl := hend.least (T - 1) hst (by omega)
    have hsT : sumC C T = sumC C (T - 1) + capC C (T - 1) := by
      have e1 : T = T - 1 + 1 := by omega
      have : sumC C (T - 1 + 1) = sumC C (T - 1) + capC C (T - 1) := rfl; rwa [← e1] at this
    have hcap := hS.lnk.cap (T - 1); have hb1 := hS.lnk.bnd (T - 1); have hb2 := hS.lnk.bnd (stK P E d0); have hsg := hS.sg6 (k := d0) (by omega); have hmo := hS.lnk.le hst
    have hf : lfv C (sgL L n P) P E c0 d0 (T - 1) = (sgL L n P d0 : Int) - (sumC C (T - 1) - sumC C (stK P E d0)) := by
      unfold lfv; rw [if_pos hdc0]
    have hlen1 := hS.lnk.one; have hlen2 := hS.lnk.len
    have eix : ix C (if ((C.length : Int) - 1) < ((T : Int) - 1) then ((C.length : Int) - 1) else ((T : Int) - 1)) = capC C (T - 1) := by
      unfold capC
      congr 1
      split <;> split <;> omega
    have eidx : inX (if ((C.length : Int) - 1) < ((T : Int) - 1) then ((C.length : Int) - 1) else ((T : Int) - 1)) C.length := by
      split
      · exact iX (by omega) (by omega)
      · exact iX (by omega) (by omega)
    have J9 : ∀ x : Int, x = (sgL L n P d0 : Int) - (sumC C T - sumC C (stK P E d0)) → (x ≤ 0 → Z136 (P : Int) (T : Int) (seg (cyL L n P) a (c - a)) (tabL (c + 1) (imQ L sz n P)) J7 Φ (0, (tabL d0 fun k => (E k : Int)) ++ [(T : Int)])) ∧ (¬ x ≤ 0 → Z136 (P : Int) (T : Int) (seg (cyL L n P) a (c - a)) (tabL (c + 1) (imQ L sz n P)) J7 Φ (x, tabL d0 fun k => (E k : Int))) := fun x hx => by
      refine ⟨fun q => ?_, fun q => ?_⟩
      · have hEe : E d0 = T := by
          rcases Nat.lt_or_ge T (E d0) with g | g
          · have := hend.least T (by omega) g; omega
          · omega
        have e2 : (tabL d0 fun k => (E k : Int)) ++ [(T : Int)] = tabL (d0 + 1) fun k => (E k : Int) := by rw [q61, hEe]
        rw [e2]; show LoopW (Z135 (P : Int) (T : Int) (seg (cyL L n P) a (c - a)) (tabL (c + 1) (imQ L sz n P)) J7 Φ) (((tabL (d0 + 1) fun k => (E k : Int)).length : Int), 0, tabL (d0 + 1) fun k => (E k : Int)); rw [q14]; refine q517 hS hO had hJ ⟨by omega, by omega⟩ (fun i hi => ?_) fun hdc => ?_
        · rcases Nat.lt_or_ge i d0 with c1 | c1
          · exact hE0 i c1
          · obtain rfl : i = d0 := by omega
            omega
        · have q1 := (hO.hc (d0 + 1) (by omega)).2 hdc
          exact q618 (by omega) (by show E d0 ≤ T; omega) (.inr hEe)
      · have hgt : T < E d0 := by
          rcases Nat.lt_or_ge T (E d0) with g | g
          · exact g
          · have q1 := hend.done
            have q2 := hS.lnk.le g; omega
        show LoopW (Z135 (P : Int) (T : Int) (seg (cyL L n P) a (c - a)) (tabL (c + 1) (imQ L sz n P)) J7 Φ) (((tabL d0 fun k => (E k : Int)).length : Int), x, tabL d0 fun k => (E k : Int)); rw [ed]
        have fin : J7 (x, tabL d0 fun k => (E k : Int)) := by
          have hf2 : lfv C (sgL L n P) P E c d0 T = x := by
            unfold lfv; rw [if_pos (by omega), hx]
          rw [← hf2]; refine hJ d0 (Nat.le_refl _) (by omega) fun i hi => ⟨fun g => ?_, fun g => by have := hE0 i g; omega⟩
          rcases Nat.lt_or_ge i d0 with c1 | c1
          · exact c1
          · have := hS.fin.le c1 hi; omega
        refine LoopW.upT 0 (fun _ => ((d0 : Int), x, tabL d0 fun k => (E k : Int))) rfl (fun k _ hk => absurd hk (Nat.not_lt_zero k)) fun rec => ?_; have e1 : ((d0 : Int) + 1) * (P : Int) = (((d0 + 1) * P : Nat) : Int) := by rw [Int.natCast_mul]; rfl
        have J11 : Z134 (T : Int) (seg (cyL L n P) a (c - a)) J7 (d0 : Int) x (tabL d0 fun k => (E k : Int)) rec Φ false := ⟨fun z => absurd z (by simp), fun _ => fin⟩
        unfold Z135 Join; dsimp only; rw [el, e1]; refine ⟨iI (by omega) (by omega), fun _ => ⟨iI (by omega) (by omega), iI (by omega) (by omega), fun _ => ?_, fun _ => J11⟩, fun _ => J11⟩; rw [decide_eq_false q]; exact J11
    refine ⟨fun _ => ⟨by rw [el]; exact iI (by omega) (by omega), fun _ => ?_, fun q => absurd (show ((tabL d0 fun k => (E k : Int)).length : Int) < ((tabL (c + 1) (imQ L sz n P)).length : Int) - 1 by rw [el, ed]; omega) q⟩, fun q => absurd (show (0 : Int) < (T : Int) by omega) q⟩; rw [hf, decide_eq_true (by omega)]; refine ⟨fun _ => ⟨iI (by omega) (by omega), iI (by omega) (by omega), eidx, ?_⟩, fun z => absurd rfl z⟩; rw [eix]; have hJ9 := J9 ((sgL L n P d0 : Int) - (sumC C (T - 1) - sumC C (stK P E d0)) - capC C (T - 1)) (by omega); exact ⟨iI (by omega) (by omega), fun q => ⟨iL (by rw [q17, q14]; omega) (by omega), hJ9.1 q⟩, fun q => hJ9.2 q⟩
  · have hf : lfv C (sgL L n P) P E c0 d0 (T - 1) = 0 := by
      unfold lfv; rw [if_neg hdc0]
    have hN := none_ hdc0; refine ⟨fun _ => ⟨by rw [el]; exact iI (by omega) (by omega), fun _ => ?_, fun _ => hN⟩, fun _ => hN⟩; have e0 : decide (0 < lfv C (sgL L n P) P E c0 d0 (T - 1)) = false := decide_eq_false (by rw [hf]; omega); rw [e0]; exact hN
theorem q636 (hS : SimOk L sz C P la ap n m E) (hT : TrOk t C w n P la ap) (he : PlanE C (sizK w n P) P (cycN n P) E) {v1 : q15 × Bool} {v2 : q18 × Int} (hv1 : v1.1 = t) (hv2 : v2.1 = planV P la ap (cycN n P) E)
    {T a c d : Nat} (hTb : T ≤ 1500) (hcm : c ≤ m) (hdc : d ≤ c) (had : a ≤ d) (hd : ∀ k, k < m → (E k < T + 1 ↔ k < d)) (ha : ∀ k, k < m → (E k + la + ap < T ↔ k < a))
    {J2 : StJ → Prop} {g : Int} {rec3 : StX → Prop} {v52 : List (List Sec)} {v53 v54 v64 : Int} {v55 v56 v57 : List Int} {v58 : List q8} {Φ : Bool → Prop}
    (hr : ∀ a', a' ≤ d → (∀ k, k < m → (E k + la + ap < T + 1 ↔ k < a')) → rec3 ((a' : Int), (T : Int) + 1, mxI g ((T : Int) - ((a' * P : Nat) : Int)), v54, v55, v56, v57, v58, 100, seg (cyL L n P) a' (c - a'), [(a' : Int)], [false], v52, imQ L sz n P a', v64, v53, ((a' * P : Nat) : Int), tabL (c + 1) (imQ L sz n P), tabL d fun k => (E k : Int))) :
    LoopW (Z130 v1 v2 (P : Int) (la : Int) (ap : Int) J2 (T : Int) g rec3 v52 v53 v54 v55 v56 v57 v58 (tabL (c + 1) (imQ L sz n P)) v64 (tabL d fun k => (E k : Int)) Φ) (0, 100, seg (cyL L n P) a (c - a), [(a : Int)], [false], imQ L sz n P a, ((a * P : Nat) : Int)) := by
  have hm24 := hS.m24; have hP0 := hS.P0; have hP6 := hS.P6; have hl4 := hS.l4; have ha3 := hS.a3; have el : (tabL d fun k => (E k : Int)).length = d := q14 _ _; refine LoopW.upS d (fun s : Y3 => s.1) (fun k s => ∃ x, s = ((k : Int), 100, seg (cyL L n P) x (c - x), [(x : Int)], [false], imQ L sz n P x, ((x * P : Nat) : Int)) ∧ a ≤ x ∧ (∀ i, i < x → i < d ∧ E i + la + ap ≤ T) ∧ (∀ i, i < k → E i + la + ap ≤ T → i < x) ∧ (x ≤ a ∨ x ≤ k)) (fun k s rec hk _ hI hrec => ?_) 0 rfl (Nat.zero_le _) ⟨a, rfl, Nat.le_refl _, fun i hi => ⟨by omega, by have := (ha i (by omega)).2 hi; omega⟩, fun i hi => absurd hi (Nat.not_lt_zero i), .inl (Nat.le_refl _)⟩; obtain ⟨x, rfl, h1, h2, h3, h4⟩ := hI
  have hxd : x ≤ d := by
    rcases Nat.lt_or_ge d x with q | q
    · have := (h2 d q).1; omega
    · exact q
  refine ⟨fun q => ?_, fun q => ?_⟩
  · have q : (k : Int) < ((tabL d fun k => (E k : Int)).length : Int) := q
    have hkd : k < d := by omega
    have ei : ix (tabL d fun k => (E k : Int)) (k : Int) = (E k : Int) := q38 hkd; have hEb := hS.Eb k (by omega); rw [ei]; have next : ∀ x', a ≤ x' → (∀ i, i < x' → i < d ∧ E i + la + ap ≤ T) → (∀ i, i < k + 1 → E i + la + ap ≤ T → i < x') → (x' ≤ a ∨ x' ≤ k + 1) → rec ((k : Int) + 1, 100, seg (cyL L n P) x' (c - x'), [(x' : Int)], [false], imQ L sz n P x', ((x' * P : Nat) : Int)) := fun x' g1 g2 g3 g4 => hrec _ hkd rfl ⟨x', rfl, g1, g2, g3, g4⟩
    refine ⟨iX (by omega) q, iI (by omega) (by omega), iI (by omega) (by omega), fun g => ⟨iI (by omega) (by omega), next x h1 h2 (fun i hi hA => ?_) (by omega)⟩, fun g => ?_⟩
    · rcases Nat.lt_or_ge i k with c1 | c1
      · exact h3 i c1 hA
      · obtain rfl : i = k := by omega
        have hlt : E i + la + ap < T := by omega
        have := (ha i (by omega)).1 hlt; omega
    · have hA : E k + la + ap = T := by omega
      -- all before have been applied
      have hka : ¬ k < a := fun z => by have := (ha k (by omega)).2 z; omega
      have hxk : x = k := by
        have g1 : k ≤ x := by
          rcases Nat.eq_zero_or_pos k with z | z
          · omega
          · have := hS.fin.le (i := k - 1) (j := k) (by omega) (by omega)
            have := h3 (k - 1) (by omega) (by omega); omega
        omega
      subst hxk; have hY : ∀ i, x ≤ i → i < c → CycY (cyL L n P) i := fun i _ hi => hS.cyc (by omega); have hcb := (hS.kP (k := x) (by omega)).2; refine f1_next (Y := cyL L n P) (a := x) (m := c) hY (by omega) (by omega) (by omega) ⟨(imQ L sz n P (x + 1), 0, ()), hS.app (by omega) rfl, (fan1 (cyL L n P) (x + 1) c, 0, ()), ?_, fun z => absurd rfl z, fun _ => ⟨fun z => absurd rfl z, fun _ => ⟨fun z => absurd rfl z, fun _ => ⟨iI (by omega) (by omega), fun z => absurd rfl z, fun _ => ⟨iI (by omega) (by omega), ?_, iI (by omega) (by omega), ?_⟩⟩⟩⟩⟩
      · exact q527 (Y := cyL L n P) (a := x) (m := c) (n := x + 1) hY (by omega) (by omega) (by omega) (by omega) (by omega) rfl
      · have e1 : ((x : Int) + 1) * (P : Int) = (((x + 1) * P : Nat) : Int) := by rw [Int.natCast_mul]; rfl
        rw [e1]; exact iI (by omega) (by omega)
      · have e1 : ((x : Int) + 1) * (P : Int) = (((x + 1) * P : Nat) : Int) := by rw [Int.natCast_mul]; rfl
        rw [e1]; refine next (x + 1) (by omega) (fun i hi => ?_) (fun i hi _ => hi) (.inr (Nat.le_refl _))
        rcases Nat.lt_or_ge i x with c1 | c1
        · exact h2 i c1
        · obtain rfl : i = x := by omega
          exact ⟨hkd, by omega⟩
  · have q : ¬ (k : Int) < ((tabL d fun k => (E k : Int)).length : Int) := q
    obtain rfl : k = d := by omega
    have hx : ∀ i, i < m → (E i + la + ap < T + 1 ↔ i < x) := fun i hi => by
      refine ⟨fun z => ?_, fun z => by have := (h2 i z).2; omega⟩; have := (hd i hi).1 (by omega); exact h3 i this (by omega)
    have hxm : x ≤ m := by omega
    have hPb : x * P ≤ 29 := by
      rcases Nat.eq_zero_or_pos x with z | z
      · rw [z, Nat.zero_mul]; omega
      · have := (hS.kP (k := x - 1) (by omega)).2.1
        rwa [show x - 1 + 1 = x by omega] at this
    have ediv : ((x * P : Nat) : Int) / (P : Int) = (x : Int) := by
      rw [← Int.natCast_ediv, Nat.mul_div_cancel _ hP0]
    have el2 : (tabL (c + 1) (imQ L sz n P)).length = c + 1 := q14 _ _; have ei : ix (tabL (c + 1) (imQ L sz n P)) (x : Int) = imQ L sz n P x := q38 (by omega); rw [ediv, ei]; refine ⟨⟨by omega, iI (by omega) (by omega), by omega⟩, fun z => absurd z (by omega), fun _ => ⟨iX (by omega) (by omega), (true, ()), hS.same hxm rfl, fun z => absurd rfl z, fun _ => ⟨iI (by omega) (by omega), ?_⟩⟩⟩; rw [hv1, hv2]; have em := hS.m_eq
    have hA : ∀ i, x ≤ i → i < cycN n P → T < E i + la + ap := fun i g1 g2 => by
      rcases Nat.lt_or_ge T (E i + la + ap) with c1 | c1
      · exact c1
      · have := (hx i (by omega)).1 (by omega); omega
    exact age_ok hT he (T := T) (a := x) (by omega) (by omega) (fun i hi => (h2 i hi).2) hA ⟨fun _ => ⟨fun z => absurd rfl z, fun _ => ⟨iI (by omega) (by omega), hr x hxd hx⟩⟩, fun z => absurd rfl z⟩
theorem add_exa (hS : SimOk L sz C P la ap n m E) {x : List (List q8) × List Int} (hx : x.1 = L) {t c : Nat} (htn : t < n) (hc : c < m) (h1 : c * P ≤ t) (h2 : t < (c + 1) * P) {J5 : Y2 → Prop} {J2 : StJ → Prop} {y2 y3 y8 y10 : Int} {y4 : List q11} {y5 : List Int} {y6 : List Bool} {y7 : List (List Sec)} {y11 : List (List (List Sec))} {y12 : List Int} {Φ : Bool → Prop} {p : Int} (hp : 0 ≤ p ∧ p ≤ 100000)
    (hJ : J5 ((c : Int), sz, [p], List.replicate (catL L (c * P) (t + 1 - c * P)).length 0, catL L (c * P) (t + 1 - c * P), appL (imQ L sz n P c) (catL L (c * P) (t + 1 - c * P)), (wN L (t + 1) : Int))) :
    LoopW (Z140 x J2 ((t : Int) + 1) y2 y3 y4 y5 y6 y7 y8 y10 y11 y12 J5 Φ) (0, (c : Int), sz, [p], List.replicate (catL L (c * P) (t - c * P)).length 0, catL L (c * P) (t - c * P), appL (imQ L sz n P c) (catL L (c * P) (t - c * P)), (wN L t : Int)) := by
  have hm24 := hS.m24; have hkP := hS.kP hc; have e1 : (t : Int) + 1 - 1 = ((t : Nat) : Int) := by omega
  have e2 : catL L (c * P) (t + 1 - c * P) = catL L (c * P) (t - c * P) ++ ix L (t : Int) := by
    rw [show t + 1 - c * P = t - c * P + 1 by omega]; show catL L (c * P) (t - c * P) ++ ix L ((c * P + (t - c * P) : Nat) : Int) = _; rw [show c * P + (t - c * P) = t by omega]
  have hle : t + 1 - c * P ≤ lenK n P c := by unfold lenK; split <;> omega
  have ho := hS.opn hc hle; rw [e2] at ho hJ; have hz := hS.hz; have hs := hS.img c (by omega); have hw1 := hS.wN_le (j := t) (by omega)
  have e3 : wN L (t + 1) = wN L t + (ix L (t : Int)).length := by
    rw [q721]; show wN L t + ([] ++ ix L ((t + 0 : Nat) : Int)).length = _; rw [List.nil_append, Nat.add_zero]
  have hlen := ho.len; rw [List.length_append] at hlen; refine LoopW.upT (ix L (t : Int)).length (fun k => ((k : Int), (c : Int), sz, [p], List.replicate (catL L (c * P) (t - c * P) ++ (ix L (t : Int)).take k).length 0, catL L (c * P) (t - c * P) ++ (ix L (t : Int)).take k, appL (imQ L sz n P c) (catL L (c * P) (t - c * P) ++ (ix L (t : Int)).take k), (wN L t : Int) + (k : Int))) (by rw [List.take_zero, List.append_nil]; simp) (fun k rec hk hr => ?_) fun rec => ?_
  · have hok := ho.pre k
    have hok1 := ho.pre (k + 1); have ew : catL L (c * P) (t - c * P) ++ (ix L (t : Int)).take (k + 1) = (catL L (c * P) (t - c * P) ++ (ix L (t : Int)).take k) ++ [ix (ix L (t : Int)) (k : Int)] := by rw [q88 hk, List.append_assoc]
    have hf : fitW sz (ix (ix L (t : Int)) (k : Int)) = 0 := hok1.fit _ (by rw [ew]; exact List.mem_append.2 (.inr (List.mem_singleton.2 rfl))); have hd : (ix (ix L (t : Int)) (k : Int)).Data.length ≤ 24 := hok1.data _ (by rw [ew]; exact List.mem_append.2 (.inr (List.mem_singleton.2 rfl))); have hsi := q632 hz hs hok; have hlk := hok.len; have hlk1 := hok1.len; unfold Z140; dsimp only; rw [hx, e1]; refine ⟨fun q => ⟨iX (by omega) q, (appL (appL (imQ L sz n P c) (catL L (c * P) (t - c * P) ++ (ix L (t : Int)).take k)) [ix (ix L (t : Int)) (k : Int)], 0, 0, ()), q184 (show 1 ≤ 1000000 by omega) (q631 hz hsi) (fun w hw => by rw [List.mem_singleton.1 hw, hsi]; exact hf) rfl, ((addR (capP sz c p (catL L (c * P) (t - c * P) ++ (ix L (t : Int)).take k)) 0 (ix (ix L (t : Int)) (k : Int))).1, (addR (capP sz c p (catL L (c * P) (t - c * P) ++ (ix L (t : Int)).take k)) 0 (ix (ix L (t : Int)) (k : Int))).2, ()), q416 (show 1 ≤ 100000 by omega) (by rw [List.length_replicate]; omega) (by show (catL L (c * P) (t - c * P) ++ (ix L (t : Int)).take k).length ≤ _; omega) (fun w hw => by have := hok.data w hw; omega) (by omega) rfl, fun q2 => absurd rfl q2, fun _ => ?_⟩, fun q => absurd (show (k : Int) < ((ix L (t : Int)).length : Int) by omega) q⟩; rw [add_one hz hok (by omega) hp hf]; refine ⟨fun q2 => absurd rfl q2, fun _ => ⟨iI (by omega) (by omega), iI (by omega) (by omega), hr _ ?_⟩⟩; rw [ew, q225]
    show ((k : Int) + 1, (c : Int), sz, [p], _, _, _, (wN L t : Int) + (k : Int) + 1) = ((k : Int) + 1, (c : Int), sz, [p], _, _, _, (wN L t : Int) + ((k : Int) + 1))
    rw [Int.add_assoc]; rfl
  · unfold Z140
    dsimp only; rw [hx, e1]; refine ⟨fun q => absurd q (by omega), fun _ => ?_⟩; rw [q60]; rw [e3] at hJ; rw [← Int.natCast_add]; exact hJ
end
end
section
def hdX (L : List (List q8)) (sz C : List Int) (P n : Nat) (E : Nat → Nat) (T : Nat) (g : Int) (a c d : Nat) : StX :=
  ((a : Int), (T : Int), g, (c : Int), sz, [(wN L (bm n P c) : Int)], List.replicate (opT L n P c (tkN n (T - 1))).length 0, opT L n P c (tkN n (T - 1)), 100, seg (cyL L n P) a (c - a), [(a : Int)], [false], appL (imQ L sz n P c) (opT L n P c (tkN n (T - 1))), imQ L sz n P a, lfv C (sgL L n P) P E c d (T - 1), (wN L (tkN n (T - 1)) : Int), ((a * P : Nat) : Int), tabL (c + 1) (imQ L sz n P), tabL d fun k => (E k : Int))
section
variable {L : List (List q8)} {sz C : List Int} {P la ap n m : Nat} {E : Nat → Nat} {w : Nat → Nat} {t : q15}
theorem q685 (hS : SimOk L sz C P la ap n m E) (hT : TrOk t C w n P la ap) (he : PlanE C (sizK w n P) P (cycN n P) E) {v1 : q15 × Bool} {v2 : q18 × Int} (hv1 : v1.1 = t) (hv2 : v2.1 = planV P la ap (cycN n P) E) {x : List (List q8) × List Int} (hx : x.1 = L)
    {T a c d : Nat} (hTb : T < 1500) (hH : HeadO P la ap m E T a c d) (ham : a < m) {J2 : StJ → Prop} {g : Int} {rec3 : StX → Prop} {Φ : Bool → Prop} (hr : ∀ a' c' d', HeadO P la ap m E (T + 1) a' c' d' → rec3 (hdX L sz C P n E (T + 1) (mxI g ((T : Int) - ((a' * P : Nat) : Int))) a' c' d')) :
    Z141 v1 v2 x C (P : Int) (la : Int) (ap : Int) J2 (a : Int) (T : Int) g (c : Int) sz [(wN L (bm n P c) : Int)] (List.replicate (opT L n P c (tkN n (T - 1))).length 0) (opT L n P c (tkN n (T - 1))) 100 (seg (cyL L n P) a (c - a)) [(a : Int)] [false] (appL (imQ L sz n P c) (opT L n P c (tkN n (T - 1)))) (imQ L sz n P a) (lfv C (sgL L n P) P E c d (T - 1)) (wN L (tkN n (T - 1)) : Int) ((a * P : Nat) : Int) (tabL (c + 1) (imQ L sz n P)) (tabL d fun k => (E k : Int)) rec3 Φ true := by
  have hm24 := hS.m24; have hP0 := hS.P0; have hP6 := hS.P6; have hn24 := hS.n24; have hz := hS.hz; have hnL := hS.n_eq; have had := hH.ad; have hdc := hH.dc; have hcm := hH.cm; have hn : x.1.length = n := by rw [hx]; exact hnL
  -- behind the closing
  have j6 : ∀ c', c ≤ c' → c' ≤ m → (∀ k, k < m → ((k + 1) * P < T + 1 ↔ k < c')) → Z138 v1 v2 C (P : Int) (la : Int) (ap : Int) J2 (T : Int) g (imQ L sz n P a) (lfv C (sgL L n P) P E c d (T - 1)) ((a * P : Nat) : Int) (tabL d fun k => (E k : Int)) rec3 (appL (imQ L sz n P c') (opT L n P c' (tkN n T))) (wN L (tkN n T) : Int) Φ ((c' : Int), sz, [(wN L (bm n P c') : Int)], List.replicate (opT L n P c' (tkN n T)).length 0, opT L n P c' (tkN n T), 100, seg (cyL L n P) a (c' - a), [(a : Int)], [false], tabL (c' + 1) (imQ L sz n P)) := fun c' h1 h2 h3 => by
    unfold Z138 Join; dsimp only; exact q635 hS (by omega) ⟨h1, h2, hdc, hH.hc, h3, hH.hd⟩ had fun d' g1 g2 g3 => q636 hS hT he hv1 hv2 (by omega) h2 g2 (by omega) g3 hH.ha fun a' q1 q2 => hr a' c' d' ⟨q1, g2, h2, h3, g3, q2⟩
  -- behind the writes
  have j5 : Z139 v1 v2 x C (P : Int) (la : Int) (ap : Int) J2 (T : Int) g 100 (seg (cyL L n P) a (c - a)) [(a : Int)] [false] (imQ L sz n P a) (lfv C (sgL L n P) P E c d (T - 1)) ((a * P : Nat) : Int) (tabL (c + 1) (imQ L sz n P)) (tabL d fun k => (E k : Int)) rec3 Φ ((c : Int), sz, [(wN L (bm n P c) : Int)], List.replicate (opT L n P c (tkN n T)).length 0, opT L n P c (tkN n T), appL (imQ L sz n P c) (opT L n P c (tkN n T)), (wN L (tkN n T) : Int)) := by
    have el : ((tabL (c + 1) (imQ L sz n P)).length : Int) - 1 = (c : Int) := by rw [q14]; omega
    have stay : (∀ k, k < m → (k + 1) * P ≠ T) → Z138 v1 v2 C (P : Int) (la : Int) (ap : Int) J2 (T : Int) g (imQ L sz n P a) (lfv C (sgL L n P) P E c d (T - 1)) ((a * P : Nat) : Int) (tabL d fun k => (E k : Int)) rec3 (appL (imQ L sz n P c) (opT L n P c (tkN n T))) (wN L (tkN n T) : Int) Φ ((c : Int), sz, [(wN L (bm n P c) : Int)], List.replicate (opT L n P c (tkN n T)).length 0, opT L n P c (tkN n T), 100, seg (cyL L n P) a (c - a), [(a : Int)], [false], tabL (c + 1) (imQ L sz n P)) := fun hk => j6 c (Nat.le_refl _) hcm fun k hkm => by
      have := hH.hc k hkm; have := hk k hkm; omega
    unfold Z139 Join; dsimp only; rw [el, hn, hS.mI]; refine ⟨fun q => ⟨⟨by omega, by omega⟩, fun hmod => ⟨iI (by omega) (by omega), fun hcl => ?_, fun hcl => ?_⟩, fun hmod => ?_⟩, fun q => ?_⟩
    · have hcm' : c < m := by omega
      have hTP : T = (c + 1) * P := by
        have h1 : T % P = 0 := by
          have : ((T % P : Nat) : Int) = 0 := by rw [Int.natCast_emod]; exact hmod
          omega
        have h2 := Nat.div_add_mod T P; rw [h1, Nat.add_zero, Nat.mul_comm] at h2; have h3 : ¬ (c + 1) * P < T := fun g => by have := (hH.hc c hcm').1 g; omega
        have h4 : ¬ c + 1 < T / P := fun g => by
          have := Nat.mul_lt_mul_of_pos_right g hP0; omega
        have h5 : c < T / P := by
          rcases Nat.lt_or_ge c (T / P) with g | g
          · exact g
          · have g1 := Nat.mul_le_mul_right P g
            rcases Nat.eq_zero_or_pos c with z | z
            · rw [z, Nat.zero_mul] at g1; omega
            · have := (hH.hc (c - 1) (by omega)).2 (by omega)
              rw [show c - 1 + 1 = c by omega] at this; omega
        rw [← h2, show T / P = c + 1 by omega]
      have hkP := hS.kP hcm'; have hb := hS.bmk hcm'; have htk : tkN n T = bm n P (c + 1) := by rw [hTP]; rfl
      have hop : opT L n P c (tkN n T) = cwL L n P c := by
        unfold opT cwL; rw [htk, hb.2, hb.1, show c * P + lenK n P c - c * P = lenK n P c by omega]
      have hop1 : opT L n P (c + 1) (tkN n T) = [] := by
        unfold opT; rw [htk, Nat.sub_self]; rfl
      have ho := hS.opn hcm' (Nat.le_refl (lenK n P c)); have hw0 := hS.wN_le (bm_le (n := n) (P := P) (c := c)); have hw1 := hS.wN_le (bm_le (n := n) (P := P) (c := c + 1))
      have hwq : (wN L (tkN n T) : Int) = (wN L (bm n P c) : Int) + ((catL L (c * P) (lenK n P c)).length : Int) := by
        rw [htk, hb.2, hb.1, q721]; omega
      have hY : ∀ i, a ≤ i → i < c → CycY (cyL L n P) i := fun i _ hi => hS.cyc (by omega); have hcl := q629 hz (n := c) (i := T) (p := (wN L (bm n P c) : Int)) (q := (wN L (tkN n T) : Int)) ho (by omega) (by omega) ⟨by omega, by omega⟩ hwq
      have ecy : cycY c T (wN L (tkN n T) : Int) (catL L (c * P) (lenK n P c)) = cyL L n P c := by
        unfold cyL; rw [htk, hTP]; rfl
      rw [ecy] at hcl; rw [hop]; refine ⟨(capP sz (c + 1) (wN L (tkN n T) : Int) [], cyL L n P c, 0, ()), q310 (c := capP sz c (wN L (bm n P c) : Int) (cwL L n P c)) (q528 hz ho) (show 1 ≤ 20 by omega) (fun i hi => ?_) ?_, (fan1 (cyL L n P) a (c + 1), [], 0, ()), ?_, iL (by rw [q17, q14]; omega) (by omega), fun _ => ⟨fun _ => ⟨fun z => absurd rfl z, fun _ => ?_⟩, fun z => absurd rfl z⟩, fun z => absurd rfl z⟩
      · have hi : i < 1 := hi
        obtain rfl : i = 0 := by omega
        show inI (wN L (tkN n T) : Int); rw [htk]; exact iI (by omega) (by omega)
      · show (_, _, _, ()) = _
        have hcl : cloR (capP sz c (wN L (bm n P c) : Int) (cwL L n P c)) (T : Int) [(wN L (tkN n T) : Int)] = _ := hcl; rw [hcl]
      · exact f1_push (Y := cyL L n P) (a := a) (m := c) hY (hS.cyc hcm') (by omega) (by omega) (by omega) rfl
      · have := j6 (c + 1) (by omega) (by omega) fun k hk => by
          refine ⟨fun g => ?_, fun g => ?_⟩
          · rcases Nat.lt_or_ge k (c + 1) with g1 | g1
            · exact g1
            · have g2 := Nat.mul_le_mul_right P (show c + 1 + 1 ≤ k + 1 by omega)
              have g3 : (c + 1 + 1) * P = (c + 1) * P + P := Nat.succ_mul _ _; omega
          · have g2 := Nat.mul_le_mul_right P (show k + 1 ≤ c + 1 by omega)
            omega
        rw [hop1, ← htk, q61 (c + 1) (imQ L sz n P)] at this; exact this
    · exact stay fun k hk => by have := (hH.hc k hk).2 (by omega); omega
    · refine stay fun k hk g => hmod ?_
      rw [← g, Int.natCast_mul]; exact Int.mul_emod_left ..
    · exact stay fun k hk => by
        have := Nat.mul_le_mul_right P (show 1 ≤ k + 1 by omega); omega
  unfold Z141 Join; dsimp only; rw [hn]; refine ⟨fun _ => ⟨fun q => ⟨fun q2 => ⟨iI (by omega) (by omega), iX (by omega) (by omega), ?_⟩, fun q2 => ?_⟩, fun q => ?_⟩, fun z => absurd rfl z⟩
  · obtain ⟨t', rfl⟩ : ∃ t', T = t' + 1 := ⟨T - 1, by omega⟩
    have htn : t' < n := by omega
    have hcm' : c < m := by
      rcases Nat.lt_or_ge c m with g | g
      · exact g
      · have g1 := (hH.hc (m - 1) (by omega)).2 (by omega)
        rw [show m - 1 + 1 = m by omega] at g1; have g2 := (q121 (n := n) (k := m) hP0).2 (by omega); rw [← hS.m_eq] at g2; omega
    have hb := (hS.bmk hcm').1
    have h1 : c * P ≤ t' := by
      rcases Nat.eq_zero_or_pos c with z | z
      · rw [z, Nat.zero_mul]; omega
      · have := (hH.hc (c - 1) (by omega)).2 (by omega)
        rw [show c - 1 + 1 = c by omega] at this; omega
    have h2 : t' < (c + 1) * P := by
      have : ¬ (c + 1) * P < t' + 1 := fun g => by have := (hH.hc c hcm').1 g; omega
      omega
    have e0 : tkN n (t' + 1 - 1) = t' := if_pos htn; have e1 : tkN n (t' + 1) = t' + 1 := by unfold tkN; split <;> omega
    rw [e1] at j5; rw [e0]; have hw0 := hS.wN_le (bm_le (n := n) (P := P) (c := c)); unfold opT at j5 ⊢; rw [hb] at j5 hw0 ⊢; exact add_exa hS hx htn hcm' h1 h2 (p := (wN L (c * P) : Int)) ⟨by omega, by omega⟩ j5
  · have e1 : tkN n (T - 1) = tkN n T := by unfold tkN; split <;> split <;> omega
    rw [e1]; exact j5
  · have e1 : tkN n (T - 1) = tkN n T := by rw [show T - 1 = T by omega]
    rw [e1]; exact j5
theorem hx0 (L : List (List q8)) (sz C : List Int) (P n : Nat) (E : Nat → Nat) : hdX L sz C P n E 0 0 0 0 0 = (0, 0, 0, 0, sz, [0], [], [], 100, [], [0], [false], zeroI sz, zeroI sz, 0, 0, 0, [zeroI sz], []) := by
  have e1 : bm n P 0 = 0 := by unfold bm; rw [Nat.zero_mul]; split <;> omega
  have e2 : tkN n (0 - 1) = 0 := by unfold tkN; split <;> omega
  unfold hdX opT lfv; rw [e1, e2, if_neg (by omega), Nat.zero_mul]; rfl
structure GrO (P la ap m : Nat) (E : Nat → Nat) (T : Nat) (g : Int) (a : Nat) : Prop where
  pos : 0 ≤ g
  top : g ≤ bndE P (fun k => E k + la + ap) m
  lst : 0 < T → (T : Int) - 1 - ((a * P : Nat) : Int) ≤ g
  all : ∀ k, k < a → ((E k + la + ap : Nat) : Int) - (((k + 1) * P : Nat) : Int) ≤ g ∧ (k = 0 ∨ E (k - 1) + la + ap < E k + la + ap → ((E k + la + ap : Nat) : Int) - 1 - ((k * P : Nat) : Int) ≤ g)
theorem mxI_or {a b : Int} : mxI a b = a ∨ mxI a b = b := by unfold mxI; split; exact .inr rfl; exact .inl rfl
theorem q518 {P m : Nat} {A : Nat → Nat} {g : Int} (h0 : 0 ≤ g) (h : ∀ k, k < m → (A k : Int) - (((k + 1) * P : Nat) : Int) ≤ g ∧ (k = 0 ∨ A (k - 1) < A k → (A k : Int) - 1 - ((k * P : Nat) : Int) ≤ g)) : ∀ j, j ≤ m → bndE P A j ≤ g
  | 0, _ => h0
  | j + 1, hj => by
    have h1 := q518 h0 h j (by omega); have h2 := h j (by omega); show mxI _ _ ≤ g; refine q515 ?_ h2.1
    split
    · exact q515 h1 (h2.2 ‹_›)
    · exact h1
theorem GrO.next (hS : SimOk L sz C P la ap n m E) {T a a' c d c' d' : Nat} {g : Int} (hG : GrO P la ap m E T g a) (ham : a < m) (hH : HeadO P la ap m E T a c d) (hH' : HeadO P la ap m E (T + 1) a' c' d') : GrO P la ap m E (T + 1) (mxI g ((T : Int) - ((a' * P : Nat) : Int))) a' := by
  have h1 : g ≤ mxI g ((T : Int) - ((a' * P : Nat) : Int)) := q240; have h2 : (T : Int) - ((a' * P : Nat) : Int) ≤ mxI g ((T : Int) - ((a' * P : Nat) : Int)) := q448; have h3 := hG.pos; have ham' : a' ≤ m := by have := hH'.ad; have := hH'.dc; have := hH'.cm; omega
  refine ⟨by omega, ?_, fun _ => by omega, fun k hk => ?_⟩
  · rcases mxI_or (a := g) (b := (T : Int) - ((a' * P : Nat) : Int)) with e | e
    · rw [e]; exact hG.top
    · rw [e]
      obtain ⟨b, hb⟩ := age_cov (C := C) (Z := sgL L n P) (la := la) (ap := ap) (e := E) hS.fin (fun k _ => Nat.le_refl _) ham hH.ha hH'.ha; have := hb.bnd; have := hb.old; omega
  · rcases Nat.lt_or_ge k a with c1 | c1
    · have := hG.all k c1
      exact ⟨by omega, fun q => by have := this.2 q; omega⟩
    · have hkm : k < m := by omega
      have q1 : E k + la + ap = T := by
        have := (hH'.ha k hkm).2 hk; have : ¬ E k + la + ap < T := fun z => by have := (hH.ha k hkm).1 z; omega
        omega
      have q2 := hS.fin.close hkm; have q3 := (hS.kP hkm).2.2; have q4 := hS.P0; have q5 := hG.lst (by omega); have q6 := Nat.mul_le_mul_right P c1; rw [q1]; exact ⟨by omega, fun _ => by omega⟩
theorem q686 (hS : SimOk L sz C P la ap n m E) (hT : TrOk t C w n P la ap) (he : PlanE C (sizK w n P) P (cycN n P) E) {v1 : q15 × Bool} {v2 : q18 × Int} (hv1 : v1.1 = t) (hv2 : v2.1 = planV P la ap (cycN n P) E) {x : List (List q8) × List Int} (hx : x.1 = L) {Φ : Bool → Prop} (hΦ : Φ true) :
    LoopW (Z142 v1 v2 x C (P : Int) (la : Int) (ap : Int) (Z129 v2 Φ) Φ) (0, 0, 0, 0, sz, [0], [], [], 100, [], [0], [false], zeroI sz, zeroI sz, 0, 0, 0, [zeroI sz], []) := by
  rw [← hx0 L sz C P n E]; have hn : x.1.length = n := by rw [hx]; exact hS.n_eq
  have hb0 : (0 : Int) ≤ bndE P (fun k => E k + la + ap) m := (q449 (P := P) (A := fun k => E k + la + ap) (M := 2000) (by omega) m fun i hi => by
    have := hS.Eb i hi; have := hS.l4; have := hS.a3; show ((E i + la + ap : Nat) : Int) ≤ 2000
    omega).1
  refine LoopW.upS 1500 (fun s : StX => s.2.1) (fun T s => ∃ g a c d, s = hdX L sz C P n E T g a c d ∧ HeadO P la ap m E T a c d ∧ GrO P la ap m E T g a) (fun T s rec hTb _ hI hrec => ?_) 0 rfl (Nat.zero_le _) ⟨0, 0, 0, 0, rfl, ⟨Nat.le_refl _, Nat.le_refl _, Nat.zero_le _, fun k _ => ⟨fun q => absurd q (Nat.not_lt_zero _), fun q => absurd q (Nat.not_lt_zero _)⟩, fun k _ => ⟨fun q => absurd q (Nat.not_lt_zero _), fun q => absurd q (Nat.not_lt_zero _)⟩, fun k _ => ⟨fun q => absurd q (Nat.not_lt_zero _), fun q => absurd q (Nat.not_lt_zero _)⟩⟩, Int.le_refl _, hb0, fun q => absurd q (Nat.not_lt_zero _), fun k hk => absurd hk (Nat.not_lt_zero _)⟩; obtain ⟨g, a, c, d, rfl, hH, hG⟩ := hI; have h1 := hH.ad; have h2 := hH.dc; have h3 := hH.cm; unfold Z142 hdX Join; dsimp only; rw [hn, hS.mI]; refine ⟨fun q => ?_, fun q => ?_⟩
  · have ham : a < m := by omega
    have hTb' : T < 1500 := by
      have g1 : ¬ E a + la + ap < T := fun g => by have := (hH.ha a ham).1 g; omega
      have g2 := hS.Eb a ham; have g3 := hS.l4; have g4 := hS.a3; omega
    rw [decide_eq_true (show (T : Int) < 1500 by omega)]; exact q685 hS hT he hv1 hv2 hx hTb' hH ham fun a' c' d' h => hrec _ hTb' rfl ⟨_, a', c', d', rfl, h, hG.next hS ham hH h⟩
  · have ham : a = m := by omega
    unfold Z141 Join; dsimp only; refine ⟨fun z => absurd z (by simp), fun _ => ?_⟩; rw [hn, hS.mI, decide_eq_true (show (a : Int) = (m : Int) by omega)]; refine ⟨fun _ => ?_, fun z => absurd rfl z⟩; have hle : bndE P (fun k => E k + la + ap) m ≤ g := q518 (A := fun k => E k + la + ap) hG.pos (fun k hk => hG.all k (by omega)) m (Nat.le_refl _); have eb : v2.1.Bound = bndE P (fun k => E k + la + ap) m := by rw [hv2, hS.m_eq]; rfl
    have := hG.top; rw [eb, decide_eq_true (show g = bndE P (fun k => E k + la + ap) m by omega)]; exact hΦ
end
end
section
def frW (s : Nat) : q8 := ⟨0, ((2 * s : Nat) : Int), [Sec.mk (1#8) (BitVec.ofInt 8 ((2 * s : Nat) : Int)) (BitVec.ofInt 8 (((2 * s : Nat) : Int) / 2 ^ (8#64).toNat)) (0#8) (0#8) (0#8) (0#8) (0#8)]⟩
def frT (w : Nat → Nat) (i : Nat) : List q8 := tabL (w i) fun j => frW (sumN w 0 i + j)
def frL (w : Nat → Nat) (n : Nat) : List (List q8) := tabL n (frT w)
def frM (w : Nat → Nat) (n : Nat) : Int := if 1 < ((2 * sumN w 0 n : Nat) : Int) then ((2 * sumN w 0 n : Nat) : Int) else 1
section
variable {w : Nat → Nat} {n : Nat}
theorem q421 (w : Nat → Nat) (k : Nat) : sumN w 0 (k + 1) = sumN w 0 k + w k := by
  show sumN w 0 k + w (0 + k) = _; rw [Nat.zero_add]
theorem q455 (hn : n ≤ 24) (hs : sumN w 0 n ≤ 200) {Φ : List (List q8) × List Int → Prop} (hΦ : Φ (frL w n, [frM w n])) : Z30 (tabL n fun i => (w i : Int)) Φ := by
  have el : (tabL n fun i => (w i : Int)).length = n := q14 _ _; refine LoopW.upT n (fun k => (((2 * sumN w 0 k : Nat) : Int), (k : Int), tabL k (frT w))) rfl (fun k rec hk hr => ?_) fun rec => ⟨fun q => absurd (show (n : Int) < ((tabL n fun i => (w i : Int)).length : Int) from q) (by omega), fun _ => hΦ⟩
  have h1 := q421 w k; have h2 := q380 w 0 (show k + 1 ≤ n by omega); have ei : ix (tabL n fun i => (w i : Int)) (k : Int) = (w k : Int) := q38 hk; refine ⟨fun q => ⟨iX (by omega) q, ?_⟩, fun q => absurd (show (k : Int) < ((tabL n fun i => (w i : Int)).length : Int) by omega) q⟩; refine LoopW.upT (w k) (fun j => (((2 * (sumN w 0 k + j) : Nat) : Int), (j : Int), tabL j fun j => frW (sumN w 0 k + j))) rfl (fun j rec2 hj hr2 => ?_) fun rec2 => ?_
  · refine ⟨fun _ => ⟨by decide, iL (by rw [q17, q14]; omega) (by omega), iI (by omega) (by omega), iI (by omega) (by omega), hr2 _ ?_⟩, fun q => absurd (show (j : Int) < ix (tabL n fun i => (w i : Int)) (k : Int) by omega) q⟩
    rw [q61 j fun j => frW (sumN w 0 k + j), show ((2 * (sumN w 0 k + (j + 1)) : Nat) : Int) = ((2 * (sumN w 0 k + j) : Nat) : Int) + 2 by omega]; rfl
  · refine ⟨fun q => absurd (show (w k : Int) < ix (tabL n fun i => (w i : Int)) (k : Int) from q) (by omega), fun _ => ⟨iL (by rw [q17, q14]; omega) (by omega), iI (by omega) (by omega), hr _ ?_⟩⟩
    rw [h1, q61 k (frT w)]; rfl
theorem q456 {a : Nat} : ∀ j : Nat, a + j ≤ n → catL (frL w n) a j = tabL (sumN w a j) fun i => frW (sumN w 0 a + i)
  | 0, _ => rfl
  | j + 1, h => by
    have ei : ix (frL w n) ((a + j : Nat) : Int) = frT w (a + j) := q38 (by omega); show catL (frL w n) a j ++ ix (frL w n) ((a + j : Nat) : Int) = tabL (sumN w a j + w (a + j)) _; rw [q456 j (by omega), ei]
    have e : sumN w 0 (a + j) = sumN w 0 a + sumN w a j := by
      have := q226 w 0 a j; rwa [Nat.zero_add] at this
    unfold frT; rw [e]; refine q220 (by rw [List.length_append, q14, q14, q14]) fun i hi => ?_; rw [List.length_append, q14, q14] at hi; rw [q38 hi]; rcases Nat.lt_or_ge i (sumN w a j) with c | c
    · rw [q50 (by rw [List.length_append, q14, q14]; exact hi), List.getElem_append_left (by rw [q14]; exact c), ← q50, q38 c]
    · rw [q50 (by rw [List.length_append, q14, q14]; exact hi), List.getElem_append_right (by rw [q14]; exact c), ← q50, q14, q38 (by omega), show sumN w 0 a + sumN w a j + (i - sumN w a j) = sumN w 0 a + i by omega]
theorem q338 {κ ν : Type} [DecidableEq κ] {k : κ} {v : ν} : ∀ {m : List (κ × ν)}, (∀ q ∈ m, q.1 ≠ k) → (mput m k v).length = m.length + 1
  | [], _ => by simp [mput]
  | p :: r, h => by
    unfold mput; rw [if_neg (Ne.symm (h p (List.mem_cons_self ..))), List.length_cons, q338 fun q hq => h q (List.mem_cons_of_mem _ hq), List.length_cons]
theorem q722 (s : Nat) : ∀ q : Nat, (effM (tabL q fun i => frW (s + i))).length = q ∧ ∀ x ∈ effM (tabL q fun i => frW (s + i)), x.1.sector < ((2 * (s + q) : Nat) : Int)
  | 0 => ⟨rfl, fun x hx => by cases hx⟩
  | q + 1 => by
    obtain ⟨h1, h2⟩ := q722 s q
    have e : effM (tabL (q + 1) fun i => frW (s + i)) = mput (effM (tabL q fun i => frW (s + i))) ⟨0, ((2 * (s + q) : Nat) : Int)⟩ (ix (frW (s + q)).Data 0) := by
      rw [q61 q fun i => frW (s + i), q85]; rfl
    rw [e]; refine ⟨?_, fun x hx => ?_⟩
    · rw [q338, h1]
      intro x hx hk; have := h2 x hx; rw [hk] at this; exact absurd this (Int.lt_irrefl _)
    · exact q374 (p := fun c => c.sector < ((2 * (s + (q + 1)) : Nat) : Int)) (by show ((2 * (s + q) : Nat) : Int) < _; omega) (fun y hy => by have := h2 y hy; omega) x hx
end
theorem q637 {x : q13} {e : Nat → Nat} (hX : q304 x) (hsum : sumN (wX x) 0 x.Ticks.length ≤ 200) (he : PlanE (capX x) (sizK (wX x) x.Ticks.length (perX x)) (perX x) (cycN x.Ticks.length (perX x)) e) :
    SimOk (frL (wX x) x.Ticks.length) [frM (wX x) x.Ticks.length] (capX x) (perX x) (latX x) (appX x) x.Ticks.length (cycN x.Ticks.length (perX x)) e := by
  have hT := hX.tr; have hP := hT.P0
  have hM : 1 ≤ frM (wX x) x.Ticks.length ∧ frM (wX x) x.Ticks.length ≤ 4096 ∧ ((2 * sumN (wX x) 0 x.Ticks.length : Nat) : Int) ≤ frM (wX x) x.Ticks.length := by
    unfold frM
    split <;> omega
  have hz : q21 [frM (wX x) x.Ticks.length] = 0 := by
    unfold q21; rw [if_neg (by show ¬ ((1 : Int) < 1 ∨ (8 : Int) < 1); omega)]; refine q33.2 fun k hk => ?_; have hk : k < 1 := hk; obtain rfl : k = 0 := by omega
    show (if frM (wX x) x.Ticks.length < 1 ∨ 4096 < frM (wX x) x.Ticks.length then 2 else 0) = (0 : Int)
    rw [if_neg (by omega)]
  have hcat : ∀ k, k < cycN x.Ticks.length (perX x) → cwL (frL (wX x) x.Ticks.length) x.Ticks.length (perX x) k = tabL (sizK (wX x) x.Ticks.length (perX x) k) fun i => frW (sumN (wX x) 0 (k * perX x) + i) := fun k hk => q456 _ (q454 hP hk)
  have hfit : ∀ i : Nat, i < x.Ticks.length → ∀ y ∈ ix (frL (wX x) x.Ticks.length) (i : Int), fitW [frM (wX x) x.Ticks.length] y = 0 ∧ y.Data.length ≤ 24 := fun i hi y hy => by
    have ei : ix (frL (wX x) x.Ticks.length) (i : Int) = frT (wX x) i := q38 hi; rw [ei] at hy
    obtain ⟨j, hj, rfl⟩ : ∃ j, j < wX x i ∧ frW (sumN (wX x) 0 i + j) = y := by
      obtain ⟨j, hj, e⟩ := List.mem_map.1 hy; exact ⟨j, List.mem_range.1 hj, e⟩
    have h1 := q421 (wX x) i; have h2 := q380 (wX x) 0 (show i + 1 ≤ x.Ticks.length by omega); refine ⟨fitE_of (v := 0) (s := 2 * (sumN (wX x) 0 i + j)) ⟨rfl, rfl, by show 0 < 1; omega, by show 1 ≤ 1; omega, ?_, hM.2.1⟩, by show 1 ≤ 24; omega⟩; show ((2 * (sumN (wX x) 0 i + j) + 1 : Nat) : Int) ≤ frM (wX x) x.Ticks.length; omega
  have hsz : ∀ k, k < cycN x.Ticks.length (perX x) → sizK (wX x) x.Ticks.length (perX x) k ≤ 200 := fun k hk => by
    have h1 := q454 hP hk; have h2 := q226 (wX x) 0 (k * perX x) (lenK x.Ticks.length (perX x) k); rw [Nat.zero_add] at h2; have h3 := q380 (wX x) 0 h1; show sumN (wX x) (k * perX x) (lenK x.Ticks.length (perX x) k) ≤ 200; omega
  have hsg : ∀ k, k < cycN x.Ticks.length (perX x) → sgL (frL (wX x) x.Ticks.length) x.Ticks.length (perX x) k = sizK (wX x) x.Ticks.length (perX x) k := fun k hk => by
    rw [(sg_le hz (q454 hP hk) fun i hi y hy => (hfit i hi y hy).1).2, hcat k hk, (q722 _ _).1]
  refine ⟨q14 _ _, rfl, hT.n24, hP, hT.P6, hT.l4, hT.a3, hT.lnk, hz, hfit, fun k hk => ?_, ?_, fun k hk => ?_, fun k hk => ?_⟩
  · rw [hcat k hk, q14]
    have := hsz k hk; omega
  · unfold wN
    rw [q456 _ (by omega), q14]; omega
  · rw [hsg k hk]; exact he.fin k hk
  · have h4 := he.bnd k hk
    have h5 := hT.kP hk; rw [q381 (wX x) hP (k + 1) (by omega)] at h4; have h6 : sumN (wX x) 0 (if (k + 1) * perX x < x.Ticks.length then (k + 1) * perX x else x.Ticks.length) ≤ sumN (wX x) 0 x.Ticks.length := q380 _ _ (by split <;> omega); omega
theorem q258 (x0 : q13) (_ : Rg.rg x0) : Z144 x0 fun y => y = true := by
  refine q680 (fun t hc hw => q617 hc hw ⟨fun _ => rfl, fun q => absurd (by simp) q⟩) fun hX => ?_; have hT := hX.tr; by_cases hsum : sumN (wX x0) 0 x0.Ticks.length ≤ 200
  · rw [decide_eq_true hsum]
    refine q452 hT (fun e he => ⟨fun q => absurd rfl q, fun _ => ⟨fun q => absurd rfl q, fun _ => ?_⟩⟩) fun _ => ⟨fun _ => rfl, fun _ => ⟨fun _ => rfl, fun q => absurd (show (21 : Int) ≠ 0 by omega) q⟩⟩
    have hS := q637 hX hsum he; have hz := hS.hz; have h24 := hX.n24; have hP0 := hT.P0; have hP6 := hT.P6; refine q455 h24 hsum ?_; unfold Join; refine q67 (fun hz => ?_) fun hz' => absurd hz hz'; refine q377 ?_
    have eo : openR [frM (wX x0) x0.Ticks.length] 1 0 = (⟨0, [frM (wX x0) x0.Ticks.length], [0], [], []⟩, 0) := by
      unfold openR; rw [if_neg (fun q => q hz), if_neg (by omega), if_neg (by omega)]; rfl
    show _; rw [eo]; refine q257 1 100 0 (o := (⟨100, [], [0], [false]⟩, 0)) (by kernel_rfl) ⟨fun _ => ⟨fun _ => ?_, fun q => absurd rfl q⟩, fun q => absurd rfl q⟩; have el : (frL (wX x0) x0.Ticks.length).length = x0.Ticks.length := q14 _ _; refine ⟨fun q => absurd rfl q, fun _ => ⟨?_, ?_, ?_, ?_⟩⟩
    · show inI (((frL (wX x0) x0.Ticks.length).length : Int) + (perX x0 : Int)); exact iI (by omega) (by omega)
    · show inI (((frL (wX x0) x0.Ticks.length).length : Int) + (perX x0 : Int) - 1); exact iI (by omega) (by omega)
    · show 0 ≤ ((frL (wX x0) x0.Ticks.length).length : Int) + (perX x0 : Int) - 1 ∧ inI (((frL (wX x0) x0.Ticks.length).length : Int) + (perX x0 : Int) - 1) ∧ (0 : Int) < (perX x0 : Int)
      exact ⟨by omega, iI (by omega) (by omega), by omega⟩
    · exact q686 hS hT he rfl rfl rfl rfl
  · rw [decide_eq_false hsum]
    exact q452 hT (fun e he => ⟨fun _ => rfl, fun q => absurd (by simp) q⟩) fun _ => ⟨fun _ => rfl, fun q => absurd (by simp) q⟩
end
end Go.Proofs.YtklnkmdgajiebaaGreat
namespace Go.Proofs.YtklnkmdgajiebaaGreat
open Go.RowKit Go.ChangeShapes Go.WideShapes Go.ChangeAt
set_option maxRecDepth 100000 in
theorem q198 (os : Os) (started : os.Started) (H : Type) (enc : TypeId × Value → H) :
    ReturnsInHanded {} Tryz.checked os 3 .any (Rows.topPlanExactSpec.pre6 enc Tryz.prog Tryz.f3 Rows.topPlanExactRow.domain false) (Rows.topPlanExactSpec.post enc Tryz.prog Tryz.f3 false true false false) := by
  refine returnsInHanded_of_change (C := Tryz.checked) Tryz.own started (by kernel_rfl) Tryz.func3
    (ChangeSpec.witness6 (enc := enc) (C := Tryz.checked) false ⟨#[], #[.agg #[.slice none 0 0, .int .u8 (0), .int .u8 (0), .int .u8 (0), .slice none 0 0, .slice none 0 0]], []⟩ 8 (by kernel_rfl) (by kernel_rfl) (by kernel_rfl) (by kernel_rfl)) ?_
  intro W base args ds gs before hval0 hW _ _; have hval : ∀ (j : Nat) t v, Tryz.f3.params[j]? = some t → args[j]? = some v → Value.okWide Tryz.prog W .any base t v := hval0; have hW' := hW; obtain ⟨p, q, hA0, hV, hpq, _, _⟩ := hW; have hA : DataW.TrodAll enc Tryz.prog W 0 (fun _ => true) true Tryz.f3.params.toList args.toList ds p := hA0; rw [Tryz.params3] at hA hval; obtain ⟨v0, d0, rfl, rfl, h0⟩ := trodAll_one hA; obtain ⟨rfl, rfl⟩ := trodVars_none hV; obtain ⟨ks0, x0, rfl, hr0, hg0⟩ := q539 Tryz.underlying26 rd26 (hval 0 26 v0 rfl rfl) h0; refine Calls.mono ((RetP.toV (y := true) (F := fun z => .bool z) (RetP.mono (ok3 (x0, ()) (fun y => y.1 = true) (q258 x0 hg0) (HW W) [.agg ks0.toArray] trivial ⟨_, ks0, _, rfl, by rw [pkw26], (show Dt.rd (α := q13) (HW W) _ _ from hr0), rfl⟩) fun _ _ _ _ ⟨y, hy, hr⟩ => lawRes y hy hr)) W fun b o e => e) ?_
  rintro e W' ⟨v, _, rfl, _, _, _, hb, rfl⟩
  exact ⟨_, rfl, q639 Tryz.laidOut Tryz.underlying4 rfl (by kernel_rfl) hW' rfl rfl hb⟩
theorem topPlanExact_holds : Rows.TopPlanExactSaid :=
  OpenClaim.holds_of_wide 3 Tryz.f3 rfl rfl rfl rfl rfl rfl rfl ⟨rfl, rfl, rfl, rfl, rfl⟩ rfl rfl rfl rfl rfl (by kernel_rfl) Tryz.func3 (by kernel_rfl)
    (of_decide_eq_true (by kernel_rfl)) (by unfold Func.isWrapper; first | (rw [if_pos (by decide +kernel)]; kernel_rfl) | (rw [if_neg (by decide +kernel)]; exact ⟨rfl, rfl⟩))
    (fun os started H enc _ => q198 os started H enc)
end Go.Proofs.YtklnkmdgajiebaaGreat
