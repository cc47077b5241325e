/- Proved: the tied card of the statement TopCommitReleases: for every argument that can be read the law returns true and leaves its arguments as they were. Conditions: the row's own alone. -/
import Derived.Lib.TrailingZeros
import Derived.Shelf.SlicesG.Cmp
import Derived.Shelf.SlGeneric
import Derived.Ground.SlgcProg
import Derived.Ground.SlgmProg
import Derived.Ground.SlsfProg
import Derived.Shelf.SortM.Plain
import Derived.Shelf.SortM.SortNone
import Derived.Test.YtpobhmleblaccaaGreatM6
namespace Go.Proofs.YtpobhmleblaccaaGreat
open Go.RowKit
def szP : List Int := [5, 3]
def volP (s : q16) : Int := ((s.Volume % (2#8)).toNat : Int)
def sizP (s : q16) : Int := ix szP (volP s)
def q135 (s : q16) : Int := (s.Start.toNat : Int) % sizP s
def moreP (s : q16) : Int := (s.Count.toNat : Int) % (sizP s - q135 s)
def dataP (s : q16) : q8 := ⟨volP s, q135 s, tabL ((moreP s).toNat + 1) fun i => Sec.mk s.First (BitVec.ofInt 8 (i : Int)) (0#8) (0#8) (0#8) (0#8) (0#8) (0#8)⟩
theorem q683 (s : q16) : volP s = 0 ∨ volP s = 1 := by
  have : (s.Volume % (2#8)).toNat = s.Volume.toNat % 2 := by simp [BitVec.toNat_umod]
  unfold volP; rw [this]; omega
theorem q278 (s : q16) : 0 ≤ volP s ∧ volP s < 2 ∧ (sizP s = 5 ∨ sizP s = 3) := by
  rcases q683 s with h | h
  · exact ⟨by omega, by omega, .inl (by unfold sizP; rw [h]; rfl)⟩
  · exact ⟨by omega, by omega, .inr (by unfold sizP; rw [h]; rfl)⟩
theorem q239 (s : q16) : 0 ≤ q135 s ∧ q135 s < sizP s := by
  have := (q278 s).2.2; unfold q135; exact ⟨Int.emod_nonneg _ (by omega), Int.emod_lt_of_pos _ (by omega)⟩
theorem q387 (s : q16) : 0 ≤ moreP s ∧ moreP s < sizP s - q135 s := by
  have h1 := q239 s; unfold moreP; exact ⟨Int.emod_nonneg _ (by omega), Int.emod_lt_of_pos _ (by omega)⟩
theorem q388 (s : q16) : fitW szP (dataP s) = 0 := by
  obtain ⟨v0, v1, v2⟩ := q278 s; have h1 := q239 s; have h2 := q387 s
  have hl : ((dataP s).Data.length : Int) = moreP s + 1 := by
    show ((tabL ((moreP s).toNat + 1) _).length : Int) = _; rw [q25]; omega
  have hs : ix szP (dataP s).Volume = sizP s := rfl; have hv : (dataP s).Volume = volP s := rfl; have hst : (dataP s).Start = q135 s := rfl; unfold fitW; rw [hs, hl, hv, hst, if_neg (by show ¬ (volP s < 0 ∨ (2 : Int) ≤ volP s); omega), if_neg (by omega), if_neg (by omega)]
theorem q269 {s : q16} {Φ : q8 → Prop} (hΦ : Φ (dataP s)) : Z11 s Φ := by
  obtain ⟨v0, v1, v2⟩ := q278 s; have h1 := q239 s; have h2 := q387 s; have e1 : ix szP ((s.Volume % (2#8)).toNat : Int) = sizP s := rfl; have e2 : (s.Start.toNat : Int) % sizP s = q135 s := rfl; have e3 : (s.Count.toNat : Int) % (sizP s - q135 s) = moreP s := rfl; refine ⟨(szP, ()), rfl, by decide, iX v0 (by show volP s < 2; omega), ⟨by omega, by show sizP s ≠ 0; omega⟩, by decide, ?_⟩; refine LoopW.upT ((moreP s).toNat + 1) (fun k => ((k : Int), tabL k fun i => Sec.mk s.First (BitVec.ofInt 8 (i : Int)) (0#8) (0#8) (0#8) (0#8) (0#8) (0#8))) rfl (fun k rec hk hr => ?_) fun rec => ?_
  · refine ⟨?_, ?_, fun _ => ⟨iL (by rw [q20, q25]; omega) (by omega), iI (by omega) (by omega), hr _ (pairE rfl (q277 _ _).symm)⟩, fun q => absurd (show (k : Int) ≤ moreP s by omega) q⟩
    · show inI (sizP s - q135 s); exact iI (by omega) (by omega)
    · exact ⟨by omega, by show sizP s - q135 s ≠ 0; omega⟩
  · refine ⟨?_, ?_, fun q => absurd (show (((moreP s).toNat + 1 : Nat) : Int) ≤ moreP s from q) (by omega), fun _ => hΦ⟩
    · show inI (sizP s - q135 s); exact iI (by omega) (by omega)
    · exact ⟨by omega, by show sizP s - q135 s ≠ 0; omega⟩
theorem q151 : q28 szP = 0 := by decide
theorem q520 (s : q16) : (dataP s).Data.length ≤ 6 := by
  have h1 := q239 s; have h2 := q387 s; have h3 := (q278 s).2.2; show (tabL ((moreP s).toNat + 1) _).length ≤ 6; rw [q25]; omega
def capP (n : Nat) (p : Int) (l : List q8) : q12 := ⟨(n : Int), szP, [p], List.replicate l.length 0, l⟩
structure q176 (m : Nat) (l : List q8) : Prop where
  len : l.length ≤ m
  fit : ∀ w ∈ l, fitW szP w = 0
  data : ∀ w ∈ l, w.Data.length ≤ 6
theorem q625 {n k : Nat} (h : k < n) : ix (List.replicate n (0 : Int)) (k : Int) = 0 := by
  rw [q77 (by rw [List.length_replicate]; exact h), List.getElem_replicate]
theorem q626 (n : Nat) : ∀ k : Nat, k ≤ n → cnt (List.replicate n (0 : Int)) 0 k = k
  | 0, _ => rfl
  | k + 1, h => by rw [q381, q626 n k (by omega), q625 (by omega), if_pos rfl]
theorem q389 {least p : Int} (h0 : least ≤ 1) (h1 : 0 ≤ p) (h2 : p ≤ 1073741824) : posR least [p] = 0 := by
  unfold posR; rw [if_neg (by show ¬ ((1 : Int) < least ∨ (8 : Int) < 1); omega)]; refine q35.2 fun k hk => ?_; have hk : k < 1 := hk; obtain rfl : k = 0 := by omega
  show (if p < 0 ∨ 1073741824 < p then 2 else 0) = (0 : Int)
  rw [if_neg (by omega)]
theorem q627 {n : Nat} {p : Int} {l : List q8} {m : Nat} (h : q176 m l) (hm : m ≤ 40) (hn : n ≤ 40) (hp : 0 ≤ p ∧ p ≤ 40) : cptE (capP n p l) = 0 := by
  have hl := h.len; unfold cptE; have e1 : (capP n p l).Sizes = szP := rfl; have e2 : (capP n p l).Number = (n : Int) := rfl; have e3 : (capP n p l).Positions = [p] := rfl; have e4 : (capP n p l).Nodes = List.replicate l.length 0 := rfl; have e5 : (capP n p l).Writes = l := rfl; rw [e1, e2, e3, e4, e5, if_neg (fun t => t q151), if_neg (by omega), if_neg (fun t => t (q389 (by omega) hp.1 (by omega))), if_neg (by rw [List.length_replicate]; omega)]; refine q35.2 fun k hk => ?_; unfold nodW; rw [e1, e3, e4, e5, q625 hk, if_neg (by show ¬ ((0 : Int) < 0 ∨ (1 : Int) ≤ 0); omega)]; exact h.fit _ (q93 (iX (by omega) (by omega)))
theorem q530 {n : Nat} {p : Int} {l : List q8} {m : Nat} (h : q176 m l) (hm : m ≤ 40) : q711 (capP n p l) := by
  have hl := h.len; exact ⟨by show 2 ≤ 20; omega, by show 1 ≤ 20; omega, by show (List.replicate l.length (0 : Int)).length ≤ 60; rw [List.length_replicate]; omega, by show l.length ≤ 40; omega, fun w hw => by have := h.data w hw; omega⟩
theorem add_one {n : Nat} {p : Int} {l : List q8} {m : Nat} {w : q8} (h : q176 m l) (hm : m ≤ 40) (hn : n ≤ 40) (hp : 0 ≤ p ∧ p ≤ 40) (hw : fitW szP w = 0) : addR (capP n p l) 0 w = (capP n p (l ++ [w]), 0) := by
  have hl := h.len
  have e : addE (capP n p l) 0 w = 0 := by
    unfold addE; rw [if_neg (fun t => t (q627 h hm hn hp)), if_neg (by show ¬ ((0 : Int) < 0 ∨ (1 : Int) ≤ 0); omega), if_neg (fun t => t hw), if_neg (by show ¬ 4096 ≤ l.length; omega)]
  unfold addR; rw [if_neg (fun t => t e)]; unfold capP; rw [q20, List.replicate_succ']
def cycY (n i : Nat) (q : Int) (l : List q8) : q10 := ⟨(n : Int), (n : Int) + 1, (i : Int), [q], canL (effM l)⟩
theorem q628 {n i : Nat} {p q : Int} {l : List q8} {m : Nat} (h : q176 m l) (hm : m ≤ 40) (hn : n ≤ 40) (hi : i ≤ 40) (hp : 0 ≤ p ∧ p ≤ 40) (hq : q = p + (l.length : Int)) : cloR (capP n p l) (i : Int) [q] = (capP (n + 1) q [], cycY n i q l, 0) := by
  have hl := h.len; have c0 : ∀ k, k ≤ l.length → cnt (List.replicate l.length (0 : Int)) 0 k = k := fun k hk => q626 _ _ hk
  have hb : badB (capP n p l) [q] = false := q345 fun k hk hbad => by
    have hk : k < 1 := hk; obtain rfl : k = 0 := by omega
    unfold badI at hbad; have e1 : ix [q] ((0 : Nat) : Int) = q := rfl; have e2 : ix (capP n p l).Positions ((0 : Nat) : Int) = p := rfl
    have e3 : cnt (capP n p l).Nodes ((0 : Nat) : Int) (capP n p l).Nodes.length = l.length := by
      show cnt (List.replicate l.length (0 : Int)) 0 (List.replicate l.length (0 : Int)).length = _; rw [List.length_replicate]; exact c0 _ (Nat.le_refl _)
    rw [e1, e2, e3] at hbad; omega
  have hE : cloE (capP n p l) (i : Int) [q] = 0 := by
    unfold cloE; rw [if_neg (fun t => t (q627 h hm hn hp)), if_neg (by omega), if_neg (by show ¬ (1 ≠ 1); omega), if_neg (by rw [hb]; simp)]
  have hin : ∀ k, k < l.length → inB (capP n p l) [q] k = true := fun k hk => by
    unfold inB partF; have e1 : ix (capP n p l).Nodes (k : Int) = 0 := q625 hk; rw [e1]; have e2 : dT (capP n p l) [q] (0 : Int).toNat = q - p := rfl; have e3 : cnt (capP n p l).Nodes 0 k = k := c0 k (by omega); rw [e2, e3]; refine decide_eq_true ?_; unfold pos0; rw [if_neg (by omega)]; omega
  have f1 : (List.range l.length).filter (inB (capP n p l) [q]) = List.range l.length := List.filter_eq_self.2 fun k hk => hin k (List.mem_range.1 hk); have f2 : ((List.range l.length).filter fun j => !inB (capP n p l) [q] j) = [] := List.filter_eq_nil_iff.2 fun k hk => by rw [hin k (List.mem_range.1 hk)]; simp
  have s1 : selW (capP n p l) (inB (capP n p l) [q]) (capP n p l).Writes.length = l := by
    show ((List.range l.length).filter _).map (fun j : Nat => ix l (j : Int)) = l; rw [f1]; exact q513 l
  have s2 : outN (capP n p l) (inB (capP n p l) [q]) (capP n p l).Writes.length = [] := by
    show ((List.range l.length).filter _).map _ = _; rw [f2]; rfl
  have s3 : outW (capP n p l) (inB (capP n p l) [q]) (capP n p l).Writes.length = [] := by
    show ((List.range l.length).filter _).map _ = _; rw [f2]; rfl
  unfold cloR; rw [if_neg (fun t => t hE), s1, s2, s3]; rfl
theorem q629 {m : Nat} {l : List q8} (h : q176 m l) : secN l ≤ m * 6 := by
  have := q344 l h.data; have := h.len; have := Nat.mul_le_mul_right 6 h.len; omega
structure CycOk (k : Nat) (c : q10) : Prop where
  base : c.Base = (k : Int)
  num : c.Number = (k : Int) + 1
  chk : cycE c szP = 0
  pos : c.Positions.length ≤ 20
  len : c.Writes.length ≤ 240
  data : ∀ w ∈ c.Writes, w.Data.length ≤ 240
theorem q390 {n i : Nat} {q : Int} {l : List q8} {m : Nat} (h : q176 m l) (hm : m ≤ 40) (hn : n ≤ 40) (hi : i ≤ 40) (hq : 0 ≤ q ∧ q ≤ 60) : CycOk n (cycY n i q l) := by
  have C := q453 (fun t => t q151) h.fit; have hfit := q452 C (q512 (fun t => t q151) h.fit); have hs := q629 h; have he := q663 l; have hsum := C.sum; refine ⟨rfl, rfl, ?_, by show 1 ≤ 20; omega, ?_, fun w hw => ?_⟩
  · unfold cycE cycY
    simp only; rw [if_neg (fun t => t q151), if_neg (by omega), if_neg (by omega), if_neg (fun t => t (q389 (by omega) hq.1 (by omega)))]; exact q607 C hfit
  · have := can_len C
    show (canL (effM l)).length ≤ 240; omega
  · have := q608 w hw
    have e : secN (cycY n i q l).Writes = secN (canL (effM l)) := rfl; omega
theorem q630 : q28 mostF = 0 := by decide
theorem q684 {w : q8} (h : fitW szP w = 0) : fitW mostF w = 0 := by
  obtain ⟨h1, h2, h3, h4, h5, h6⟩ := q309 (fun t => t q151) h; have h2 : w.Volume < 2 := h2
  have h7 : ix szP w.Volume ≤ 5 ∧ ix mostF w.Volume = 4096 := by
    rcases (show w.Volume = 0 ∨ w.Volume = 1 by omega) with e | e
    · rw [e]; exact ⟨by show (5 : Int) ≤ 5; omega, rfl⟩
    · rw [e]; exact ⟨by show (3 : Int) ≤ 5; omega, rfl⟩
  unfold fitW; rw [h7.2, if_neg (by show ¬ (w.Volume < 0 ∨ (8 : Int) ≤ w.Volume); omega), if_neg (by omega), if_neg (by omega)]
theorem keepY {n i : Nat} {q : Int} {l : List q8} {m : Nat} (h : q176 m l) (hm : m ≤ 40) (hn : n ≤ 40) (hi : i ≤ 40) (hq : 0 ≤ q ∧ q ≤ 60) : q313 (cycY n i q l) := by
  have c := q390 h hm hn hi hq; have hf : ∀ w ∈ l, fitW mostF w = 0 := fun w hw => q684 (h.fit w hw); have C := q453 (fun t => t q151) h.fit; have hfit := q452 C (q512 (fun t => t q630) hf); refine ⟨by have := c.pos; omega, by have := c.len; omega, fun w hw => by have := c.data w hw; omega, ?_⟩; unfold cycE cycY; simp only; rw [if_neg (fun t => t q630), if_neg (by omega), if_neg (by omega), if_neg (fun t => t (q389 (by omega) hq.1 (by omega)))]; exact q607 C hfit
theorem q631 {im : List (List Sec)} (h : szs im = szP) : imgE im = 0 := by unfold imgE; rw [h]; exact q151
theorem applyY {im : List (List Sec)} {n i : Nat} {q : Int} {l : List q8} {m : Nat} (hs : szs im = szP) (h : q176 m l) (hm : m ≤ 40) (hn : n ≤ 40) (hi : i ≤ 40) (hq : 0 ≤ q ∧ q ≤ 60) : appR im (cycY n i q l) = (appL im l, 0) := by
  have c := (q390 h hm hn hi hq).chk; unfold appR; rw [if_neg (fun t => t (q631 hs)), hs, if_neg (fun t => t c)]; show (appL im (canL (effM l)), (0 : Int)) = _; rw [q667 (by rw [hs]; exact fun t => t q151) fun w hw => by rw [hs]; exact h.fit w hw]
abbrev S19 := Int × List Int × List Int × List Int × List q8 × Int × List (List Sec) × Int × List q10 × List Int × List Bool × List (List Sec) × List (List Sec) × List (List Sec) × Int × Int × Int × Bool × (List (Int × List (List Sec)))
structure Inv (k n p : Nat) (op : List q8) (Y : Nat → q10) (I : Nat → List (List Sec)) (b m : Nat) (a : Nat → Nat) (l : Nat → Bool) (imgs : List (Int × List (List Sec))) : Prop where
  opn : q176 k op
  nk : n ≤ k
  pk : p + op.length ≤ k
  fit : ∀ j, j ≤ n → szs (I j) = szP
  app : ∀ j, j < n → appR (I j) (Y j) = (I (j + 1), 0)
  cyc : ∀ j, j < n → CycOk j (Y j) ∧ q313 (Y j)
  img : ∀ j : Nat, j ≤ n → mget imgs (j : Int) [] = I j
  fan : FanOk Y b m a l
  mn : m ≤ n
  un : (∃ i, i < 3 ∧ l i = false) → m = n
section
section
variable {k n p : Nat} {op : List q8} {Y : Nat → q10} {I : Nat → List (List Sec)} {b m : Nat} {a : Nat → Nat} {l : Nat → Bool} {imgs : List (Int × List (List Sec))}
theorem FanOk.appliedN (h : FanOk Y b m a l) {t : Nat} {N : Int} (eN : N = ((a t + 1 : Nat) : Int)) (ht : t < 3) (hl : l t = false) (ha : a t < m) {Φ : q13 × Int → Prop} (hΦ : ∀ b', FanOk Y b' m (setF a t (a t + 1)) l → Φ (fanF Y b' m (setF a t (a t + 1)) l, 0)) : Z93 (fanF Y b m a l) (t : Int) N Φ := by
  subst eN; exact h.applied ht hl ha hΦ
end
end
section
theorem q632 : openR szP 1 0 = (capP 0 0 [], 0) := by
  unfold openR; rw [if_neg (fun t => t q151), if_neg (by omega), if_neg (by omega)]; rfl
def stW : q16 := ⟨0#8, 0#8, 0#8, 0#8, 5#8⟩
def im1 : List (List Sec) := appL (zeroI szP) [dataP stW]
theorem op0 (m : Nat) : q176 m [] := ⟨Nat.zero_le _, fun _ hw => absurd hw List.not_mem_nil, fun _ hw => absurd hw List.not_mem_nil⟩
theorem op1 : q176 1 [dataP stW] := ⟨Nat.le_refl _, fun w hw => by rw [List.mem_singleton.1 hw]; exact q388 _, fun w hw => by rw [List.mem_singleton.1 hw]; exact q520 _⟩
theorem fan0 (Y : Nat → q10) : FanOk Y 0 0 (fun _ => 0) (fun _ => false) := ⟨fun k h1 h2 => absurd h2 (by omega), Nat.le_refl _, by omega, by omega, fun i _ => Nat.le_refl _, fun i _ _ => Nat.le_refl _, fun q => absurd q (by omega), fun _ => ⟨0, by omega, rfl⟩⟩
section
variable {Φ : Bool → Prop} {imgs : List (Int × List (List Sec))}
abbrev A0 : List Int := tabL 3 fun _ => ((0 : Nat) : Int)
abbrev L0 : List Bool := tabL 3 fun _ => false
theorem ex0 {rec2 : Int × S19 → Prop} (hr : rec2 (1, 0, szP, [0], [0], [dataP stW], 1, im1, 3, [], A0, L0, zeroI szP, zeroI szP, zeroI szP, 0, 0, 0, true, imgs)) : Z114 Φ (0, 0, szP, [0], [], [], 0, zeroI szP, 3, [], A0, L0, zeroI szP, zeroI szP, zeroI szP, 0, 0, 0, true, imgs) rec2 := by
  have hz : szs (zeroI szP) = szP := q171 q151; refine ⟨fun _ => ⟨iX (by omega) (by show (0 : Int) < 3; omega), by decide, by decide, fun _ => ?_, fun q => absurd (by decide) q⟩, fun q => absurd (show (0 : Int) < 3 by omega) q⟩; refine ⟨fun _ => q269 ?_, fun q => absurd rfl q⟩; show q147 (capP 0 ((0 : Nat) : Int) []) 0 (dataP stW) _; refine q419 (by show 1 ≤ 100000; omega) (by show 0 ≤ 100000; omega) (by show 0 ≤ 100000; omega) (fun w hw => absurd hw List.not_mem_nil) (by have := q520 stW; omega) ?_; rw [add_one (op0 0) (by omega) (by omega) ⟨by omega, by omega⟩ (q388 stW)]; refine q194 (by show 1 ≤ 1000000; omega) (q631 hz) (fun w hw => by rw [List.mem_singleton.1 hw, hz]; exact q388 _) ⟨fun q => absurd rfl q, fun _ => ?_⟩; rw [decide_eq_false (by simp)]; exact ⟨fun q => absurd q (by simp), fun _ => ⟨iI (by omega) (by omega), iI (by omega) (by omega), hr⟩⟩
def yE : q10 := cycY 0 1 1 [dataP stW]
theorem ex1 {rec2 : Int × S19 → Prop} (hr : FanOk (fun _ => yE) 0 1 (fun _ => 0) (fun _ => false) → rec2 (2, 1, szP, [1], [], [], 1, im1, 3, seg (fun _ => yE) 0 1, A0, L0, zeroI szP, zeroI szP, zeroI szP, 0, 0, 0, true, mput imgs yE.Number im1)) : Z114 Φ (1, 0, szP, [0], [0], [dataP stW], 1, im1, 3, [], A0, L0, zeroI szP, zeroI szP, zeroI szP, 0, 0, 0, true, imgs) rec2 := by
  have hq : (0 : Int) ≤ 1 ∧ (1 : Int) ≤ 60 := ⟨by omega, by omega⟩
  have hc := q390 (n := 0) (i := 1) (q := 1) op1 (by omega) (by omega) (by omega) hq; have hkp := keepY (n := 0) (i := 1) (q := 1) op1 (by omega) (by omega) (by omega) hq; refine ⟨fun _ => ⟨iX (by omega) (by show (1 : Int) < 3; omega), by decide, by decide, fun q => absurd q (by decide), fun _ => ?_⟩, fun q => absurd (show (1 : Int) < 3 by omega) q⟩; rw [decide_eq_false (by decide)]; refine ⟨fun q => absurd q (by simp), fun _ => ⟨fun _ => ?_, fun q => absurd (by decide) q⟩⟩; show q102 (capP 0 ((0 : Nat) : Int) [dataP stW]) ((1 : Nat) : Int) [1] _; refine q321 (q530 op1 (by omega)) (by show 1 ≤ 20; omega) (fun i hi => ?_) ?_
  · have hi : i < 1 := hi
    obtain rfl : i = 0 := by omega
    show inI 1; exact iI (by omega) (by omega)
  rw [q628 (n := 0) (i := 1) (p := ((0 : Nat) : Int)) (q := 1) op1 (by omega) (by omega) (by omega) ⟨by omega, by omega⟩ rfl]; refine ⟨fun q => absurd rfl q, fun _ => ?_⟩; have hy : CycY (fun _ => yE) 0 := ⟨hc.base, hc.num, hkp⟩
  refine (fan0 fun _ => yE).push hy (by omega) (fun hall => absurd (hall 0 (by omega)) (by simp)) fun b' m' l' q hf h1 h2 h3 => ⟨fun r => absurd (show (0 : Int) = 17 from r) (by omega), fun _ => ⟨fun r => absurd (show (0 : Int) = 15 from r) (by omega), fun _ => ⟨fun r => absurd rfl r, fun _ => ⟨iI (by omega) (by omega), ?_⟩⟩⟩⟩
  obtain ⟨rfl, rfl⟩ := h3 (by omega); obtain rfl := h2 ⟨0, by omega, rfl⟩; exact hr hf
theorem ex2 {rec2 : Int × S19 → Prop} (h : FanOk (fun _ => yE) 0 1 (fun _ => 0) (fun _ => false)) {mx : List (Int × List (List Sec))} (hr : ∀ b', FanOk (fun _ => yE) b' 1 (setF (fun _ => 0) 0 1) (fun _ => false) → rec2 (3, 1, szP, [1], [], [], 1, im1, 3, seg (fun _ => yE) b' (1 - b'), (tabL 3 fun i => ((setF (fun _ => 0) 0 1 i : Nat) : Int)), L0, im1, zeroI szP, zeroI szP, 1, 0, 0, true, mx)) : Z114 Φ (2, 1, szP, [1], [], [], 1, im1, 3, seg (fun _ => yE) 0 1, A0, L0, zeroI szP, zeroI szP, zeroI szP, 0, 0, 0, true, mx) rec2 := by
  have hq : (0 : Int) ≤ 1 ∧ (1 : Int) ≤ 60 := ⟨by omega, by omega⟩
  have hc := q390 (n := 0) (i := 1) (q := 1) op1 (by omega) (by omega) (by omega) hq; have en : yE.Number = ((0 + 1 : Nat) : Int) := hc.num; have eb : yE.Base = 0 := hc.base; have hz : szs (zeroI szP) = szP := q171 q151; have hz2 := q59 (show q28 (szs (zeroI szP)) = 0 from q631 hz); rw [q54] at hz2
  have ap : q58 (zeroI szP) yE fun z => (z.1, z.2, ()) = (im1, (0 : Int), ()) := by
    have h1 := hc.pos; have h2 := hc.len; refine q322 (by omega) (by show (yE).Positions.length ≤ 100000; unfold yE; omega) (by show (yE).Writes.length ≤ 100000; unfold yE; omega) (fun w hw => by have := hc.data w hw; omega) ?_; rw [show appR (zeroI szP) yE = (im1, 0) from applyY hz op1 (by omega) (by omega) (by omega) hq]
  refine ⟨fun _ => ⟨iX (by omega) (by show (2 : Int) < 3; omega), by decide, by decide, fun q => absurd q (by decide), fun _ => ?_⟩, fun q => absurd (show (2 : Int) < 3 by omega) q⟩; rw [decide_eq_false (by decide)]; refine ⟨fun q => absurd q (by simp), fun _ => ⟨fun q => absurd q (by decide), fun _ => ⟨fun _ => ?_, fun q => absurd (by decide) q⟩⟩⟩; refine ⟨fun _ => ⟨fun q => absurd (show ((tabL 3 fun _ => false).length : Int) = 3 by rw [q25]; rfl) q, fun _ => ⟨iX (by decide) (by decide), ?_⟩⟩, fun q => absurd rfl q⟩; refine ⟨fun q => absurd q (by decide), fun _ => ?_⟩; refine h.next (t := 0) (by omega) (fun q => absurd q (by simp)) fun _ _ => ⟨fun q => absurd rfl q, fun _ => ?_⟩
  refine ⟨⟨by decide, by decide⟩, fun _ => ⟨rfl, ⟨by omega, by omega⟩, (im1, 0, ()), ap, ?_⟩, fun q => absurd q (by decide), fun q => absurd q (by decide), trivial⟩; unfold Z107; refine h.appliedN (t := 0) en (by omega) rfl (by omega) fun b2 hf => ?_
  have fin : Z106 2 1 szP [1] [] [] 1 im1 3 (seg (fun _ => yE) 0 1) A0 L0 (zeroI szP) (zeroI szP) (zeroI szP) 0 0 0 true mx rec2 (yE, true) im1 (fanF (fun _ => yE) b2 1 (setF (fun _ => 0) 0 (0 + 1)) (fun _ => false), 0) Φ (0, decide (yE.Number ≤ 0)) := by
    rw [decide_eq_false (by rw [en]; omega)]; refine ⟨fun q => absurd q (by simp), fun _ => ⟨⟨by omega, by omega⟩, fun _ => ⟨⟨by omega, by omega⟩, ⟨by omega, by omega⟩, iI (by omega) (by omega), ?_⟩, fun q => absurd q (by omega), fun q => absurd q (by omega), trivial⟩⟩; have := hr b2 hf; show rec2 (3, 1, szP, [1], [], [], 1, im1, 3, seg (fun _ => yE) b2 (1 - b2), _, L0, im1, zeroI szP, zeroI szP, yE.Number, 0, 0, true, mx); rw [en]; exact this
  exact ⟨⟨by omega, by omega⟩, fun _ => ⟨rfl, fun q => absurd rfl q, fun _ => ⟨fun q => absurd rfl q, fun _ => ⟨⟨by omega, by omega⟩, fun q => absurd (show (0 : Int) < yE.Base from q) (by rw [eb]; omega), fun _ => ⟨⟨by omega, by omega⟩, fin⟩⟩⟩⟩, fun q => absurd q (by omega), fun q => absurd q (by omega), trivial⟩
theorem ex3 {rec2 : Int × S19 → Prop} {b' : Nat} (h : FanOk (fun _ => yE) b' 1 (setF (fun _ => 0) 0 1) (fun _ => false)) {mx : List (Int × List (List Sec))} (hΦ : Φ true) : Z114 Φ (3, 1, szP, [1], [], [], 1, im1, 3, seg (fun _ => yE) b' (1 - b'), (tabL 3 fun i => ((setF (fun _ => 0) 0 1 i : Nat) : Int)), L0, im1, zeroI szP, zeroI szP, 1, 0, 0, true, mx) rec2 := by
  have e1 : im1.length = 2 := by kernel_rfl
  have e2 : (ix im1 0).length = 5 := by kernel_rfl
  have e3 : ix (ix im1 0) 0 = Sec.mk (5#8) (0#8) (0#8) (0#8) (0#8) (0#8) (0#8) (0#8) := by kernel_rfl
  refine ⟨fun q => absurd (show (3 : Int) < 3 from q) (by omega), fun _ => ⟨fun _ => ⟨⟨by omega, by omega⟩, fun _ => ⟨⟨by omega, by omega⟩, fun _ => ⟨⟨by omega, by omega⟩, iX (by omega) (by rw [e1]; omega), iX (by omega) (by rw [e2]; omega), fun _ => h.oldest ?_, fun q => absurd e3 q⟩, fun q => absurd (by rw [e1]; rfl) q⟩, fun q => absurd rfl q⟩, fun q => absurd rfl q⟩⟩; have eo : oldF (setF (fun _ => 0) 0 1) (fun _ => false) = 0 := by decide
  rw [eo, decide_eq_true rfl]; exact hΦ
end
end
theorem q240 {Φ : Bool → Prop} (hΦ : Φ true) : Z119 Φ := by
  unfold Z119; unfold Join Z0; dsimp only; refine q67 (l := szP) (fun _ => ?_) fun t => absurd q151 t; refine q380 (sizes := szP) ?_; rw [q632]; refine q150 3 3 0 (o := (⟨3, [], [0, 0, 0], [false, false, false]⟩, 0)) (by kernel_rfl) ⟨fun _ => ⟨fun _ => ?_, fun t => absurd rfl t⟩, fun t => absurd rfl t⟩; refine LoopW.upT 3 (fun t => ((t : Int), if 0 < t then zeroI szP else [], if 1 < t then zeroI szP else [], if 2 < t then zeroI szP else [])) rfl (fun t rec ht hr => ?_) fun rec => ⟨fun t => absurd (show (3 : Int) < 3 from t) (by omega), fun _ => ⟨4, ex0 (rec2 := LoopN (Z114 Φ) 3) (ex1 (rec2 := LoopN (Z114 Φ) 2) (fun h => ex2 (rec2 := LoopN (Z114 Φ) 1) h fun _ h' => ex3 (rec2 := LoopN (Z114 Φ) 0) h' hΦ))⟩⟩
  rcases (show t = 0 ∨ t = 1 ∨ t = 2 by omega) with rfl | rfl | rfl
  · exact ⟨fun _ => ⟨⟨by omega, by omega⟩, fun _ => ⟨rfl, rfl, ⟨by omega, by omega⟩, iI (by omega) (by omega), hr _ rfl⟩, fun t => absurd t (by omega), fun t => absurd t (by omega), trivial⟩, fun t => absurd (show ((0 : Nat) : Int) < 3 by omega) t⟩
  · exact ⟨fun _ => ⟨⟨by omega, by omega⟩, fun t => absurd t (by omega), fun _ => ⟨rfl, rfl, ⟨by omega, by omega⟩, iI (by omega) (by omega), hr _ rfl⟩, fun t => absurd t (by omega), trivial⟩, fun t => absurd (show ((1 : Nat) : Int) < 3 by omega) t⟩
  · exact ⟨fun _ => ⟨⟨by omega, by omega⟩, fun t => absurd t (by omega), fun t => absurd t (by omega), fun _ => ⟨rfl, rfl, ⟨by omega, by omega⟩, iI (by omega) (by omega), hr _ rfl⟩, trivial⟩, fun t => absurd (show ((2 : Nat) : Int) < 3 by omega) t⟩
section
abbrev StC := Int × Int × Int × List q10 × List Int × List Bool × Int × Int × Int × Int × Int × Int × List Int × Int × Int × List q11
abbrev StD := Int × Int × Int × Int × Int × Int × Int × List Int × Int × Int × List q11
def stC (i n a b ts ta : Nat) (l : List q11) : StC := ((n : Int), (i : Int), 64, seg cyW a (n - a), [(a : Int)], [false], 1, 2, (ts : Int), (ta : Int), 1, 2, offL a n, (b : Int), (a : Int), l)
def stD (k n a b ts ta : Nat) (l : List q11) : StD := ((k : Int), 1, 2, (ts : Int), (ta : Int), 1, 2, offL a n, (b : Int), (a : Int), l)
structure CR (n a b ts ta : Nat) (l : List q11) : Prop where
  ab : a ≤ b
  bn : b ≤ n
  ata : a ≤ ta
  tt : ta ≤ ts
  tn : ts ≤ n
  n40 : n ≤ 40
  msg : ∀ x ∈ l, MsgOk ts ta x
section
variable {x0 : List q17} {x1 : List (BitVec 8)} {Φ : Bool → Prop} {i n a b ts ta : Nat} {l : List q11} {rec2 : StC → Prop}
theorem j5_end {a' b' : Nat} (h : CR n a b ts ta l) (hi : i ≤ 40) {rec4 : StD → Prop} {v37 : Int} {l' : List q11} (h1 : a ≤ a') (h' : CR n a' b' ts ta l') (hr : rec2 (stC (i + 1) n a' b' ts ta l')) :
    Z150 x1 (i : Int) rec2 (n : Int) 64 (seg cyW a (n - a)) [(a : Int)] [false] v37 1 2 (ts : Int) (ta : Int) 1 2 (offL a' n) (b' : Int) (a' : Int) l' rec4 Φ false := by
  have e1 := h.n40; have e2 := h.ab; have e3 := h.bn; have e4 := h'.ab; have e5 := h'.bn; have e6 := h'.ata; refine ⟨fun q => absurd q (by simp), fun _ => q238 (a := a') (b := b') (n := n) e4 e5 (by omega) ⟨fun q => absurd rfl q, fun _ => ⟨fun q => absurd (show (ta : Int) < (a' : Int) from q) (by omega), fun _ => ?_⟩⟩⟩; exact q529 (a := a) (m := n) (n := a') (by omega) (by omega) (by omega) h1 (by omega) ⟨fun q => absurd rfl q, fun _ => ⟨iI (by omega) (by omega), hr⟩⟩
theorem l4_ok (h : CR n a b ts ta l) (hi : i < 40) (hl : l.length ≤ 50 * i + 45) (hr : ∀ a' b' l', CR n a' b' ts ta l' → l'.length ≤ 50 * (i + 1) → rec2 (stC (i + 1) n a' b' ts ta l')) :
    LoopW (Z151 x1 (i : Int) rec2 (n : Int) 64 (seg cyW a (n - a)) [(a : Int)] [false] Φ) (stD 0 n a b ts ta l) := by
  refine LoopW.upS 2 (fun s : StD => s.1) (fun k s => ∃ a' b' l', s = stD k n a' b' ts ta l' ∧ a ≤ a' ∧ CR n a' b' ts ta l' ∧ l'.length ≤ 50 * i + 45 + 2 * k) (fun k s rec hk _ hI hrec => ?_) 0 rfl (by omega) ⟨a, b, l, rfl, Nat.le_refl _, h, by omega⟩; obtain ⟨a', b', l', rfl, h1, h', hlen⟩ := hI; have e1 := h.n40; have e2 := h'.ab; have e3 := h'.bn; have e4 := h'.ata; have e5 := h'.tt; have e6 := h'.tn; have hend : Z150 x1 (i : Int) rec2 (n : Int) 64 (seg cyW a (n - a)) [(a : Int)] [false] (k : Int) 1 2 (ts : Int) (ta : Int) 1 2 (offL a' n) (b' : Int) (a' : Int) l' rec Φ false := j5_end h (by omega) h1 h' (hr _ _ _ h' (by omega)); refine ⟨fun q => ⟨fun g => ⟨iI (by omega) (by omega), iI (by omega) (by omega), ?_⟩, fun _ => hend⟩, fun _ => hend⟩; have q : (k : Int) < 2 := q; have g : (0 : Int) < (l'.length : Int) := g; by_cases c : 2 * (i : Int) + (k : Int) < (x1.length : Int)
  · refine ⟨fun _ => ⟨iI (by omega) (by omega), iI (by omega) (by omega), iX (by omega) c, ⟨by omega, by omega⟩, ?_⟩, fun t => absurd (decide_eq_true c) t⟩
    have hx : inX (((ix x1 (2 * (i : Int) + (k : Int))).toNat : Int) % (l'.length : Int)) l'.length := iX (Int.emod_nonneg _ (by omega)) (Int.emod_lt_of_pos _ (by omega)); refine ⟨hx, ?_⟩; have hm := h'.msg _ (q93 hx); refine q682 (a := a') (b := b') (n := n) e2 e3 (by omega) e4 e5 e6 hm fun a2 b2 l2 g1 g2 g3 g4 g5 g6 => q624 (ts := ts) (ta := ta) e5 (by omega) hm fun l3 g7 g8 => ?_; have k1 : (l' ++ l2).length ≤ 50 * i + 45 + 2 * k + 1 := by rw [List.length_append]; omega
    have k2 : ((l' ++ l2) ++ l3).length ≤ 50 * i + 45 + 2 * (k + 1) := by rw [List.length_append]; omega
    refine ⟨iL (show (l' ++ l2).length ≤ 1000000 by omega) (by omega), iL (show ((l' ++ l2) ++ l3).length ≤ 1000000 by omega) (by omega), iI (by omega) (by omega), hrec _ (by omega) rfl ⟨a2, b2, (l' ++ l2) ++ l3, rfl, by omega, ⟨g2, g3, g4, e5, e6, e1, fun x hx => ?_⟩, k2⟩⟩; rcases List.mem_append.1 hx with hx | hx
    · rcases List.mem_append.1 hx with hx | hx
      · exact h'.msg x hx
      · exact g5 x hx
    · exact g7 x hx
  · exact (decide_eq_false c) ▸ hend
theorem j3_ok {m : List q11} (h : CR n a b ts ta l) (hi : i < 40) (hl : l.length ≤ 50 * i) (hm : ∀ x ∈ m, MsgOk ts ta x) (hml : m.length ≤ 45) (hr : ∀ a' b' l', CR n a' b' ts ta l' → l'.length ≤ 50 * (i + 1) → rec2 (stC (i + 1) n a' b' ts ta l')) :
    Z152 x1 (i : Int) l rec2 Φ ((n : Int), 64, seg cyW a (n - a), [(a : Int)], [false], 1, 2, (ts : Int), (ta : Int), 1, 2, offL a n, (b : Int), (a : Int), m) := by
  have hlen : (l ++ m).length ≤ 50 * i + 45 := by rw [List.length_append]; omega
  refine ⟨iL (by omega) (by omega), l4_ok (l := l ++ m) ⟨h.ab, h.bn, h.ata, h.tt, h.tn, h.n40, fun x hx => ?_⟩ hi hlen hr⟩; rcases List.mem_append.1 hx with hx | hx
  · exact h.msg x hx
  · exact hm x hx
theorem CR.up {n' ts' ta' : Nat} (h : CR n a b ts ta l) (h1 : n ≤ n') (h2 : ts ≤ ts') (h3 : ta ≤ ta') (h4 : ta' ≤ ts') (h5 : ts' ≤ n') (h6 : n' ≤ 40) : CR n' a b ts' ta' l := by
  have := h.bn; have := h.ata; exact ⟨h.ab, by omega, by omega, h4, h5, h6, fun x hx => (h.msg x hx).mono h2 h3⟩
theorem q531 (hlen : x0.length ≤ 40) (hΦ : Φ true) : LoopW (Z153 x0 x1 Φ) (stC 0 0 0 0 0 0 []) := by
  refine LoopW.upS x0.length (fun s : StC => s.2.1) (fun i s => ∃ n a b ts ta l, s = stC i n a b ts ta l ∧ n ≤ i ∧ CR n a b ts ta l ∧ l.length ≤ 50 * i) (fun i s rec hi _ hI hrec => ?_) 0 rfl (Nat.zero_le _) ⟨0, 0, 0, 0, 0, [], rfl, Nat.le_refl _, ⟨by omega, by omega, by omega, by omega, by omega, by omega, noM⟩, by simp⟩; obtain ⟨n, a, b, ts, ta, l, rfl, hn, h, hl⟩ := hI; have e1 := h.n40; have e2 := h.ab; have e3 := h.bn; have e4 := h.ata; have e5 := h.tt; have e6 := h.tn; refine ⟨fun q => ?_, fun _ => q240 hΦ⟩; have q : (i : Int) < (x0.length : Int) := q; have fin : ∀ {n' ts' ta' : Nat}, n' ≤ i + 1 → ∀ a' b' l', CR n' a' b' ts' ta' l' → l'.length ≤ 50 * (i + 1) → rec (stC (i + 1) n' a' b' ts' ta' l') := fun hn' a' b' l' h' hl' => hrec _ (by omega) rfl ⟨_, a', b', _, _, l', rfl, hn', h', hl'⟩; have stay : ∀ {m : List q11}, (∀ x ∈ m, MsgOk ts ta x) → m.length ≤ 45 → Z152 x1 (i : Int) l rec Φ ((n : Int), 64, seg cyW a (n - a), [(a : Int)], [false], 1, 2, (ts : Int), (ta : Int), 1, 2, offL a n, (b : Int), (a : Int), m) := fun hm hml => j3_ok h (by omega) hl hm hml (fin (by omega)); refine ⟨iX (by omega) q, by decide, fun _ => ⟨iI (by omega) (by omega), ?_⟩, fun _ => ⟨fun _ => ⟨fun c => ?_, fun _ => stay noM (Nat.zero_le _)⟩, fun _ => ⟨fun _ => ⟨fun c => ?_, fun _ => stay noM (Nat.zero_le _)⟩, fun _ => ⟨fun _ => ?_, fun _ => stay noM (Nat.zero_le _)⟩⟩⟩⟩
  · refine f1_push (a := a) (m := n) (by omega) (by omega) (by omega) fun q2 => ⟨iI (by omega) (by omega), q679 (a := a) (b := b) (n := n) e2 e3 (by omega) ⟨fun t => absurd (show (0 : Int) = 17 from t) (by omega), fun _ => ⟨fun t => absurd rfl t, fun _ => ⟨fun t => absurd rfl t, fun _ => ⟨iI (by omega) (by omega), ?_⟩⟩⟩⟩⟩
    exact j3_ok (n := n + 1) (m := [msgA 8 ((n : Int) + 1)]) (h.up (by omega) (Nat.le_refl _) (Nat.le_refl _) e5 (by omega) (by omega)) (by omega) hl (oneM (q386 (.inl rfl))) (by simp) (fin (by omega))
  · have c : (ts : Int) < (n : Int) := c
    refine ⟨iI (by omega) (by omega), q680 (n := n) e5 (by omega) (by omega) ⟨fun t => absurd rfl t, fun _ => ?_⟩⟩; exact j3_ok (ts := ts + 1) (m := [msgT 9 ((ts + 1 : Nat) : Int)]) (h.up (Nat.le_refl _) (by omega) (Nat.le_refl _) (by omega) (by omega) e1) (by omega) hl (oneM (.inr ⟨rfl, rfl, rfl, .inl ⟨rfl, ts + 1, rfl, Nat.le_refl _⟩⟩)) (by simp) (fin (by omega))
  · have c : (ta : Int) < (ts : Int) := c
    refine f1_next (a := a) (m := n) (by omega) (by omega) (by omega) ⟨fun t => absurd rfl t, fun _ => ⟨iI (by omega) (by omega), fun t => absurd (show (ta : Int) + 1 < (a : Int) + 1 from t) (by omega), fun _ => ⟨iI (by omega) (by omega), q681 (by omega) (by omega) ⟨fun t => absurd rfl t, fun _ => ?_⟩⟩⟩⟩; exact j3_ok (ta := ta + 1) (m := [msgT 11 ((ta + 1 : Nat) : Int)]) (h.up (Nat.le_refl _) (Nat.le_refl _) (by omega) (by omega) (by omega) e1) (by omega) hl (oneM (.inr ⟨rfl, rfl, rfl, .inr ⟨rfl, ta + 1, rfl, Nat.le_refl _⟩⟩)) (by simp) (fin (by omega))
  · exact q623 (ts := ts) (ta := ta) e2 e3 (by omega) fun m hm hml => stay hm (by omega)
end
theorem q177 (x0 : List q17) (x1 : List (BitVec 8)) (_ : Rg.rg x0) (_ : Rg.rg x1) : Z155 x0 x1 fun y => y = true := by
  have J : ∀ c, (c = false → x0.length ≤ 40) → Z154 x0 x1 (fun y => y = true) c := fun c hc => by
    refine ⟨fun _ => q240 rfl, fun q => ?_⟩; have hlen := hc (by simpa using q); refine q385 (n := 0) (by omega) ⟨fun t => absurd rfl t, fun _ => q385 (n := 0) (by omega) ⟨fun t => absurd rfl t, fun _ => ?_⟩⟩; refine q150 1 64 0 (o := (⟨64, [], [0], [false]⟩, 0)) (by kernel_rfl) ?_; exact ⟨fun t => absurd rfl t, fun _ => ⟨fun t => absurd rfl t, fun _ => ⟨fun t => absurd rfl t, fun _ => q531 hlen rfl⟩⟩⟩
  exact ⟨fun _ => J true (fun h => by cases h), fun q => J _ fun _ => by omega⟩
end
end Go.Proofs.YtpobhmleblaccaaGreat
namespace Go.Proofs.YtpobhmleblaccaaGreat
open Go.RowKit Go.ChangeShapes Go.WideShapes Go.ChangeAt
set_option maxRecDepth 100000 in
theorem q136 (os : Os) (started : os.Started) (H : Type) (enc : TypeId × Value → H) :
    ReturnsInHanded {} Tryz.checked os 4 .any (Rows.topCommitReleasesSpec.pre6 enc Tryz.prog Tryz.f4 Rows.topCommitReleasesRow.domain false) (Rows.topCommitReleasesSpec.post enc Tryz.prog Tryz.f4 false true false false) := by
  refine returnsInHanded_of_change (C := Tryz.checked) Tryz.own started (by kernel_rfl) Tryz.func4
    (ChangeSpec.witness6 (enc := enc) (C := Tryz.checked) false ⟨#[], #[.slice none 0 0, .slice none 0 0], []⟩ 8 (by kernel_rfl) (by kernel_rfl) (by kernel_rfl) (by kernel_rfl)) ?_
  intro W base args ds gs before hval0 hW _ _; have hval : ∀ (j : Nat) t v, Tryz.f4.params[j]? = some t → args[j]? = some v → Value.okWide Tryz.prog W .any base t v := hval0; have hW' := hW; obtain ⟨p, q, hA0, hV, hpq, _, _⟩ := hW; have hA : DataW.TrodAll enc Tryz.prog W 0 (fun _ => true) true Tryz.f4.params.toList args.toList ds p := hA0; rw [Tryz.params4] at hA hval; obtain ⟨v0, v1, d0, d1, p0, p1, rfl, rfl, rfl, h0, h1⟩ := trodAll_two hA; obtain ⟨rfl, rfl⟩ := trodVars_none hV; obtain ⟨Az0, nz0, cz0, sz0, x0, rfl, hz0, hg0⟩ := q461 Tryz.underlying22 rd22 (hval 0 22 v0 rfl rfl) h0; obtain ⟨Az1, nz1, cz1, sz1, x1, rfl, hz1, hg1⟩ := q461 Tryz.underlying52 rd52 (hval 1 52 v1 rfl rfl) h1; refine Calls.mono ((RetP.toV (y := true) (F := fun z => .bool z) (RetP.mono (ok4 (x0, x1, ()) (fun y => y.1 = true) (q177 x0 x1 hg0 hg1) (HW W) [.slice Az0 nz0 cz0, .slice Az1 nz1 cz1] trivial ⟨_, [.slice Az0 nz0 cz0], _, rfl, by rw [pkw22], (show Dt.rd (α := List q17) (HW W) _ _ from ⟨Az0, nz0, cz0, sz0, rfl, hz0⟩), ⟨_, [.slice Az1 nz1 cz1], _, rfl, by rw [pkw52], (show Dt.rd (α := List (BitVec 8)) (HW W) _ _ from ⟨Az1, nz1, cz1, sz1, rfl, hz1⟩), rfl⟩⟩) fun _ _ _ _ ⟨y, hy, hr⟩ => lawRes y hy hr)) W fun b o e => e) ?_
  rintro e W' ⟨v, _, rfl, _, _, _, hb, rfl⟩
  exact ⟨_, rfl, q634 Tryz.laidOut Tryz.underlying4 rfl (by kernel_rfl) hW' rfl rfl hb⟩
theorem topCommitReleases_holds : Rows.TopCommitReleasesSaid :=
  OpenClaim.holds_of_wide 4 Tryz.f4 rfl rfl rfl rfl rfl rfl rfl ⟨rfl, rfl, rfl, rfl, rfl⟩ rfl rfl rfl rfl rfl (by kernel_rfl) Tryz.func4 (by kernel_rfl)
    (of_decide_eq_true (by kernel_rfl)) (by unfold Func.isWrapper; first | (rw [if_pos (by decide +kernel)]; kernel_rfl) | (rw [if_neg (by decide +kernel)]; exact ⟨rfl, rfl⟩))
    (fun os started H enc _ => q136 os started H enc)
end Go.Proofs.YtpobhmleblaccaaGreat
