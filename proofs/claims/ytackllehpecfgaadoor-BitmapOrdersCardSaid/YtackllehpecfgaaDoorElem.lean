/- The elements of a bitmap from a number on: how a word's ones are taken one by one. No program in sight. -/
import Derived.Test.YtackllehpecfgaaDoorBmath
import Derived.Lib.TrailingZeros
namespace Go.Proofs.YtackllehpecfgaaDoor
open Go.RowKit

def elB (ws : List (BitVec 64)) (a : Int) (j : Nat) : Bool := decide (a ≤ (j : Int)) && bitN ws j
def elK (ws : List (BitVec 64)) (a : Int) (p : Nat) : List Nat := (List.range p).filter (elB ws a)
def elL (n : Int) (ws : List (BitVec 64)) (a : Int) : List Nat := if chk n ws ≠ 0 then [] else elK ws a n.toNat

theorem elL_form {n : Int} {ws : List (BitVec 64)} {a : Int} (h : chk n ws ≠ 0) : elL n ws a = [] := if_pos h
theorem elL_ok {n : Int} {ws : List (BitVec 64)} {a : Int} (h : ¬ chk n ws ≠ 0) : elL n ws a = elK ws a n.toNat := if_neg h

theorem elK_yes {ws : List (BitVec 64)} {a : Int} {e : Nat} (h : elB ws a e = true) : elK ws a (e + 1) = elK ws a e ++ [e] := by
  unfold elK; rw [List.range_succ, List.filter_append]; simp [h]
theorem elK_no {ws : List (BitVec 64)} {a : Int} {e : Nat} (h : elB ws a e = false) : elK ws a (e + 1) = elK ws a e := by
  unfold elK; rw [List.range_succ, List.filter_append]; simp [h]
theorem elK_skip {ws : List (BitVec 64)} {a : Int} {p : Nat} : ∀ {d : Nat}, (∀ j, p ≤ j → j < p + d → elB ws a j = false) → elK ws a (p + d) = elK ws a p
  | 0, _ => rfl
  | d + 1, h => by
    rw [show p + (d + 1) = (p + d) + 1 from rfl, elK_no (h _ (by omega) (by omega))]
    exact elK_skip fun j h1 h2 => h j h1 (by omega)
theorem elK_skip' {ws : List (BitVec 64)} {a : Int} {p e : Nat} (hp : p ≤ e) (h : ∀ j, p ≤ j → j < e → elB ws a j = false) : elK ws a e = elK ws a p := by
  obtain ⟨d, rfl⟩ := Nat.exists_eq_add_of_le hp
  exact elK_skip h
theorem elK_get {ws : List (BitVec 64)} {a : Int} {e : Nat} (hq : elB ws a e = true) : ∀ {n : Nat}, e < n → (elK ws a n)[(elK ws a e).length]? = some e
  | n + 1, h => by
    have hs : elK ws a (n + 1) = elK ws a n ++ (if elB ws a n = true then [n] else []) := by
      unfold elK; rw [List.range_succ, List.filter_append]; congr 1
      by_cases hb : elB ws a n = true <;> simp [hb]
    rw [hs]
    by_cases he : e < n
    · have h1 := elK_get hq he
      rw [List.getElem?_append_left (List.getElem?_eq_some_iff.1 h1).1]
      exact h1
    · obtain rfl : e = n := by omega
      rw [if_pos hq]; simp
theorem elB_top {n : Int} {ws : List (BitVec 64)} {a : Int} (h : ¬ chk n ws ≠ 0) {j : Nat} (h1 : n ≤ (j : Int)) (h2 : j < 64 * ws.length) : elB ws a j = false := by
  have := (wfB_iff.1 (chk_zero (Classical.not_not.1 h))).2.2.2 j h2 h1
  simp [elB, this]
theorem elK_top {n : Int} {ws : List (BitVec 64)} {a : Int} (h : ¬ chk n ws ≠ 0) {p : Nat} (h1 : n.toNat ≤ p) (h2 : p ≤ 64 * ws.length) : elK ws a p = elL n ws a := by
  rw [elL_ok h]
  exact elK_skip' h1 fun j h3 h4 => elB_top h (by omega) (by omega)

/-- What the word holds when all below p are taken. -/
def elX (n : Int) (ws : List (BitVec 64)) (a : Int) (i p : Nat) (x : BitVec 64) : Prop := ∀ j, j < 64 → x.getLsbD j = (decide (p ≤ 64 * i + j) && elB ws a (64 * i + j) && decide (((64 * i + j : Nat) : Int) < n))

theorem elX_start (n : Int) (ws : List (BitVec 64)) (a : Int) (i : Nat) : elX n ws a i (64 * i) (ws.getD i 0#64 &&& maskW (i : Int) a n) := by
  intro j hj
  rw [BitVec.getLsbD_and, getLsbD_mask _ _ _ _ hj]
  have e1 : (64 * i + j) / 64 = i := by omega
  have e2 : (64 * i + j) % 64 = j := by omega
  simp only [elB, bitN, e1, e2]
  have : decide (64 * i ≤ 64 * i + j) = true := by simp
  rw [this]
  cases (ws.getD i 0#64).getLsbD j
  · simp
  · simp only [Bool.true_and, Bool.and_true]
    rw [show ((i : Int) * 64 + (j : Int)) = ((64 * i + j : Nat) : Int) by omega]
    exact Bool.decide_and _ _

theorem ctz_low {x : BitVec 64} (hx : x ≠ 0#64) : Lib.ctz 64 x.toNat < 64 ∧ x.getLsbD (Lib.ctz 64 x.toNat) = true ∧ (∀ j, j < Lib.ctz 64 x.toNat → x.getLsbD j = false) ∧ ∀ j, j < 64 → (x &&& (x - 1#64)).getLsbD j = (x.getLsbD j && decide (j ≠ Lib.ctz 64 x.toNat)) := by
  have h0 : x.toNat ≠ 0 := fun e => hx (BitVec.eq_of_toNat_eq (by simpa using e))
  have hlt := x.isLt
  have hct : Lib.ctz 64 x.toNat = Lib.ctzFrom 64 x.toNat := by unfold Lib.ctz; rw [if_neg h0]
  obtain ⟨m, hm, hk⟩ := Lib.ctzFrom_spec 64 x.toNat (by omega) (by simpa using hlt)
  rw [← hct] at hm hk
  generalize Lib.ctz 64 x.toNat = t at hm hk
  have hx2 : x.toNat = 2 ^ (t + 1) * m + 2 ^ t := by rw [hm, Nat.pow_succ]; rw [Nat.mul_add, Nat.mul_one, ← Nat.mul_assoc]
  have hpt : 0 < 2 ^ t := Nat.two_pow_pos t
  have hs : (x - 1#64).toNat = 2 ^ (t + 1) * m + (2 ^ t - 1) := by
    rw [BitVec.toNat_sub]
    have : (1#64 : BitVec 64).toNat = 1 := rfl
    rw [this]
    omega
  have hp1 : 2 ^ t < 2 ^ (t + 1) := by rw [Nat.pow_succ]; omega
  have b1 : ∀ j, x.toNat.testBit j = if j < t + 1 then decide (j = t) else m.testBit (j - (t + 1)) := by
    intro j
    rw [hx2, Nat.testBit_two_pow_mul_add m hp1]
    by_cases hj : j < t + 1
    · rw [if_pos hj, if_pos hj, Nat.testBit_two_pow]
      exact decide_eq_decide.2 ⟨fun h => h.symm, fun h => h.symm⟩
    · rw [if_neg hj, if_neg hj]
  have b2 : ∀ j, (x - 1#64).toNat.testBit j = if j < t + 1 then decide (j < t) else m.testBit (j - (t + 1)) := by
    intro j
    rw [hs, Nat.testBit_two_pow_mul_add m (show 2 ^ t - 1 < 2 ^ (t + 1) by omega)]
    by_cases hj : j < t + 1
    · rw [if_pos hj, if_pos hj, Nat.testBit_two_pow_sub_one]
    · rw [if_neg hj, if_neg hj]
  refine ⟨hk, ?_, ?_, ?_⟩
  · rw [BitVec.getLsbD, b1]; simp
  · intro j hj
    rw [BitVec.getLsbD, b1, if_pos (by omega)]
    simp; omega
  · intro j _
    rw [BitVec.getLsbD_and]
    simp only [BitVec.getLsbD]
    rw [b1, b2]
    by_cases hj : j < t + 1
    · rw [if_pos hj, if_pos hj]
      by_cases e : j = t
      · subst e; simp
      · simp [e]
    · rw [if_neg hj, if_neg hj]
      have : decide (j ≠ t) = true := by simp; omega
      rw [this]; simp

theorem elX_step {n : Int} {ws : List (BitVec 64)} {a : Int} {i p : Nat} {x : BitVec 64} (h : elX n ws a i p x) (hx : x ≠ 0#64) :
    Lib.ctz 64 x.toNat < 64 ∧ p ≤ 64 * i + Lib.ctz 64 x.toNat ∧ ((64 * i + Lib.ctz 64 x.toNat : Nat) : Int) < n ∧ elB ws a (64 * i + Lib.ctz 64 x.toNat) = true ∧
    (64 * i ≤ p → ∀ j, p ≤ j → j < 64 * i + Lib.ctz 64 x.toNat → elB ws a j = false) ∧ elX n ws a i (64 * i + Lib.ctz 64 x.toNat + 1) (x &&& (x - 1#64)) := by
  obtain ⟨h1, h2, h3, h4⟩ := ctz_low hx
  generalize Lib.ctz 64 x.toNat = t at h1 h2 h3 h4
  have h5 := h t h1
  rw [h2] at h5
  have h6 := h5.symm
  simp only [Bool.and_eq_true, decide_eq_true_eq] at h6
  obtain ⟨⟨h7, h8⟩, h9⟩ := h6
  refine ⟨h1, h7, h9, h8, ?_, ?_⟩
  · intro hp j hj1 hj2
    have h10 := h (j - 64 * i) (by omega)
    rw [h3 (j - 64 * i) (by omega), show 64 * i + (j - 64 * i) = j by omega] at h10
    cases hb : elB ws a j with
    | false => rfl
    | true =>
      rw [hb] at h10
      have h11 := h10.symm
      simp at h11
      omega
  · intro j hj
    rw [h4 j hj]
    by_cases hlt : j < t
    · rw [h3 j hlt]
      have : decide (64 * i + t + 1 ≤ 64 * i + j) = false := by simp; omega
      rw [this]; simp
    · by_cases he : j = t
      · subst he
        have : decide (64 * i + j + 1 ≤ 64 * i + j) = false := by simp
        rw [this]; simp
      · rw [h j hj]
        have e1 : decide (64 * i + t + 1 ≤ 64 * i + j) = true := by simp; omega
        have e2 : decide (p ≤ 64 * i + j) = true := by simp; omega
        have e3 : decide (j ≠ t) = true := by simp [he]
        rw [e1, e2, e3]; simp
theorem elX_end {n : Int} {ws : List (BitVec 64)} {a : Int} {i p : Nat} (hc : ¬ chk n ws ≠ 0) (hi : i < ws.length) (hp : 64 * i ≤ p) (h : elX n ws a i p 0#64) : ∀ j, p ≤ j → j < 64 * (i + 1) → elB ws a j = false := by
  intro j h1 h2
  by_cases hn : n ≤ (j : Int)
  · exact elB_top hc hn (by omega)
  · have h10 := h (j - 64 * i) (by omega)
    rw [show 64 * i + (j - 64 * i) = j by omega] at h10
    cases hb : elB ws a j with
    | false => rfl
    | true =>
      rw [hb] at h10
      simp at h10
      omega

/-- The next element, and what is taken behind it. -/
theorem elX_next {n : Int} {ws : List (BitVec 64)} {a : Int} {i p : Nat} {x : BitVec 64} (hc : ¬ chk n ws ≠ 0) (hp : 64 * i ≤ p) (h : elX n ws a i p x) (hx : x ≠ 0#64) :
    (elK ws a p).length < (elL n ws a).length ∧ ((elL n ws a).getD (elK ws a p).length 0 : Nat) = 64 * i + Lib.ctz 64 x.toNat ∧ (elK ws a (64 * i + Lib.ctz 64 x.toNat + 1)).length = (elK ws a p).length + 1 := by
  obtain ⟨_, h2, h3, h4, h5, _⟩ := elX_step h hx
  have e := elK_skip' h2 (h5 hp)
  have hg := elK_get h4 (n := n.toNat) (by omega)
  rw [e, ← elL_ok hc] at hg
  refine ⟨(List.getElem?_eq_some_iff.1 hg).1, ?_, ?_⟩
  · rw [List.getD_eq_getElem?_getD, hg]; rfl
  · rw [elK_yes h4, List.length_append, e]; rfl

/-! ### Sums that the elements serve -/
theorem elL_next {n : Int} {ws : List (BitVec 64)} {a : Int} : nextR n ws a = match (elL n ws a).head? with
    | some e => (e : Int)
    | none => -1 := by
  by_cases hc : chk n ws ≠ 0
  · rw [nextR_form hc, elL_form hc]; rfl
  · rw [elL_ok hc]
    unfold nextR
    rw [if_neg hc, elK, List.head?_filter]
    rfl
theorem elL_neg {n : Int} {ws : List (BitVec 64)} {a : Int} (h : a < 0) : elL n ws 0 = elL n ws a := by
  unfold elL
  split
  · rfl
  · unfold elK
    congr 1
    funext j
    unfold elB
    congr 1
    exact decide_eq_decide.2 ⟨fun _ => by omega, fun _ => by omega⟩
theorem elL_exts {n : Int} {ws : List (BitVec 64)} : extR n ws = extsOf (elL n ws 0) := by
  by_cases hc : chk n ws ≠ 0
  · rw [extR_form hc, elL_form hc]; rfl
  · rw [elL_ok hc, extR_ok hc rfl]
    unfold extsK elK
    congr 1
end Go.Proofs.YtackllehpecfgaaDoor
