/- The ones of a word, counted byte by byte. -/
import Derived.Test.YtackllehpecfgaaDoorOps
namespace Go.Proofs.YtackllehpecfgaaDoor
open Go.RowKit

theorem and_pack {a b d m : Nat} (hd : d < 256) (hm : m < 256) : (256 * a + d) &&& (256 * b + m) = 256 * (a &&& b) + (d &&& m) := by
  have hdm : d &&& m < 2 ^ 8 := Nat.lt_of_le_of_lt Nat.and_le_left hd
  apply Nat.eq_of_testBit_eq
  intro j
  rw [Nat.testBit_and, show 256 = 2 ^ 8 from rfl, Nat.testBit_two_pow_mul_add a (i := 8) hd, Nat.testBit_two_pow_mul_add b (i := 8) hm, Nat.testBit_two_pow_mul_add (a &&& b) hdm]
  split <;> rw [Nat.testBit_and]
theorem shr_and_pack {a b d m k : Nat} (hd : d < 256) (hk : k < 8) (hm : m < 2 ^ (8 - k)) : ((256 * a + d) >>> k) &&& (256 * b + m) = 256 * ((a >>> k) &&& b) + ((d >>> k) &&& m) := by
  have hm8 : m < 2 ^ 8 := Nat.lt_of_lt_of_le hm (Nat.pow_le_pow_right (by decide) (by omega))
  have hdm : (d >>> k) &&& m < 2 ^ 8 := Nat.lt_of_le_of_lt Nat.and_le_right hm8
  apply Nat.eq_of_testBit_eq
  intro j
  rw [Nat.testBit_and, Nat.testBit_shiftRight, show 256 = 2 ^ 8 from rfl, Nat.testBit_two_pow_mul_add a (i := 8) hd, Nat.testBit_two_pow_mul_add b (i := 8) hm8, Nat.testBit_two_pow_mul_add _ hdm]
  by_cases hj : j < 8
  · rw [if_pos hj, if_pos hj, Nat.testBit_and, Nat.testBit_shiftRight]
    by_cases h2 : k + j < 8
    · rw [if_pos h2]
    · have : m.testBit j = false := Nat.testBit_lt_two_pow (Nat.lt_of_lt_of_le hm (Nat.pow_le_pow_right (by decide) (by omega)))
      rw [this, Bool.and_false, Bool.and_false]
  · rw [if_neg hj, if_neg hj, if_neg (by omega), Nat.testBit_and, Nat.testBit_shiftRight, show k + j - 8 = k + (j - 8) by omega]

/-- The bytes of a number, the lowest first. -/
def byN : List Nat → Nat
  | [] => 0
  | d :: r => 256 * byN r + d
def ones1 (d : Nat) : Nat := ((d >>> 1) &&& 85) + (d &&& 85)
def ones2 (d : Nat) : Nat := ((d >>> 2) &&& 51) + (d &&& 51)
def ones3 (d : Nat) : Nat := (d / 16 + d) % 16
def ones8 (d : Nat) : Nat := ((List.range 8).filter d.testBit).length
theorem byte_facts : ((List.range 256).all fun d => Nat.blt (ones1 d) 256 && Nat.blt (ones2 (ones1 d)) 256 && Nat.ble (ones2 (ones1 d) % 16) 4 && Nat.ble (ones2 (ones1 d) / 16) 4 && Nat.beq (ones3 (ones2 (ones1 d))) (ones8 d) && Nat.ble (ones8 d) 8) = true := by kernel_rfl
theorem byte_fact {d : Nat} (h : d < 256) : ones1 d < 256 ∧ ones2 (ones1 d) < 256 ∧ ones2 (ones1 d) % 16 ≤ 4 ∧ ones2 (ones1 d) / 16 ≤ 4 ∧ ones3 (ones2 (ones1 d)) = ones8 d ∧ ones8 d ≤ 8 := by
  have := List.all_eq_true.1 byte_facts d (List.mem_range.2 h)
  simp only [Bool.and_eq_true] at this
  obtain ⟨⟨⟨⟨⟨h1, h2⟩, h3⟩, h4⟩, h5⟩, h6⟩ := this
  exact ⟨by simpa [Nat.blt_eq] using h1, by simpa [Nat.blt_eq] using h2, Nat.le_of_ble_eq_true h3, Nat.le_of_ble_eq_true h4, Nat.eq_of_beq_eq_true h5, Nat.le_of_ble_eq_true h6⟩

theorem by_step1 : ∀ l : List Nat, (∀ d ∈ l, d < 256) → ((byN l >>> 1) &&& byN (l.map fun _ => 85)) + (byN l &&& byN (l.map fun _ => 85)) = byN (l.map ones1)
  | [], _ => by simp [byN]
  | d :: r, h => by
    have hd := h d (List.mem_cons_self ..)
    have ih := by_step1 r fun e he => h e (List.mem_cons_of_mem _ he)
    simp only [List.map_cons, byN]
    rw [shr_and_pack hd (by decide) (by decide), and_pack hd (by decide), ← ih]
    unfold ones1
    omega
theorem by_step2 : ∀ l : List Nat, (∀ d ∈ l, d < 256) → ((byN l >>> 2) &&& byN (l.map fun _ => 51)) + (byN l &&& byN (l.map fun _ => 51)) = byN (l.map ones2)
  | [], _ => by simp [byN]
  | d :: r, h => by
    have hd := h d (List.mem_cons_self ..)
    have ih := by_step2 r fun e he => h e (List.mem_cons_of_mem _ he)
    simp only [List.map_cons, byN]
    rw [shr_and_pack hd (by decide) (by decide), and_pack hd (by decide), ← ih]
    unfold ones2
    omega
theorem and15 (n : Nat) : n &&& 15 = n % 16 := Nat.and_two_pow_sub_one_eq_mod n 4
theorem by_step3 : ∀ l : List Nat, (∀ d ∈ l, d < 256 ∧ d % 16 ≤ 4 ∧ d / 16 ≤ 4) → ((byN l >>> 4) + byN l) &&& byN (l.map fun _ => 15) = byN (l.map ones3)
  | [], _ => by simp [byN]
  | d :: r, h => by
    have hd := h d (List.mem_cons_self ..)
    have ih := by_step3 r fun e he => h e (List.mem_cons_of_mem _ he)
    have hr : byN r % 16 ≤ 4 := by
      cases r with
      | nil => simp [byN]
      | cons e r =>
        have := (h e (by simp)).2.1
        simp only [byN]
        omega
    simp only [List.map_cons, byN]
    rw [Nat.shiftRight_eq_div_pow] at ih ⊢
    rw [show (256 * byN r + d) / 2 ^ 4 + (256 * byN r + d) = 256 * (byN r / 2 ^ 4 + byN r) + (16 * (byN r % 16) + d / 16 + d) by omega, and_pack (by omega) (by decide), ih, and15]
    unfold ones3
    omega

/-- The bytes of a word. -/
def byL : Nat → Nat → List Nat
  | 0, _ => []
  | k + 1, x => x % 256 :: byL k (x / 256)
theorem byN_byL : ∀ (k x : Nat), x < 256 ^ k → byN (byL k x) = x
  | 0, x, h => by simp at h; simp [byL, byN, h]
  | k + 1, x, h => by
    rw [byL, byN, byN_byL k (x / 256) (by rw [Nat.pow_succ] at h; omega)]
    omega
theorem byL_lt : ∀ (k x : Nat), ∀ d ∈ byL k x, d < 256
  | 0, _, d, h => by simp [byL] at h
  | k + 1, x, d, h => by
    rcases List.mem_cons.1 h with rfl | h
    · omega
    · exact byL_lt k _ d h
def onesN (k x : Nat) : Nat := ((List.range k).filter x.testBit).length
theorem onesN_add (x : Nat) : ∀ k j : Nat, onesN (j + k) x = onesN j x + onesN k (x >>> j)
  | 0, j => by simp [onesN]
  | k + 1, j => by
    have ih := onesN_add x k j
    unfold onesN at ih ⊢
    rw [← Nat.add_assoc, List.range_succ, List.filter_append, List.length_append, ih, List.range_succ, List.filter_append, List.length_append]
    have : x.testBit (j + k) = (x >>> j).testBit k := by rw [Nat.testBit_shiftRight]
    simp only [List.filter_cons, List.filter_nil, this]
    cases (x >>> j).testBit k <;> simp <;> omega
theorem onesN_byL : ∀ k x : Nat, onesN (8 * k) x = ((byL k x).map ones8).sum
  | 0, x => by simp [onesN, byL]
  | k + 1, x => by
    rw [show 8 * (k + 1) = 8 + 8 * k by omega, onesN_add, byL, List.map_cons, List.sum_cons, onesN_byL k, Nat.shiftRight_eq_div_pow]
    congr 1
    unfold onesN ones8
    congr 1
    apply List.filter_congr
    intro j hj
    rw [List.mem_range] at hj
    rw [show x % 256 = x % 2 ^ 8 from rfl, Nat.testBit_mod_two_pow]
    simp [hj]

/-- How many ones a word has. -/
def pop (x : BitVec 64) : Nat := onesN 64 x.toNat
def popX1 (x : BitVec 64) : BitVec 64 := ((x >>> 1) &&& 6148914691236517205#64) + (x &&& 6148914691236517205#64)
def popX2 (x : BitVec 64) : BitVec 64 := ((x >>> 2) &&& 3689348814741910323#64) + (x &&& 3689348814741910323#64)
def popX3 (x : BitVec 64) : BitVec 64 := ((x >>> 4) + x) &&& 1085102592571150095#64
def popX4 (x : BitVec 64) (k : Nat) : BitVec 64 := x + (x >>> k)
def popX (x : BitVec 64) : BitVec 64 := popX4 (popX4 (popX4 (popX3 (popX2 (popX1 x))) 8) 16) 32

theorem byN_lt8 : ∀ l : List Nat, (∀ d ∈ l, d < 256) → byN l < 256 ^ l.length
  | [], _ => by simp [byN]
  | d :: r, h => by
    have hd := h d (List.mem_cons_self ..)
    have ih := byN_lt8 r fun e he => h e (List.mem_cons_of_mem _ he)
    rw [byN, List.length_cons, Nat.pow_succ]
    omega
theorem byN_68 : ∀ l : List Nat, (∀ d ∈ l, d < 256 ∧ d % 16 ≤ 4 ∧ d / 16 ≤ 4) → 2 * byN l + 1 ≤ 256 ^ l.length
  | [], _ => by simp [byN]
  | d :: r, h => by
    have hd := h d (List.mem_cons_self ..)
    have ih := byN_68 r fun e he => h e (List.mem_cons_of_mem _ he)
    have hd2 : d ≤ 100 := by omega
    rw [byN, List.length_cons, Nat.pow_succ]
    clear hd h
    generalize 256 ^ r.length = p at ih ⊢
    generalize byN r = q at ih ⊢
    omega
theorem popX3_eq (x : BitVec 64) : (popX3 (popX2 (popX1 x))).toNat = byN ((byL 8 x.toNat).map ones8) := by
  have hx : byN (byL 8 x.toNat) = x.toNat := byN_byL 8 _ x.isLt
  have hl := byL_lt 8 x.toNat
  have hlen : (byL 8 x.toNat).length = 8 := rfl
  generalize hb : byL 8 x.toNat = l at *
  have h1 : ∀ d ∈ l.map ones1, d < 256 := by
    intro d hd; obtain ⟨e, he, rfl⟩ := List.mem_map.1 hd; exact (byte_fact (hl e he)).1
  have h2 : ∀ d ∈ (l.map ones1).map ones2, d < 256 ∧ d % 16 ≤ 4 ∧ d / 16 ≤ 4 := by
    intro d hd
    obtain ⟨e, he, rfl⟩ := List.mem_map.1 hd
    obtain ⟨c, hc, rfl⟩ := List.mem_map.1 he
    have := byte_fact (hl c hc)
    exact ⟨this.2.1, this.2.2.1, this.2.2.2.1⟩
  have m1 : ∀ (l : List Nat) (m : Nat), l.length = 8 → l.map (fun _ => m) = List.replicate 8 m := by
    intro l m h; rw [List.map_const', h]
  have e1 : (popX1 x).toNat = byN (l.map ones1) := by
    unfold popX1
    rw [BitVec.toNat_add, BitVec.toNat_and, BitVec.toNat_and, BitVec.toNat_ushiftRight, ← hx]
    have s := by_step1 l hl
    rw [m1 l 85 hlen] at s
    rw [show (6148914691236517205#64).toNat = byN (List.replicate 8 85) from rfl, s]
    have := byN_lt8 _ h1
    rw [List.length_map, hlen] at this
    exact Nat.mod_eq_of_lt this
  have e2 : (popX2 (popX1 x)).toNat = byN ((l.map ones1).map ones2) := by
    unfold popX2
    rw [BitVec.toNat_add, BitVec.toNat_and, BitVec.toNat_and, BitVec.toNat_ushiftRight, e1]
    have s := by_step2 (l.map ones1) h1
    rw [m1 _ 51 (by rw [List.length_map]; exact hlen)] at s
    rw [show (3689348814741910323#64).toNat = byN (List.replicate 8 51) from rfl, s]
    have := byN_lt8 _ fun d hd => (h2 d hd).1
    rw [List.length_map, List.length_map, hlen] at this
    exact Nat.mod_eq_of_lt this
  have e3 : (popX3 (popX2 (popX1 x))).toNat = byN (((l.map ones1).map ones2).map ones3) := by
    unfold popX3
    rw [BitVec.toNat_and, BitVec.toNat_add, BitVec.toNat_ushiftRight, e2]
    have s := by_step3 _ h2
    rw [m1 _ 15 (by rw [List.length_map, List.length_map]; exact hlen)] at s
    rw [show (1085102592571150095#64).toNat = byN (List.replicate 8 15) from rfl]
    have hlt : byN ((l.map ones1).map ones2) >>> 4 + byN ((l.map ones1).map ones2) < 2 ^ 64 := by
      have h5 := byN_68 _ h2
      rw [List.length_map, List.length_map, hlen, show 256 ^ 8 = 18446744073709551616 from rfl] at h5
      rw [Nat.shiftRight_eq_div_pow, show 2 ^ 4 = 16 from rfl, show 2 ^ 64 = 18446744073709551616 from rfl]
      generalize byN ((l.map ones1).map ones2) = z at h5 ⊢
      omega
    rw [Nat.mod_eq_of_lt hlt, s]
  rw [e3, List.map_map, List.map_map]
  congr 1
  apply List.map_congr_left
  intro d hd
  exact (byte_fact (hl d hd)).2.2.2.2.1
theorem popX_eq (x : BitVec 64) : (popX x).toNat % 128 = pop x ∧ pop x ≤ 64 ∧ (popX x).toNat ≤ 9223372036854775807 := by
  have e0 : pop x = ((byL 8 x.toNat).map ones8).sum := onesN_byL 8 _
  rw [e0]
  clear e0
  have h3 := popX3_eq x
  unfold popX
  generalize popX3 (popX2 (popX1 x)) = y at *
  have hl := byL_lt 8 x.toNat
  obtain ⟨d0, d1, d2, d3, d4, d5, d6, d7, hd⟩ : ∃ d0 d1 d2 d3 d4 d5 d6 d7, byL 8 x.toNat = [d0, d1, d2, d3, d4, d5, d6, d7] := ⟨_, _, _, _, _, _, _, _, rfl⟩
  rw [hd] at h3 hl ⊢
  have b0 := (byte_fact (hl d0 (by simp))).2.2.2.2.2
  have b1 := (byte_fact (hl d1 (by simp))).2.2.2.2.2
  have b2 := (byte_fact (hl d2 (by simp))).2.2.2.2.2
  have b3 := (byte_fact (hl d3 (by simp))).2.2.2.2.2
  have b4 := (byte_fact (hl d4 (by simp))).2.2.2.2.2
  have b5 := (byte_fact (hl d5 (by simp))).2.2.2.2.2
  have b6 := (byte_fact (hl d6 (by simp))).2.2.2.2.2
  have b7 := (byte_fact (hl d7 (by simp))).2.2.2.2.2
  simp only [List.map_cons, List.map_nil, byN, List.sum_cons, List.sum_nil] at h3 ⊢
  generalize ones8 d0 = c0 at *
  generalize ones8 d1 = c1 at *
  generalize ones8 d2 = c2 at *
  generalize ones8 d3 = c3 at *
  generalize ones8 d4 = c4 at *
  generalize ones8 d5 = c5 at *
  generalize ones8 d6 = c6 at *
  generalize ones8 d7 = c7 at *
  have q1 : ∀ a z : Nat, a < 256 → (a + 256 * z) >>> 8 = z := fun a z h => by rw [Nat.shiftRight_eq_div_pow, show 2 ^ 8 = 256 from rfl]; omega
  have q2 : ∀ a b z : Nat, a < 256 → b < 256 → (a + 256 * (b + 256 * z)) >>> 16 = z := fun a b z h h2 => by
    rw [show 16 = 8 + 8 from rfl, Nat.shiftRight_add, q1 a _ h, q1 b _ h2]
  have q4 : ∀ a b c d z : Nat, a < 256 → b < 256 → c < 256 → d < 256 → (a + 256 * (b + 256 * (c + 256 * (d + 256 * z)))) >>> 32 = z := fun a b c d z h h2 h3 h4 => by
    rw [show 32 = 16 + 16 from rfl, Nat.shiftRight_add, q2 a b _ h h2, q2 c d _ h3 h4]
  have e4 : (popX4 y 8).toNat = c0 + c1 + 256 * (c1 + c2 + 256 * (c2 + c3 + 256 * (c3 + c4 + 256 * (c4 + c5 + 256 * (c5 + c6 + 256 * (c6 + c7 + 256 * c7)))))) := by
    have h3' : y.toNat = c0 + 256 * (c1 + 256 * (c2 + 256 * (c3 + 256 * (c4 + 256 * (c5 + 256 * (c6 + 256 * c7)))))) := by rw [h3]; omega
    have hq := q1 c0 (c1 + 256 * (c2 + 256 * (c3 + 256 * (c4 + 256 * (c5 + 256 * (c6 + 256 * c7)))))) (by clear h3 h3'; omega)
    rw [popX4, BitVec.toNat_add, BitVec.toNat_ushiftRight, h3', hq]
    clear hq h3 h3' q1 q2 q4
    rw [Nat.mod_eq_of_lt (by omega)]
    omega
  have e5 : (popX4 (popX4 y 8) 16).toNat = c0 + c1 + (c2 + c3) + 256 * (c1 + c2 + (c3 + c4) + 256 * (c2 + c3 + (c4 + c5) + 256 * (c3 + c4 + (c5 + c6) + 256 * (c4 + c5 + (c6 + c7) + 256 * (c5 + c6 + c7 + 256 * (c6 + c7 + 256 * c7)))))) := by
    have hq := q2 (c0 + c1) (c1 + c2) (c2 + c3 + 256 * (c3 + c4 + 256 * (c4 + c5 + 256 * (c5 + c6 + 256 * (c6 + c7 + 256 * c7))))) (by clear h3 e4; omega) (by clear h3 e4; omega)
    rw [popX4, BitVec.toNat_add, BitVec.toNat_ushiftRight, e4, hq]
    clear hq h3 e4 q1 q2 q4
    rw [Nat.mod_eq_of_lt (by omega)]
    omega
  have e6 : (popX4 (popX4 (popX4 y 8) 16) 32).toNat = c0 + c1 + (c2 + c3) + (c4 + c5 + (c6 + c7)) + 256 * (c1 + c2 + (c3 + c4) + (c5 + c6 + c7) + 256 * (c2 + c3 + (c4 + c5) + (c6 + c7) + 256 * (c3 + c4 + (c5 + c6) + c7 + 256 * (c4 + c5 + (c6 + c7) + 256 * (c5 + c6 + c7 + 256 * (c6 + c7 + 256 * c7)))))) := by
    have hq := q4 (c0 + c1 + (c2 + c3)) (c1 + c2 + (c3 + c4)) (c2 + c3 + (c4 + c5)) (c3 + c4 + (c5 + c6)) (c4 + c5 + (c6 + c7) + 256 * (c5 + c6 + c7 + 256 * (c6 + c7 + 256 * c7))) (by clear h3 e4 e5; omega) (by clear h3 e4 e5; omega) (by clear h3 e4 e5; omega) (by clear h3 e4 e5; omega)
    rw [popX4, BitVec.toNat_add, BitVec.toNat_ushiftRight, e5, hq]
    clear hq h3 e4 e5 q1 q2 q4
    rw [Nat.mod_eq_of_lt (by omega)]
    omega
  clear h3 e4 e5 q1 q2 q4
  rw [e6]
  refine ⟨?_, by omega, by omega⟩
  generalize c1 + c2 + (c3 + c4) + (c5 + c6 + c7) + 256 * (c2 + c3 + (c4 + c5) + (c6 + c7) + 256 * (c3 + c4 + (c5 + c6) + c7 + 256 * (c4 + c5 + (c6 + c7) + 256 * (c5 + c6 + c7 + 256 * (c6 + c7 + 256 * c7))))) = z
  omega

theorem bits_mask_i64 (n k : Nat) (hn : n < 9223372036854775808) (hk : k < 63) : bits .and .i64 (n : Int) ((2 ^ k - 1 : Nat) : Int) = ((n % 2 ^ k : Nat) : Int) := by
  have hp : 2 ^ k ≤ 2 ^ 62 := Nat.pow_le_pow_right (by decide) (by omega)
  have hp2 : (2 : Nat) ^ 62 = 4611686018427387904 := by decide
  have h1 : (BitVec.ofInt 64 (n : Int)).toNat = n := by
    rw [BitVec.ofInt_natCast, BitVec.toNat_ofNat]; exact Nat.mod_eq_of_lt (by omega)
  have h2 : (BitVec.ofInt 64 ((2 ^ k - 1 : Nat) : Int)).toNat = 2 ^ k - 1 := by
    rw [BitVec.ofInt_natCast, BitVec.toNat_ofNat]; exact Nat.mod_eq_of_lt (by omega)
  show IntKind.i64.wrap ((BitVec.ofInt 64 (n : Int) &&& BitVec.ofInt 64 ((2 ^ k - 1 : Nat) : Int)).toNat : Int) = _
  rw [BitVec.toNat_and, h1, h2, Nat.and_two_pow_sub_one_eq_mod]
  have : n % 2 ^ k ≤ n := Nat.mod_le _ _
  exact wrap_i64 (by omega) (by omega)
theorem Ex.and127 {P : Program} {σ : Nat → Value} {ty : TypeId} {w : World} {x y : Operand} {t u : TypeId} {n : Nat} (hx : ev σ x = .int .i64 (n : Int)) (hy : ev σ y = .int .i64 127) (hn : n < 9223372036854775808) : Ex P σ (.binOp .and t x y u) ty w (.int .i64 ((n % 128 : Nat) : Int)) w := fun _ _ _ _ => by
  have h := bits_mask_i64 n 7 hn (by decide)
  simp [execOp, hx, hy, eqGuard, binOp, Op.intBits, go_sem] at h ⊢
  exact h
end Go.Proofs.YtackllehpecfgaaDoor
