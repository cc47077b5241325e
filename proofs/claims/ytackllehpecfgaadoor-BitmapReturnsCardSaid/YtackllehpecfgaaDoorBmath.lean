/- Bitmaps as plain lists of words: what the functions compute, with no program in sight. -/
import Derived.Test.YtackllehpecfgaaDoorPop
import Derived.Test.YtackllehpecfgaaDoorMore
namespace Go.Proofs.YtackllehpecfgaaDoor

/-- Bit i of a list of words. -/
def bitN (ws : List (BitVec 64)) (i : Nat) : Bool := (ws.getD (i / 64) 0#64).getLsbD (i % 64)

def wfB (n : Int) (ws : List (BitVec 64)) : Bool :=
  decide (0 ≤ n) && decide (n ≤ 4096) && decide ((ws.length : Int) = (n + 63) / 64) && (List.range (64 * ws.length)).all fun i => decide ((i : Int) < n) || !bitN ws i
def chk (n : Int) (ws : List (BitVec 64)) : Int := if wfB n ws = true then 0 else 3

theorem wfB_iff {n : Int} {ws : List (BitVec 64)} : wfB n ws = true ↔ 0 ≤ n ∧ n ≤ 4096 ∧ (ws.length : Int) = (n + 63) / 64 ∧ ∀ i : Nat, i < 64 * ws.length → n ≤ (i : Int) → bitN ws i = false := by
  simp only [wfB, Bool.and_eq_true, decide_eq_true_eq, List.all_eq_true, List.mem_range, Bool.or_eq_true, Bool.not_eq_true']
  constructor
  · rintro ⟨⟨⟨h1, h2⟩, h3⟩, h4⟩
    refine ⟨h1, h2, h3, fun i hi hn => ?_⟩
    rcases h4 i hi with h | h
    · omega
    · exact h
  · rintro ⟨h1, h2, h3, h4⟩
    refine ⟨⟨⟨h1, h2⟩, h3⟩, fun i hi => ?_⟩
    by_cases h : (i : Int) < n
    · exact .inl h
    · exact .inr (h4 i hi (by omega))
theorem chk_bad {n : Int} {ws : List (BitVec 64)} (h : ¬ (0 ≤ n ∧ n ≤ 4096 ∧ (ws.length : Int) = (n + 63) / 64)) : chk n ws = 3 := by
  unfold chk
  rw [if_neg]
  intro hw
  have := wfB_iff.1 hw
  exact h ⟨this.1, this.2.1, this.2.2.1⟩
theorem chk_set {n : Int} {ws : List (BitVec 64)} {i : Nat} (hi : i < 64 * ws.length) (hn : n ≤ (i : Int)) (hb : bitN ws i = true) : chk n ws = 3 := by
  unfold chk
  rw [if_neg]
  intro hw
  have := (wfB_iff.1 hw).2.2.2 i hi hn
  rw [this] at hb; cases hb
theorem chk_ok {n : Int} {ws : List (BitVec 64)} (h1 : 0 ≤ n) (h2 : n ≤ 4096) (h3 : (ws.length : Int) = (n + 63) / 64) (h4 : ∀ i : Nat, i < 64 * ws.length → n ≤ (i : Int) → bitN ws i = false) : chk n ws = 0 := by
  unfold chk
  rw [if_pos (wfB_iff.2 ⟨h1, h2, h3, h4⟩)]
theorem chk_cases (n : Int) (ws : List (BitVec 64)) : chk n ws = 0 ∨ chk n ws = 3 := by
  unfold chk; split <;> simp
theorem chk_zero {n : Int} {ws : List (BitVec 64)} (h : chk n ws = 0) : wfB n ws = true := by
  unfold chk at h
  split at h
  · assumption
  · cases h

/-- The last word alone holds bits behind the size. -/
theorem top_iff {n : Int} {ws : List (BitVec 64)} (h1 : 0 ≤ n) (h2 : n ≤ 4096) (h3 : (ws.length : Int) = (n + 63) / 64) (h4 : 0 < n % 64) :
    ws.getD (ws.length - 1) 0#64 >>> (n % 64).toNat = 0#64 ↔ ∀ i : Nat, i < 64 * ws.length → n ≤ (i : Int) → bitN ws i = false := by
  constructor
  · intro h i hi hn
    have e1 : i / 64 = ws.length - 1 := by omega
    have e2 : i % 64 = (n % 64).toNat + (i % 64 - (n % 64).toNat) := by omega
    unfold bitN
    rw [e1, e2, ← BitVec.getLsbD_ushiftRight, h]
    simp
  · intro h
    apply BitVec.eq_of_getLsbD_eq
    intro j hj
    rw [BitVec.getLsbD_ushiftRight]
    simp only [BitVec.getLsbD_zero]
    by_cases hjj : (n % 64).toNat + j < 64
    · have := h (64 * (ws.length - 1) + ((n % 64).toNat + j)) (by omega) (by omega)
      unfold bitN at this
      rwa [show (64 * (ws.length - 1) + ((n % 64).toNat + j)) / 64 = ws.length - 1 by omega, show (64 * (ws.length - 1) + ((n % 64).toNat + j)) % 64 = (n % 64).toNat + j by omega] at this
    · exact BitVec.getLsbD_of_ge _ _ (by omega)
theorem chk_top {n : Int} {ws : List (BitVec 64)} (h1 : 0 ≤ n) (h2 : n ≤ 4096) (h3 : (ws.length : Int) = (n + 63) / 64) (h4 : 0 < n % 64) (h5 : ws.getD (ws.length - 1) 0#64 >>> (n % 64).toNat ≠ 0#64) : chk n ws = 3 := by
  rcases chk_cases n ws with h | h
  · exact absurd ((top_iff h1 h2 h3 h4).2 (wfB_iff.1 (chk_zero h)).2.2.2) h5
  · exact h
theorem chk_top_ok {n : Int} {ws : List (BitVec 64)} (h1 : 0 ≤ n) (h2 : n ≤ 4096) (h3 : (ws.length : Int) = (n + 63) / 64) (h5 : 0 < n % 64 → ws.getD (ws.length - 1) 0#64 >>> (n % 64).toNat = 0#64) : chk n ws = 0 := by
  refine chk_ok h1 h2 h3 ?_
  by_cases h4 : 0 < n % 64
  · exact (top_iff h1 h2 h3 h4).1 (h5 h4)
  · intro i hi hn
    omega

/-- A bit by shift and mask. -/
theorem bit_shift (x : BitVec 64) (k : Nat) : ((x >>> k) &&& 1#64 = 1#64) ↔ x.getLsbD k = true := by
  constructor
  · intro h
    have := congrArg (fun y => y.getLsbD 0) h
    simpa using this
  · intro h
    apply BitVec.eq_of_getLsbD_eq
    intro j hj
    rw [BitVec.getLsbD_and, BitVec.getLsbD_ushiftRight, BitVec.getLsbD_one]
    cases j with
    | zero => simp [h]
    | succ j => simp

theorem getW {ws : List (BitVec 64)} {k : Nat} (h : k < ws.length) : (ws.map u64)[k * 1 + 0]? = some (u64 (ws.getD k 0#64)) := by
  rw [Nat.mul_one, Nat.add_zero, List.getElem?_map, List.getElem?_eq_getElem h, List.getD_eq_getElem?_getD, List.getElem?_eq_getElem h]
  rfl
theorem oneW (ws : List (BitVec 64)) : ∀ u ∈ ws.map u64, u.oneCell' = true := by
  intro u hu
  obtain ⟨x, _, rfl⟩ := List.mem_map.1 hu
  rfl
theorem setW {ws : List (BitVec 64)} {k : Nat} {x : BitVec 64} (h : k < ws.length) : setCells (ws.map u64) (k * 1 + 0) [u64 x] = (ws.set k x).map u64 := by
  rw [Nat.mul_one, Nat.add_zero]
  unfold setCells
  apply List.ext_getElem?
  intro j
  rw [List.map_set, List.getElem?_set]
  by_cases h1 : j < k
  · rw [List.append_assoc, List.getElem?_append_left (by simp; omega), List.getElem?_take_of_lt h1, if_neg (by omega)]
  · by_cases h2 : j = k
    · subst h2
      rw [List.append_assoc, List.getElem?_append_right (by simp; omega)]
      simp [Nat.min_eq_left (Nat.le_of_lt h), h]
    · rw [List.getElem?_append_right (by simp; omega), if_neg (by omega)]
      simp only [List.length_append, List.length_take, List.length_map, List.length_cons, List.length_nil, List.getElem?_drop]
      congr 1
      omega

theorem bit_prop (ws : List (BitVec 64)) (k : Nat) : ((ws.getD ((k : Int) / 64).toNat 0#64) >>> (((k : Int) % 64 : Int)).toNat) &&& (1#64) = 1#64 ↔ bitN ws k = true := by
  rw [bit_shift]
  unfold bitN
  rw [show ((k : Int) / 64).toNat = k / 64 by omega, show ((k : Int) % 64).toNat = k % 64 by omega]
theorem zstep {n : Int} {k : Nat} {ws : List (BitVec 64)} (hz : ∀ i : Nat, n ≤ (i : Int) → i < k → bitN ws i = false) (h : ¬ bitN ws k = true) : ∀ i : Nat, n ≤ (i : Int) → i < k + 1 → bitN ws i = false := by
  intro i h1 h2
  rcases Nat.lt_or_ge i k with h3 | h3
  · exact hz i h1 h3
  · rw [show i = k by omega]
    simpa using h
def getB (n : Int) (ws : List (BitVec 64)) (a : Int) : Bool := wfB n ws && decide (0 ≤ a) && decide (a < n) && bitN ws a.toNat
theorem getB_iff {n : Int} {ws : List (BitVec 64)} {a : Int} : getB n ws a = true ↔ chk n ws = 0 ∧ 0 ≤ a ∧ a < n ∧ bitN ws a.toNat = true := by
  unfold getB
  simp only [Bool.and_eq_true, decide_eq_true_eq]
  constructor
  · rintro ⟨⟨⟨h1, h2⟩, h3⟩, h4⟩
    exact ⟨by unfold chk; rw [if_pos h1], h2, h3, h4⟩
  · rintro ⟨h1, h2, h3, h4⟩
    exact ⟨⟨⟨chk_zero h1, h2⟩, h3⟩, h4⟩
theorem wf_len {n : Int} {ws : List (BitVec 64)} (h : chk n ws = 0) : 0 ≤ n ∧ n ≤ 4096 ∧ (ws.length : Int) = (n + 63) / 64 := by
  have := wfB_iff.1 (chk_zero h)
  exact ⟨this.1, this.2.1, this.2.2.1⟩
def fitsB (s c n : Int) : Bool := decide (0 ≤ s) && decide (0 ≤ c) && decide (s ≤ n) && decide (c ≤ n - s)
theorem fitsB_iff {s c n : Int} : fitsB s c n = true ↔ 0 ≤ s ∧ 0 ≤ c ∧ s ≤ n ∧ c ≤ n - s := by
  simp [fitsB, and_assoc]
theorem madeW (k : Nat) : (madeCells (Value.cells (.int .u64 (0))) (k * 1)).toList = (List.replicate k 0#64).map u64 := by
  rw [Nat.mul_one]
  show (madeCells #[Value.int .u64 0] k).toList = _
  rw [toList_madeCells_one, List.map_replicate]
  rfl

/-! ### Masks -/
def maskW (i from_ to : Int) : BitVec 64 :=
  let f := if from_ - i * 64 < 0 then 0 else from_ - i * 64
  let t := if 64 < to - i * 64 then 64 else to - i * 64
  if t ≤ f then 0#64 else 18446744073709551615#64 >>> (64 - (t - f)).toNat <<< f.toNat
theorem ones_eq : (18446744073709551615#64 : BitVec 64) = BitVec.allOnes 64 := by decide
theorem getLsbD_mask (i from_ to : Int) (j : Nat) (hj : j < 64) : (maskW i from_ to).getLsbD j = decide (from_ ≤ i * 64 + j ∧ i * 64 + j < to) := by
  unfold maskW
  simp only
  by_cases h0 : (if 64 < to - i * 64 then 64 else to - i * 64) ≤ (if from_ - i * 64 < 0 then 0 else from_ - i * 64)
  · rw [if_pos h0]
    rw [BitVec.getLsbD_zero]
    symm
    rw [decide_eq_false_iff_not]
    split at h0 <;> split at h0 <;> omega
  · rw [if_neg h0, ones_eq, BitVec.getLsbD_shiftLeft, BitVec.getLsbD_ushiftRight, BitVec.getLsbD_allOnes]
    rw [Bool.eq_iff_iff]
    simp only [Bool.and_eq_true, Bool.not_eq_true', decide_eq_true_eq, decide_eq_false_iff_not]
    split at h0 <;> split at h0 <;> (try split) <;> (try split) <;> omega

/-! ### Set and clear -/
def opW (set : Bool) (x m : BitVec 64) : BitVec 64 := if set then x ||| m else x &&& ~~~m
def chW (set : Bool) (ws : List (BitVec 64)) (from_ to : Int) : List (BitVec 64) := ws.mapIdx fun i x => opW set x (maskW i from_ to)
theorem chW_length (set : Bool) (ws : List (BitVec 64)) (a b : Int) : (chW set ws a b).length = ws.length := by simp [chW]
theorem chW_bit (set : Bool) (ws : List (BitVec 64)) (a b : Int) (i : Nat) (hi : i < 64 * ws.length) : bitN (chW set ws a b) i = if a ≤ (i : Int) ∧ (i : Int) < b then set else bitN ws i := by
  have hl : i / 64 < ws.length := by omega
  unfold bitN chW
  rw [List.getD_eq_getElem?_getD, List.getElem?_mapIdx, List.getD_eq_getElem?_getD, List.getElem?_eq_getElem hl]
  simp only [Option.map_some, Option.getD_some]
  have hm := getLsbD_mask ((i / 64 : Nat) : Int) a b (i % 64) (by omega)
  have e : ((i / 64 : Nat) : Int) * 64 + ((i % 64 : Nat) : Int) = (i : Int) := by omega
  rw [e] at hm
  unfold opW
  cases set
  · simp only [Bool.false_eq_true, if_false, BitVec.getLsbD_and, BitVec.getLsbD_not, hm]
    by_cases h : a ≤ (i : Int) ∧ (i : Int) < b
    · simp [h]
    · simp only [h, if_false]
      simp [show i % 64 < 64 by omega]
  · simp only [if_true, BitVec.getLsbD_or, hm]
    by_cases h : a ≤ (i : Int) ∧ (i : Int) < b
    · simp [h]
    · simp [h]
theorem words_ext {ws vs : List (BitVec 64)} (hl : ws.length = vs.length) (h : ∀ i, i < 64 * ws.length → bitN ws i = bitN vs i) : ws = vs := by
  apply List.ext_getElem hl
  intro k h1 h2
  apply BitVec.eq_of_getLsbD_eq
  intro j hj
  have := h (64 * k + j) (by omega)
  unfold bitN at this
  rw [show (64 * k + j) / 64 = k by omega, show (64 * k + j) % 64 = j by omega] at this
  simpa [List.getD_eq_getElem?_getD, h1, h2] using this


/-- A bitmap and an error. -/
structure BR where
  n : Int
  ws : List (BitVec 64)
  e : Int
def newR (n : Int) : BR := if 0 ≤ n ∧ n ≤ 4096 then ⟨n, List.replicate ((n + 63) / 64).toNat 0#64, 0⟩ else ⟨0, [], 2⟩
def chR (set : Bool) (n : Int) (ws : List (BitVec 64)) (s c : Int) : BR := if chk n ws ≠ 0 then ⟨0, [], 3⟩ else if fitsB s c n = false then ⟨0, [], 2⟩ else ⟨n, chW set ws s (s + c), 0⟩
theorem newR_bad {n : Int} (h : ¬ (0 ≤ n ∧ n ≤ 4096)) : newR n = ⟨0, [], 2⟩ := if_neg h
theorem newR_ok {n : Int} (h1 : 0 ≤ n) (h2 : n ≤ 4096) : newR n = ⟨n, List.replicate ((n + 63) / 64).toNat 0#64, 0⟩ := if_pos ⟨h1, h2⟩
theorem chR_form {set : Bool} {n : Int} {ws : List (BitVec 64)} {s c : Int} (h : chk n ws ≠ 0) : chR set n ws s c = ⟨0, [], 3⟩ := if_pos h
theorem chR_range {set : Bool} {n : Int} {ws : List (BitVec 64)} {s c : Int} (h : ¬ chk n ws ≠ 0) (h2 : ¬ fitsB s c n = true) : chR set n ws s c = ⟨0, [], 2⟩ := by
  unfold chR; rw [if_neg h, if_pos (by simpa using h2)]
theorem chR_ok {set : Bool} {n : Int} {ws : List (BitVec 64)} {s c : Int} (h : ¬ chk n ws ≠ 0) (h2 : fitsB s c n = true) : chR set n ws s c = ⟨n, chW set ws s (s + c), 0⟩ := by
  unfold chR; rw [if_neg h, if_neg (by simp [h2])]

/-- The words of which the first k are changed already. -/
def chK (set : Bool) (ws : List (BitVec 64)) (a b : Int) (k : Nat) : List (BitVec 64) := (chW set ws a b).take k ++ ws.drop k
theorem chK_length (set : Bool) (ws : List (BitVec 64)) (a b : Int) (k : Nat) : (chK set ws a b k).length = ws.length := by
  simp [chK, chW_length]; omega
theorem chK_zero (set : Bool) (ws : List (BitVec 64)) (a b : Int) : chK set ws a b 0 = ws := by simp [chK]
theorem chK_full (set : Bool) (ws : List (BitVec 64)) (a b : Int) {k : Nat} (h : ws.length ≤ k) : chK set ws a b k = chW set ws a b := by
  unfold chK
  rw [List.take_of_length_le (by rw [chW_length]; exact h), List.drop_eq_nil_of_le h, List.append_nil]
theorem chK_get (set : Bool) (ws : List (BitVec 64)) (a b : Int) {k : Nat} (h : k < ws.length) : (chK set ws a b k).getD k 0#64 = ws.getD k 0#64 := by
  unfold chK
  rw [List.getD_eq_getElem?_getD, List.getElem?_append_right (by simp [chW_length]; omega), List.getElem?_drop, List.getD_eq_getElem?_getD]
  congr 2
  simp [chW_length]; omega
theorem chK_step (set : Bool) (ws : List (BitVec 64)) (a b : Int) {k : Nat} (h : k < ws.length) : (chK set ws a b k).set k (opW set ((chK set ws a b k).getD k 0#64) (maskW (k : Int) a b)) = chK set ws a b (k + 1) := by
  rw [chK_get set ws a b h]
  have hl : (chW set ws a b).length = ws.length := chW_length set ws a b
  have hg : (chW set ws a b)[k]? = some (opW set (ws.getD k 0#64) (maskW (k : Int) a b)) := by
    unfold chW
    rw [List.getElem?_mapIdx, List.getD_eq_getElem?_getD, List.getElem?_eq_getElem h]
    rfl
  apply List.ext_getElem?
  intro j
  rw [List.getElem?_set, chK_length]
  unfold chK
  by_cases hj : k = j
  · subst hj
    rw [if_pos rfl, if_pos h, List.getElem?_append_left (by rw [List.length_take, hl]; omega), List.getElem?_take_of_lt (by omega), hg]
  · rw [if_neg hj]
    by_cases h3 : j < k
    · rw [List.getElem?_append_left (by rw [List.length_take, hl]; omega), List.getElem?_append_left (by rw [List.length_take, hl]; omega), List.getElem?_take_of_lt h3, List.getElem?_take_of_lt (by omega)]
    · rw [List.getElem?_append_right (by rw [List.length_take, hl]; omega), List.getElem?_append_right (by rw [List.length_take, hl]; omega), List.getElem?_drop, List.getElem?_drop, List.length_take, List.length_take, hl]
      congr 1
      omega
theorem opW_true (x m : BitVec 64) : opW true x m = x ||| m := rfl
theorem opW_false (x m : BitVec 64) : opW false x m = x &&& ~~~m := rfl

/-- Bit by bit, as the reference does it: bits a .. a + j - 1 are changed. -/
theorem one_shl (k : Nat) (j : Nat) (hj : j < 64) : ((1#64 : BitVec 64) <<< k).getLsbD j = decide (j = k) := by
  rw [BitVec.getLsbD_shiftLeft, BitVec.getLsbD_one]
  by_cases h : j = k
  · subst h; simp [hj]
  · simp only [h, decide_false, hj, decide_true, Bool.true_and]
    by_cases h2 : j < k
    · simp [h2]
    · simp only [h2, decide_false, Bool.not_false, Bool.true_and]
      simp; omega
theorem chW_step (set : Bool) (ws : List (BitVec 64)) (a : Int) {k : Nat} (_ : 0 ≤ a) (hk : a ≤ (k : Int)) (h : k < 64 * ws.length) :
    (chW set ws a (k : Int)).set (k / 64) (opW set ((chW set ws a (k : Int)).getD (k / 64) 0#64) (1#64 <<< (k % 64))) = chW set ws a ((k : Int) + 1) := by
  have hl : k / 64 < ws.length := by omega
  apply words_ext
  · simp [chW_length]
  · intro i hi
    rw [List.length_set, chW_length] at hi
    rw [chW_bit set ws a ((k : Int) + 1) i hi]
    by_cases hd : i / 64 = k / 64
    · unfold bitN
      rw [hd, List.getD_eq_getElem?_getD, List.getElem?_set_self (by rw [chW_length]; exact hl)]
      simp only [Option.getD_some]
      have hbit := chW_bit set ws a (k : Int) i hi
      unfold bitN at hbit
      rw [hd] at hbit
      have hone := one_shl (k % 64) (i % 64) (by omega)
      cases set
      · rw [opW_false, BitVec.getLsbD_and, BitVec.getLsbD_not, hone, hbit]
        by_cases e : i = k
        · subst e
          simp; omega
        · have : i % 64 ≠ k % 64 := by omega
          simp only [this, decide_false, Bool.not_false, Bool.and_true, show i % 64 < 64 by omega, decide_true]
          by_cases h2 : a ≤ (i : Int) ∧ (i : Int) < (k : Int)
          · rw [if_pos h2, if_pos (by omega)]
          · rw [if_neg h2, if_neg (by omega)]
      · rw [opW_true, BitVec.getLsbD_or, hone, hbit]
        by_cases e : i = k
        · subst e
          rw [decide_eq_true rfl, Bool.or_true, if_pos (by omega)]
        · have : i % 64 ≠ k % 64 := by omega
          simp only [this, decide_false, Bool.or_false]
          by_cases h2 : a ≤ (i : Int) ∧ (i : Int) < (k : Int)
          · rw [if_pos h2, if_pos (by omega)]
          · rw [if_neg h2, if_neg (by omega)]
    · have hb : bitN ((chW set ws a (k : Int)).set (k / 64) (opW set ((chW set ws a (k : Int)).getD (k / 64) 0#64) (1#64 <<< (k % 64)))) i = bitN (chW set ws a (k : Int)) i := by
        unfold bitN
        simp only [List.getD_eq_getElem?_getD]
        rw [List.getElem?_set_ne (by omega)]
      rw [hb, chW_bit set ws a (k : Int) i hi]
      by_cases h2 : a ≤ (i : Int) ∧ (i : Int) < (k : Int)
      · rw [if_pos h2, if_pos (by omega)]
      · rw [if_neg h2, if_neg (by omega)]
theorem chW_none (set : Bool) (ws : List (BitVec 64)) {a b : Int} (h : b ≤ a) : chW set ws a b = ws := by
  apply words_ext
  · rw [chW_length]
  · intro i hi
    rw [chW_length] at hi
    rw [chW_bit set ws a b i hi, if_neg (by omega)]
theorem chW_step2 (set : Bool) (ws : List (BitVec 64)) (a : Int) {k : Nat} {x : BitVec 64} (h0 : 0 ≤ a) (hk : a ≤ (k : Int)) (h : k < 64 * ws.length) (hx : x = opW set ((chW set ws a (k : Int)).getD ((k : Int) / 64).toNat 0#64) (1#64 <<< (((k : Int) % 64 : Int)).toNat)) :
    (chW set ws a (k : Int)).set ((k : Int) / 64).toNat x = chW set ws a ((k + 1 : Nat) : Int) := by
  subst hx
  rw [show ((k : Int) / 64).toNat = k / 64 by omega, show ((k : Int) % 64).toNat = k % 64 by omega]
  exact chW_step set ws a h0 hk h

/-- What a function hands back that makes a bitmap or fails. -/
def BRv (r : BR) (H : Hp) (v : Value) : Prop := ∃ A c, v = .tuple #[.agg #[.int .i64 r.n, .slice A r.ws.length c], .int .i64 r.e] ∧ RdC H A r.ws.length c 1 (r.ws.map u64)
theorem BRv.bad {r : BR} {e e' : Int} {H : Hp} (h : r = ⟨0, [], e⟩) (he : e' = e) : BRv r H (.tuple #[.agg #[.int .i64 (0), .slice none (0) (0)], .int .i64 e']) := by
  subst h; subst he
  exact ⟨none, 0, rfl, RdC.nil H 1⟩
theorem BRv.ok {r : BR} {n : Int} {l : List (BitVec 64)} {H : Hp} {A : Option Addr} {k c : Nat} (h : r = ⟨n, l, 0⟩) (hk : k = l.length) (hr : RdC H A k c 1 (l.map u64)) : BRv r H (.tuple #[.agg #[.int .i64 n, .slice A k c], .int .i64 (0)]) := by
  subst h; subst hk
  exact ⟨A, c, rfl, hr⟩
theorem BRv.same {r : BR} {H : Hp} {n e : Int} {A : Option Addr} {k c : Nat} {l : List (BitVec 64)} (h : r = ⟨n, l, e⟩) (hk : k = l.length) (hr : RdC H A k c 1 (l.map u64)) : BRv r H (.tuple #[.agg #[.int .i64 n, .slice A k c], .int .i64 e]) := by
  subst h; subst hk
  exact ⟨A, c, rfl, hr⟩

/-! ### Two bitmaps -/
def bothE (n : Int) (ws : List (BitVec 64)) (m : Int) (vs : List (BitVec 64)) : Int := if chk n ws ≠ 0 then 3 else if chk m vs ≠ 0 then 3 else if n ≠ m then 22 else 0
def bothR (op : BitVec 64 → BitVec 64 → BitVec 64) (n : Int) (ws : List (BitVec 64)) (m : Int) (vs : List (BitVec 64)) : BR := if bothE n ws m vs ≠ 0 then ⟨0, [], bothE n ws m vs⟩ else ⟨n, List.zipWith op ws vs, 0⟩
theorem bothE_1 {n m : Int} {ws vs : List (BitVec 64)} (h : chk n ws ≠ 0) : bothE n ws m vs = 3 := if_pos h
theorem bothE_2 {n m : Int} {ws vs : List (BitVec 64)} (h : ¬ chk n ws ≠ 0) (h2 : chk m vs ≠ 0) : bothE n ws m vs = 3 := by unfold bothE; rw [if_neg h, if_pos h2]
theorem bothE_3 {n m : Int} {ws vs : List (BitVec 64)} (h : ¬ chk n ws ≠ 0) (h2 : ¬ chk m vs ≠ 0) (h3 : n ≠ m) : bothE n ws m vs = 22 := by unfold bothE; rw [if_neg h, if_neg h2, if_pos h3]
theorem bothE_4 {n m : Int} {ws vs : List (BitVec 64)} (h : ¬ chk n ws ≠ 0) (h2 : ¬ chk m vs ≠ 0) (h3 : ¬ n ≠ m) : bothE n ws m vs = 0 := by unfold bothE; rw [if_neg h, if_neg h2, if_neg h3]
theorem bothE_ok {n m : Int} {ws vs : List (BitVec 64)} (h : bothE n ws m vs = 0) : chk n ws = 0 ∧ chk m vs = 0 ∧ n = m := by
  unfold bothE at h
  by_cases h1 : chk n ws = 0
  · rw [if_neg (by simpa using h1)] at h
    by_cases h2 : chk m vs = 0
    · rw [if_neg (by simpa using h2)] at h
      by_cases h3 : n = m
      · exact ⟨h1, h2, h3⟩
      · rw [if_pos h3] at h; cases h
    · rw [if_pos h2] at h; cases h
  · rw [if_pos h1] at h; cases h
theorem chk_ne {n : Int} {ws : List (BitVec 64)} (h : chk n ws ≠ 0) : chk n ws = 3 := (chk_cases n ws).resolve_left h
theorem bothR_bad {op : BitVec 64 → BitVec 64 → BitVec 64} {n m : Int} {ws vs : List (BitVec 64)} {e : Int} (h : bothE n ws m vs = e) (he : e ≠ 0) : bothR op n ws m vs = ⟨0, [], e⟩ := by
  subst h; exact if_pos he
theorem bothR_ok {op : BitVec 64 → BitVec 64 → BitVec 64} {n m : Int} {ws vs : List (BitVec 64)} (h : bothE n ws m vs = 0) : bothR op n ws m vs = ⟨n, List.zipWith op ws vs, 0⟩ := if_neg (by simpa using h)

def mixK {α : Type} (new old : List α) (k : Nat) : List α := new.take k ++ old.drop k
theorem mixK_zero {α : Type} (new old : List α) : mixK new old 0 = old := by simp [mixK]
theorem mixK_full {α : Type} {new old : List α} {k : Nat} (hl : new.length = old.length) (h : old.length ≤ k) : mixK new old k = new := by
  unfold mixK
  rw [List.take_of_length_le (by omega), List.drop_eq_nil_of_le h, List.append_nil]
theorem mixK_length {α : Type} {new old : List α} (hl : new.length = old.length) (k : Nat) : (mixK new old k).length = old.length := by
  simp [mixK]; omega
theorem mixK_get {α : Type} {new old : List α} {k : Nat} (hl : new.length = old.length) (h : k < old.length) (d : α) : (mixK new old k).getD k d = old.getD k d := by
  unfold mixK
  rw [List.getD_eq_getElem?_getD, List.getElem?_append_right (by simp; omega), List.getElem?_drop, List.getD_eq_getElem?_getD]
  congr 2
  simp; omega
theorem mixK_step {α : Type} {new old : List α} {k : Nat} {x : α} (hl : new.length = old.length) (h : new[k]? = some x) : (mixK new old k).set k x = mixK new old (k + 1) := by
  have hk : k < new.length := (List.getElem?_eq_some_iff.1 h).1
  apply List.ext_getElem?
  intro j
  rw [List.getElem?_set, mixK_length hl]
  unfold mixK
  by_cases hj : k = j
  · subst hj
    rw [if_pos rfl, if_pos (by omega), List.getElem?_append_left (by rw [List.length_take]; omega), List.getElem?_take_of_lt (by omega), h]
  · rw [if_neg hj]
    by_cases h3 : j < k
    · rw [List.getElem?_append_left (by rw [List.length_take]; omega), List.getElem?_append_left (by rw [List.length_take]; omega), List.getElem?_take_of_lt h3, List.getElem?_take_of_lt (by omega)]
    · rw [List.getElem?_append_right (by rw [List.length_take]; omega), List.getElem?_append_right (by rw [List.length_take]; omega), List.getElem?_drop, List.getElem?_drop, List.length_take, List.length_take]
      congr 1
      omega
theorem zip_get {op : BitVec 64 → BitVec 64 → BitVec 64} {ws vs : List (BitVec 64)} {k : Nat} (h : k < ws.length) (h2 : k < vs.length) : (List.zipWith op ws vs)[k]? = some (op (ws.getD k 0#64) (vs.getD k 0#64)) := by
  rw [List.getElem?_zipWith, List.getElem?_eq_getElem h, List.getElem?_eq_getElem h2, List.getD_eq_getElem?_getD, List.getD_eq_getElem?_getD, List.getElem?_eq_getElem h, List.getElem?_eq_getElem h2]
  rfl

/-! ### Equal bitmaps -/
theorem words_getD {ws vs : List (BitVec 64)} (hl : ws.length = vs.length) (h : ∀ i, i < ws.length → ws.getD i 0#64 = vs.getD i 0#64) : ws = vs := by
  apply List.ext_getElem hl
  intro k h1 h2
  simpa [List.getD_eq_getElem?_getD, h1, h2] using h k h1
theorem gstep {ws vs : List (BitVec 64)} {k : Nat} (hz : ∀ i : Nat, i < k → ws.getD i 0#64 = vs.getD i 0#64) (h : ¬ ws.getD k 0#64 ≠ vs.getD k 0#64) : ∀ i : Nat, i < k + 1 → ws.getD i 0#64 = vs.getD i 0#64 := by
  intro i h2
  rcases Nat.lt_or_ge i k with h3 | h3
  · exact hz i h3
  · rw [show i = k by omega]
    exact Classical.not_not.1 h

/-! ### Lists of extents -/
def eC (e : Int × Int) : List Value := [.int .i64 e.1, .int .i64 e.2]
theorem eC_len (es : List (Int × Int)) : (es.flatMap eC).length = es.length * 2 := by
  induction es with
  | nil => rfl
  | cons e r ih => rw [List.flatMap_cons, List.length_append, ih]; simp [eC]; omega
theorem getE {es : List (Int × Int)} : ∀ {k j : Nat}, k < es.length → j < 2 → (es.flatMap eC)[k * 2 + j]? = (eC (es.getD k (0, 0)))[j]? := by
  induction es with
  | nil => intro k j h; simp at h
  | cons e r ih =>
    intro k j h hj
    rw [List.flatMap_cons]
    cases k with
    | zero =>
      rw [List.getElem?_append_left (by simp [eC]; omega)]
      simp
    | succ k =>
      rw [List.getElem?_append_right (by simp [eC]; omega)]
      have := ih (k := k) (j := j) (by simpa using h) hj
      rw [show (k + 1) * 2 + j - (eC e).length = k * 2 + j by simp [eC]; omega, this]
      simp
theorem getE0 {es : List (Int × Int)} {k : Nat} (h : k < es.length) : (es.flatMap eC)[k * 2 + 0]? = some (.int .i64 (es.getD k (0, 0)).1) := (getE h (by decide)).trans rfl
theorem getE1 {es : List (Int × Int)} {k : Nat} (h : k < es.length) : (es.flatMap eC)[k * 2 + 1]? = some (.int .i64 (es.getD k (0, 0)).2) := (getE h (by decide)).trans rfl
theorem getEA {es : List (Int × Int)} {k : Nat} (h : k < es.length) : ∀ j u, [Value.int .i64 (es.getD k (0, 0)).1, .int .i64 (es.getD k (0, 0)).2][j]? = some u → (es.flatMap eC)[k * 2 + 0 + j]? = some u := by
  intro j u hj
  have hl : j < 2 := (List.getElem?_eq_some_iff.1 hj).1
  rw [Nat.add_zero, getE h hl]
  exact hj
theorem oneE (es : List (Int × Int)) : ∀ u ∈ es.flatMap eC, u.oneCell' = true := by
  intro u hu
  obtain ⟨e, _, h⟩ := List.mem_flatMap.1 hu
  simp [eC] at h
  rcases h with rfl | rfl <;> rfl
/-- The last one made one longer. -/
def bumpE (es : List (Int × Int)) (k : Nat) (x : Int) : List (Int × Int) := es.set k ((es.getD k (0, 0)).1, x)
theorem setE {es : List (Int × Int)} {k : Nat} {x : Int} (h : k < es.length) : setCells (es.flatMap eC) (k * 2 + 1) [.int .i64 x] = (bumpE es k x).flatMap eC := by
  unfold bumpE
  induction es generalizing k with
  | nil => simp at h
  | cons e r ih =>
    cases k with
    | zero => simp [setCells, eC]
    | succ k =>
      have h2 := ih (k := k) (by simpa using h)
      rw [List.set_cons_succ, List.flatMap_cons, List.flatMap_cons, List.getD_cons_succ, ← h2]
      unfold setCells
      rw [show (k + 1) * 2 + 1 = (eC e).length + (k * 2 + 1) by simp [eC]; omega, List.take_length_add_append, show (eC e).length + (k * 2 + 1) + [Value.int .i64 x].length = (eC e).length + (k * 2 + 1 + [Value.int .i64 x].length) by omega, List.drop_length_add_append]
      simp

/-! ### Bitmaps out of extents -/
def fromR : BR → List (Int × Int) → BR
  | r, [] => r
  | r, e :: es => if r.e ≠ 0 then r else fromR (chR true r.n r.ws e.1 e.2) es
theorem fromR_err {r : BR} (h : r.e ≠ 0) : ∀ es, fromR r es = r
  | [] => rfl
  | _ :: _ => if_pos h
theorem fromR_drop {r : BR} {es : List (Int × Int)} {k : Nat} (h : r.e = 0) (hk : k < es.length) : fromR r (es.drop k) = fromR (chR true r.n r.ws (es.getD k (0, 0)).1 (es.getD k (0, 0)).2) (es.drop (k + 1)) := by
  rw [List.drop_eq_getElem_cons hk, List.getD_eq_getElem?_getD, List.getElem?_eq_getElem hk]
  simp [fromR, h]
theorem fromR_end {r : BR} {es : List (Int × Int)} {k : Nat} (hk : es.length ≤ k) : fromR r (es.drop k) = r := by
  rw [List.drop_eq_nil_of_le hk]; rfl
theorem chR_err {set : Bool} {n : Int} {ws : List (BitVec 64)} {s c : Int} (h : (chR set n ws s c).e ≠ 0) : chR set n ws s c = ⟨0, [], (chR set n ws s c).e⟩ := by
  unfold chR at h ⊢
  split
  · rfl
  · rename_i h1
    rw [if_neg h1] at h
    split
    · rfl
    · rename_i h2; rw [if_neg h2] at h; exact absurd rfl h
theorem newR_err {n : Int} (h : (newR n).e ≠ 0) : newR n = ⟨0, [], (newR n).e⟩ := by
  unfold newR at h ⊢
  split
  · rename_i h1; rw [if_pos h1] at h; exact absurd rfl h
  · rfl
theorem ext_getD {av bv : List (Int × Int)} (hl : av.length = bv.length) (h : ∀ i, i < av.length → av.getD i (0, 0) = bv.getD i (0, 0)) : av = bv := by
  apply List.ext_getElem hl
  intro k h1 h2
  simpa [List.getD_eq_getElem?_getD, h1, h2] using h k h1
theorem estep {av bv : List (Int × Int)} {k : Nat} (hz : ∀ i : Nat, i < k → av.getD i (0, 0) = bv.getD i (0, 0)) (h : ¬ ¬ ((av.getD k (0, 0)).1 = (bv.getD k (0, 0)).1 ∧ (av.getD k (0, 0)).2 = (bv.getD k (0, 0)).2)) : ∀ i : Nat, i < k + 1 → av.getD i (0, 0) = bv.getD i (0, 0) := by
  intro i h2
  rcases Nat.lt_or_ge i k with h3 | h3
  · exact hz i h3
  · rw [show i = k by omega]
    have := Classical.not_not.1 h
    exact Prod.ext this.1 this.2

/-! ### Bitmaps in a row -/
structure BV where
  n : Int
  A : Option Addr
  l : Nat
  c : Nat
def bvC (b : BV) : List Value := [.int .i64 b.n, .slice b.A b.l b.c]
def bv0 : BV := ⟨0, none, 0, 0⟩
theorem getBV {bs : List BV} : ∀ {k j : Nat}, k < bs.length → j < 2 → (bs.flatMap bvC)[k * 2 + j]? = (bvC (bs.getD k bv0))[j]? := by
  induction bs with
  | nil => intro k j h; simp at h
  | cons e r ih =>
    intro k j h hj
    rw [List.flatMap_cons]
    cases k with
    | zero =>
      rw [List.getElem?_append_left (by simp [bvC]; omega)]
      simp
    | succ k =>
      rw [List.getElem?_append_right (by simp [bvC]; omega)]
      have := ih (k := k) (j := j) (by simpa using h) hj
      rw [show (k + 1) * 2 + j - (bvC e).length = k * 2 + j by simp [bvC]; omega, this]
      simp
theorem getBV1 {bs : List BV} {k : Nat} (h : k < bs.length) : (bs.flatMap bvC)[k * 2 + 1]? = some (.slice (bs.getD k bv0).A (bs.getD k bv0).l (bs.getD k bv0).c) := (getBV h (by decide)).trans rfl
def fewB (bs : List BV) : Bool := bs.all fun b => decide (b.l ≤ 20)
theorem few_no {bs : List BV} {k : Nat} (h : k < bs.length) (h2 : (20 : Int) < ((bs.getD k bv0).l : Int)) : fewB bs = false := by
  unfold fewB
  rw [List.all_eq_false]
  have hnot : ¬ (bs.getD k bv0).l ≤ 20 := by omega
  refine ⟨bs.getD k bv0, ?_, by simpa only [decide_eq_true_eq] using hnot⟩
  rw [List.getD_eq_getElem?_getD, List.getElem?_eq_getElem h]
  exact List.getElem_mem h
theorem few_yes {bs : List BV} (h : ∀ i, i < bs.length → (bs.getD i bv0).l ≤ 20) : fewB bs = true := by
  unfold fewB
  rw [List.all_eq_true]
  intro b hb
  obtain ⟨i, hi, rfl⟩ := List.getElem_of_mem hb
  have := h i hi
  rw [List.getD_eq_getElem?_getD, List.getElem?_eq_getElem hi] at this
  simpa using this
theorem fstep {bs : List BV} {k : Nat} (hz : ∀ i : Nat, i < k → (bs.getD i bv0).l ≤ 20) (h : ¬ (20 : Int) < ((bs.getD k bv0).l : Int)) : ∀ i : Nat, i < k + 1 → (bs.getD i bv0).l ≤ 20 := by
  intro i h2
  rcases Nat.lt_or_ge i k with h3 | h3
  · exact hz i h3
  · rw [show i = k by omega]
    omega

/-! ### Next, Count, Extents -/
def nextR (n : Int) (ws : List (BitVec 64)) (a : Int) : Int := if chk n ws ≠ 0 then -1 else match (List.range n.toNat).find? (fun i : Nat => decide (a ≤ (i : Int)) && bitN ws i) with
  | some i => (i : Int)
  | none => -1
theorem nextR_form {n : Int} {ws : List (BitVec 64)} {a : Int} (h : chk n ws ≠ 0) : nextR n ws a = -1 := if_pos h
theorem nextR_hit {n : Int} {ws : List (BitVec 64)} {a : Int} {k : Nat} (h : ¬ chk n ws ≠ 0) (h1 : a ≤ (k : Int)) (h2 : (k : Int) < n) (h3 : bitN ws k = true) (hz : ∀ i : Nat, a ≤ (i : Int) → i < k → bitN ws i = false) : nextR n ws a = (k : Int) := by
  unfold nextR
  rw [if_neg h]
  have : (List.range n.toNat).find? (fun i : Nat => decide (a ≤ (i : Int)) && bitN ws i) = some k := by
    rw [List.find?_range_eq_some]
    refine ⟨by simp [h1, h3], by simp; omega, fun j hj => ?_⟩
    by_cases ha : a ≤ (j : Int)
    · simp [hz j ha hj]
    · simp [ha]
  rw [this]
theorem nextR_none {n : Int} {ws : List (BitVec 64)} {a : Int} (h : ¬ chk n ws ≠ 0) (hz : ∀ i : Nat, a ≤ (i : Int) → (i : Int) < n → bitN ws i = false) : nextR n ws a = -1 := by
  unfold nextR
  rw [if_neg h]
  have : (List.range n.toNat).find? (fun i : Nat => decide (a ≤ (i : Int)) && bitN ws i) = none := by
    rw [List.find?_eq_none]
    intro i hi
    rw [List.mem_range] at hi
    by_cases ha : a ≤ (i : Int)
    · simp [hz i ha (by omega)]
    · simp [ha]
  rw [this]

def cntK (ws : List (BitVec 64)) (k : Nat) : Nat := ((List.range k).filter (bitN ws)).length
theorem cntK_le (ws : List (BitVec 64)) (k : Nat) : cntK ws k ≤ k := by
  unfold cntK
  exact Nat.le_trans (List.length_filter_le _ _) (by simp)
theorem cntK_zero (ws : List (BitVec 64)) : cntK ws 0 = 0 := rfl
theorem cntK_yes {ws : List (BitVec 64)} {k : Nat} (h : bitN ws k = true) : cntK ws (k + 1) = cntK ws k + 1 := by
  unfold cntK
  rw [List.range_succ, List.filter_append]
  simp [h]
theorem cntK_no {ws : List (BitVec 64)} {k : Nat} (h : ¬ bitN ws k = true) : cntK ws (k + 1) = cntK ws k := by
  unfold cntK
  rw [List.range_succ, List.filter_append]
  simp [h]
def cntR (n : Int) (ws : List (BitVec 64)) : Int := if chk n ws ≠ 0 then 0 else (cntK ws n.toNat : Int)
theorem cntR_form {n : Int} {ws : List (BitVec 64)} (h : chk n ws ≠ 0) : cntR n ws = 0 := if_pos h
theorem cntR_ok {n : Int} {ws : List (BitVec 64)} {k : Nat} (h : ¬ chk n ws ≠ 0) (hk : n.toNat = k) : cntR n ws = (cntK ws k : Int) := by
  subst hk; exact if_neg h

/-- One element more at the end of a list of extents. -/
def joinsE (es : List (Int × Int)) (i : Int) : Prop := 0 < es.length ∧ (es.getD (es.length - 1) (0, 0)).1 + (es.getD (es.length - 1) (0, 0)).2 = i
instance (es : List (Int × Int)) (i : Int) : Decidable (joinsE es i) := by unfold joinsE; infer_instance
def addX (es : List (Int × Int)) (i : Int) : List (Int × Int) := if joinsE es i then bumpE es (es.length - 1) ((es.getD (es.length - 1) (0, 0)).2 + 1) else es ++ [(i, 1)]
def extsOf (l : List Nat) : List (Int × Int) := l.foldl (fun (es : List (Int × Int)) (i : Nat) => addX es (i : Int)) []
def extsK (ws : List (BitVec 64)) (k : Nat) : List (Int × Int) := extsOf ((List.range k).filter (bitN ws))
theorem extsOf_snoc (l : List Nat) (i : Nat) : extsOf (l ++ [i]) = addX (extsOf l) (i : Int) := by
  unfold extsOf; rw [List.foldl_append]; rfl
theorem extsK_yes {ws : List (BitVec 64)} {k : Nat} (h : bitN ws k = true) : extsK ws (k + 1) = addX (extsK ws k) (k : Int) := by
  unfold extsK
  rw [List.range_succ, List.filter_append]
  simp [h, extsOf_snoc]
theorem extsK_no {ws : List (BitVec 64)} {k : Nat} (h : ¬ bitN ws k = true) : extsK ws (k + 1) = extsK ws k := by
  unfold extsK
  rw [List.range_succ, List.filter_append]
  simp [h]
theorem addX_join {es : List (Int × Int)} {i : Int} (h : joinsE es i) : addX es i = bumpE es (es.length - 1) ((es.getD (es.length - 1) (0, 0)).2 + 1) := if_pos h
theorem addX_new {es : List (Int × Int)} {i : Int} (h : ¬ joinsE es i) : addX es i = es ++ [(i, 1)] := if_neg h
theorem bumpE_length (es : List (Int × Int)) (k : Nat) (x : Int) : (bumpE es k x).length = es.length := by simp [bumpE]
/-- Bounds of the extents made out of a rising list. -/
def exB (es : List (Int × Int)) (k : Int) : Prop := ∀ e ∈ es, 0 ≤ e.1 ∧ 0 ≤ e.2 ∧ e.1 + e.2 ≤ k
theorem exB_get {es : List (Int × Int)} {k : Int} (h : exB es k) {j : Nat} (hj : j < es.length) : 0 ≤ (es.getD j (0, 0)).1 ∧ 0 ≤ (es.getD j (0, 0)).2 ∧ (es.getD j (0, 0)).1 + (es.getD j (0, 0)).2 ≤ k := by
  rw [List.getD_eq_getElem?_getD, List.getElem?_eq_getElem hj]
  exact h _ (List.getElem_mem hj)
theorem exB_mono {es : List (Int × Int)} {k m : Int} (h : exB es k) (hk : k ≤ m) : exB es m := fun e he => by have := h e he; omega
theorem exB_add {es : List (Int × Int)} {k i : Int} (h : exB es k) (h0 : 0 ≤ i) (hi : k ≤ i) : exB (addX es i) (i + 1) := by
  unfold addX
  split
  · rename_i hj
    have hg := exB_get h (show es.length - 1 < es.length by have := hj.1; omega)
    intro e he
    unfold bumpE at he
    rcases List.mem_or_eq_of_mem_set he with he | rfl
    · have := h e he; omega
    · have := hj.2
      simp only
      omega
  · intro e he
    rcases List.mem_append.1 he with he | he
    · have := h e he; omega
    · rw [List.mem_singleton] at he
      subst he
      simp only
      omega
theorem addX_len (es : List (Int × Int)) (i : Int) : (addX es i).length ≤ es.length + 1 := by
  unfold addX
  split
  · rw [bumpE_length]; omega
  · simp
theorem extsK_facts (ws : List (BitVec 64)) : ∀ k : Nat, exB (extsK ws k) (k : Int) ∧ (extsK ws k).length ≤ k
  | 0 => ⟨fun e he => by simp [extsK, extsOf] at he, by simp [extsK, extsOf]⟩
  | k + 1 => by
    have ih := extsK_facts ws k
    by_cases hb : bitN ws k = true
    · rw [extsK_yes hb]
      refine ⟨?_, Nat.le_trans (addX_len _ _) (by omega)⟩
      have := exB_add ih.1 (show (0 : Int) ≤ (k : Int) by omega) (Int.le_refl _)
      exact exB_mono this (by omega)
    · rw [extsK_no hb]
      exact ⟨exB_mono ih.1 (by omega), by omega⟩
def extR (n : Int) (ws : List (BitVec 64)) : List (Int × Int) := if chk n ws ≠ 0 then [] else extsK ws n.toNat
theorem extR_form {n : Int} {ws : List (BitVec 64)} (h : chk n ws ≠ 0) : extR n ws = [] := if_pos h
theorem extR_ok {n : Int} {ws : List (BitVec 64)} {k : Nat} (h : ¬ chk n ws ≠ 0) (hk : n.toNat = k) : extR n ws = extsK ws k := by
  subst hk; exact if_neg h
/-- What a function hands back that makes a list of extents. -/
def ERv (es : List (Int × Int)) (H : Hp) (v : Value) : Prop := ∃ A c, v = .slice A es.length c ∧ RdC H A es.length c 2 (es.flatMap eC)
theorem ERv.nil {es : List (Int × Int)} {H : Hp} (h : es = []) : ERv es H (.slice none (0) (0)) := by
  subst h
  exact ⟨none, 0, rfl, RdC.nil H 2⟩
theorem ERv.ok {es l : List (Int × Int)} {H : Hp} {A : Option Addr} {k c : Nat} (h : es = l) (hk : k = l.length) (hr : RdC H A k c 2 (l.flatMap eC)) : ERv es H (.slice A k c) := by
  subst h; subst hk
  exact ⟨A, c, rfl, hr⟩

/-! ### Ones of all words -/
theorem filt_add (p : Nat → Bool) : ∀ k j : Nat, ((List.range (j + k)).filter p).length = ((List.range j).filter p).length + ((List.range k).filter fun i => p (j + i)).length
  | 0, j => by simp
  | k + 1, j => by
    have ih := filt_add p k j
    rw [← Nat.add_assoc, List.range_succ, List.filter_append, List.length_append, ih, List.range_succ, List.filter_append, List.length_append]
    simp only [List.filter_cons, List.filter_nil]
    cases p (j + k) <;> simp <;> omega
theorem cntK_word (ws : List (BitVec 64)) (k : Nat) : cntK ws (64 * (k + 1)) = cntK ws (64 * k) + pop (ws.getD k 0#64) := by
  unfold cntK pop onesN
  rw [show 64 * (k + 1) = 64 * k + 64 by omega, filt_add]
  congr 2
  apply List.filter_congr
  intro j hj
  rw [List.mem_range] at hj
  unfold bitN
  rw [show (64 * k + j) / 64 = k by omega, show (64 * k + j) % 64 = j by omega]
  rfl
theorem cntK_top {n : Int} {ws : List (BitVec 64)} (h : ¬ chk n ws ≠ 0) : ∀ k : Nat, n.toNat + k ≤ 64 * ws.length → cntK ws (n.toNat + k) = cntK ws n.toNat
  | 0, _ => rfl
  | k + 1, hk => by
    have hw := wfB_iff.1 (chk_zero (Classical.not_not.1 h))
    have := cntK_top h k (by omega)
    rw [← Nat.add_assoc, cntK_no (by rw [hw.2.2.2 (n.toNat + k) (by omega) (by omega)]; decide), this]
theorem cntR_words {n : Int} {ws : List (BitVec 64)} {k : Nat} (h : ¬ chk n ws ≠ 0) (hk : ws.length ≤ k) (hk2 : k ≤ ws.length) : cntR n ws = (cntK ws (64 * k) : Int) := by
  have hw := wfB_iff.1 (chk_zero (Classical.not_not.1 h))
  rw [cntR_ok h rfl, show 64 * k = n.toNat + (64 * ws.length - n.toNat) by omega, cntK_top h _ (by omega)]
end Go.Proofs.YtackllehpecfgaaDoor
