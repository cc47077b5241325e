/- The rules of the operations that touch no memory. -/
import Derived.Test.YtackllehpecfgaaDoorCore
namespace Go.Proofs.YtackllehpecfgaaDoor
open Go.RowKit

section
variable {P : Program} {σ : Nat → Value} {ty : TypeId} {w : World}

theorem Ex.move {x : Operand} (v : Value) (hx : ev σ x = v) : Ex P σ (.move x) ty w v w := fun _ _ _ _ => by subst hx; rfl
theorem Ex.assign {x : Operand} (v : Value) (hx : ev σ x = v) : Ex P σ (.assign x) ty w v w := fun _ _ _ _ => by subst hx; rfl
theorem Ex.pickT {c x y : Operand} (v : Value) (hc : ev σ c = .bool true) (hx : ev σ x = v) : Ex P σ (.pick c x y) ty w v w := fun _ _ _ _ => by
  simp [execOp, hc, hx, asBool, go_sem]
theorem Ex.pickF {c x y : Operand} (v : Value) (hc : ev σ c = .bool false) (hx : ev σ y = v) : Ex P σ (.pick c x y) ty w v w := fun _ _ _ _ => by
  simp [execOp, hc, hx, asBool, go_sem]

/-! ### Integers -/
theorem wrap_i64 {n : Int} (h1 : -9223372036854775808 ≤ n) (h2 : n ≤ 9223372036854775807) : IntKind.i64.wrap n = n := by
  have e : IntKind.i64.wrap n = if n % 18446744073709551616 ≥ 9223372036854775808 then n % 18446744073709551616 - 18446744073709551616 else n % 18446744073709551616 := by
    simp [IntKind.wrap, IntKind.bits, IntKind.signed]
  rw [e]
  split <;> omega
theorem wrap_u64 (n : Int) : IntKind.u64.wrap n = n % 18446744073709551616 := by simp [IntKind.wrap, IntKind.bits, IntKind.signed]

theorem Ex.add {x y : Operand} {t u : TypeId} {a b : Int} (hx : ev σ x = .int .i64 a) (hy : ev σ y = .int .i64 b) (h1 : -9223372036854775808 ≤ a + b) (h2 : a + b ≤ 9223372036854775807) :
    Ex P σ (.binOp .add t x y u) ty w (.int .i64 (a + b)) w := fun _ _ _ _ => by
  have e := wrap_i64 h1 h2
  simp [execOp, hx, hy, eqGuard, binOp, Op.intArith, go_sem, e]
theorem Ex.sub {x y : Operand} {t u : TypeId} {a b : Int} (hx : ev σ x = .int .i64 a) (hy : ev σ y = .int .i64 b) (h1 : -9223372036854775808 ≤ a - b) (h2 : a - b ≤ 9223372036854775807) :
    Ex P σ (.binOp .sub t x y u) ty w (.int .i64 (a - b)) w := fun _ _ _ _ => by
  have e := wrap_i64 h1 h2
  simp [execOp, hx, hy, eqGuard, binOp, Op.intArith, go_sem, e]
theorem Ex.mul {x y : Operand} {t u : TypeId} {a b : Int} (hx : ev σ x = .int .i64 a) (hy : ev σ y = .int .i64 b) (h1 : -9223372036854775808 ≤ a * b) (h2 : a * b ≤ 9223372036854775807) :
    Ex P σ (.binOp .mul t x y u) ty w (.int .i64 (a * b)) w := fun _ _ _ _ => by
  have e := wrap_i64 h1 h2
  simp [execOp, hx, hy, eqGuard, binOp, Op.intArith, go_sem, e]
/-- '+' as Go has it, wrapped. -/
theorem Ex.addW {x y : Operand} {t u : TypeId} {k : IntKind} {a b : Int} (hx : ev σ x = .int k a) (hy : ev σ y = .int k b) :
    Ex P σ (.binOp .add t x y u) ty w (.int k (k.wrap (a + b))) w := fun _ _ _ _ => by
  simp [execOp, hx, hy, eqGuard, binOp, Op.intArith, go_sem]
theorem Ex.subW {x y : Operand} {t u : TypeId} {k : IntKind} {a b : Int} (hx : ev σ x = .int k a) (hy : ev σ y = .int k b) :
    Ex P σ (.binOp .sub t x y u) ty w (.int k (k.wrap (a - b))) w := fun _ _ _ _ => by
  simp [execOp, hx, hy, eqGuard, binOp, Op.intArith, go_sem]
theorem Ex.mulW {x y : Operand} {t u : TypeId} {k : IntKind} {a b : Int} (hx : ev σ x = .int k a) (hy : ev σ y = .int k b) :
    Ex P σ (.binOp .mul t x y u) ty w (.int k (k.wrap (a * b))) w := fun _ _ _ _ => by
  simp [execOp, hx, hy, eqGuard, binOp, Op.intArith, go_sem]
theorem Ex.quo {x y : Operand} {t u : TypeId} {a b : Int} (hx : ev σ x = .int .i64 a) (hy : ev σ y = .int .i64 b) (h1 : 0 ≤ a) (h2 : a ≤ 9223372036854775807) (h3 : 0 < b) :
    Ex P σ (.binOp .quo t x y u) ty w (.int .i64 (a / b)) w := fun _ _ _ _ => by
  have e0 : a.tdiv b = a / b := Int.tdiv_eq_ediv_of_nonneg h1
  have hq : 0 ≤ a / b := Int.ediv_nonneg h1 (by omega)
  have hq2 : a / b ≤ a := Int.ediv_le_self b h1
  have e : IntKind.i64.wrap (a / b) = a / b := wrap_i64 (by omega) (by omega)
  have hb : b ≠ 0 := by omega
  simp [execOp, hx, hy, eqGuard, binOp, Op.intDiv, go_sem, hb, e0, e]
theorem Ex.rem {x y : Operand} {t u : TypeId} {k : IntKind} {a b : Int} (hx : ev σ x = .int k a) (hy : ev σ y = .int k b) (h1 : 0 ≤ a) (h3 : b ≠ 0) :
    Ex P σ (.binOp .rem t x y u) ty w (.int k (a % b)) w := fun _ _ _ _ => by
  have e0 : a.tmod b = a % b := Int.tmod_eq_emod_of_nonneg h1
  simp [execOp, hx, hy, eqGuard, binOp, Op.intDiv, go_sem, h3, e0]
theorem Ex.lss {x y : Operand} {t u : TypeId} {k : IntKind} {a b : Int} (hx : ev σ x = .int k a) (hy : ev σ y = .int k b) : Ex P σ (.binOp .lss t x y u) ty w (.bool (decide (a < b))) w := fun _ _ _ _ => by
  simp [execOp, hx, hy, eqGuard, binOp, Op.intCmp, go_sem]
theorem Ex.leq {x y : Operand} {t u : TypeId} {k : IntKind} {a b : Int} (hx : ev σ x = .int k a) (hy : ev σ y = .int k b) : Ex P σ (.binOp .leq t x y u) ty w (.bool (decide (a ≤ b))) w := fun _ _ _ _ => by
  simp [execOp, hx, hy, eqGuard, binOp, Op.intCmp, go_sem]
theorem Ex.gtr {x y : Operand} {t u : TypeId} {k : IntKind} {a b : Int} (hx : ev σ x = .int k a) (hy : ev σ y = .int k b) : Ex P σ (.binOp .gtr t x y u) ty w (.bool (decide (b < a))) w := fun _ _ _ _ => by
  simp [execOp, hx, hy, eqGuard, binOp, Op.intCmp, go_sem]
theorem Ex.geq {x y : Operand} {t u : TypeId} {k : IntKind} {a b : Int} (hx : ev σ x = .int k a) (hy : ev σ y = .int k b) : Ex P σ (.binOp .geq t x y u) ty w (.bool (decide (b ≤ a))) w := fun _ _ _ _ => by
  simp [execOp, hx, hy, eqGuard, binOp, Op.intCmp, go_sem]
theorem Ex.eql {x y : Operand} {t u : TypeId} {k : IntKind} {a b : Int} (hx : ev σ x = .int k a) (hy : ev σ y = .int k b) : Ex P σ (.binOp .eql t x y u) ty w (.bool (decide (a = b))) w := fun _ _ _ _ => by
  simp [execOp, hx, hy, eqGuard, binOp, Op.intCmp, go_sem, Bool.beq_eq_decide_eq]
theorem Ex.neq {x y : Operand} {t u : TypeId} {k : IntKind} {a b : Int} (hx : ev σ x = .int k a) (hy : ev σ y = .int k b) : Ex P σ (.binOp .neq t x y u) ty w (.bool (decide (a ≠ b))) w := fun _ _ _ _ => by
  simp [execOp, hx, hy, eqGuard, binOp, Op.intCmp, go_sem, bne, Bool.beq_eq_decide_eq]
theorem Ex.not {x : Operand} {t : TypeId} {p : Prop} [Decidable p] (hx : ev σ x = .bool (decide p)) : Ex P σ (.unOp .not t x) ty w (.bool (decide (¬ p))) w := fun _ _ _ _ => by
  simp [execOp, hx, Op.unary, go_sem]
theorem Ex.notB {x : Operand} {t : TypeId} {b : Bool} (hx : ev σ x = .bool b) : Ex P σ (.unOp .not t x) ty w (.bool (!b)) w := fun _ _ _ _ => by
  simp [execOp, hx, Op.unary, go_sem]
theorem Ex.neg {x : Operand} {t : TypeId} {a : Int} (hx : ev σ x = .int .i64 a) (h1 : -9223372036854775807 ≤ a) (h2 : a ≤ 9223372036854775807) : Ex P σ (.unOp .neg t x) ty w (.int .i64 (-a)) w := fun _ _ _ _ => by
  have e : IntKind.i64.wrap (0 - a) = -a := by rw [wrap_i64 (by omega) (by omega)]; omega
  simp only [Int.zero_sub] at e
  simp [execOp, hx, Op.unary, Op.intArith, go_sem, e]
theorem Ex.eqlB {x y : Operand} {t u : TypeId} {a b : Bool} (ht : P.underlying t = some .bool) (hx : ev σ x = .bool a) (hy : ev σ y = .bool b) : Ex P σ (.binOp .eql t x y u) ty w (.bool (decide (a = b))) w := fun _ _ _ _ => by
  have h := run_eql_bool (P := P) w t a b ht
  rw [Bool.beq_eq_decide_eq] at h
  simp only [execOp, hx, hy]
  simp [eqGuard, h]
theorem Ex.neqB {x y : Operand} {t u : TypeId} {a b : Bool} (ht : P.underlying t = some .bool) (hx : ev σ x = .bool a) (hy : ev σ y = .bool b) : Ex P σ (.binOp .neq t x y u) ty w (.bool (decide (a ≠ b))) w := fun _ _ _ _ => by
  have h : (binOp .neq t (.bool a) (.bool b)).run P w = .ok (.bool (decide (a ≠ b))) w := by
    have h1 := run_equal_bool (P := P) w t a b ht
    rw [Bool.beq_eq_decide_eq] at h1
    show (do pure (Value.bool (!(← Op.equal t (.bool a) (.bool b)))) : Sem Value).run P w = _
    simp [h1]
  simp only [execOp, hx, hy]
  simp [eqGuard, h]
/-- A conversion between kinds of integers, of a number that fits. -/
theorem Ex.conv {x : Operand} {t u : TypeId} {k k' : IntKind} {s : TypeDesc} {a : Int} (hs : P.underlying t = some s) (hu : P.underlying u = some (.int k')) (hx : ev σ x = .int k a) (h : k'.wrap a = a) : Ex P σ (.convert t u x) ty w (.int k' a) w := fun _ _ _ _ => by
  simp [execOp, hx, convert, run_underlying hs, run_underlying hu, Conv.intToInt, go_sem, h]
theorem Ex.convW {x : Operand} {t u : TypeId} {k k' : IntKind} {s : TypeDesc} {a : Int} (hs : P.underlying t = some s) (hu : P.underlying u = some (.int k')) (hx : ev σ x = .int k a) : Ex P σ (.convert t u x) ty w (.int k' (k'.wrap a)) w := fun _ _ _ _ => by
  simp [execOp, hx, convert, run_underlying hs, run_underlying hu, Conv.intToInt, go_sem]
theorem Ex.maxI {x y : Operand} {t : Array TypeId} {k : IntKind} {a b : Int} (hx : ev σ x = .int k a) (hy : ev σ y = .int k b) : Ex P σ (.call { callee := .builtin .max, args := #[x, y], argTypes := t }) ty w (.int k (if a < b then b else a)) w := fun _ _ _ _ => by
  simp [hx, hy, Builtin.max_, Builtin.max2, go_sem]
theorem Ex.minI {x y : Operand} {t : Array TypeId} {k : IntKind} {a b : Int} (hx : ev σ x = .int k a) (hy : ev σ y = .int k b) : Ex P σ (.call { callee := .builtin .min, args := #[x, y], argTypes := t }) ty w (.int k (if b < a then b else a)) w := fun _ _ _ _ => by
  simp [hx, hy, Builtin.min_, Builtin.min2, go_sem]

theorem Ex.binI {op : BinOp} {x y : Operand} {t u : TypeId} {k k' : IntKind} {a b : Int} {v : Value} (hx : ev σ x = .int k a) (hy : ev σ y = .int k' b) (h : (binOp op t (.int k a) (.int k' b)).run P w = .ok v w) : Ex P σ (.binOp op t x y u) ty w v w := fun _ _ _ _ => by
  have hg : eqGuard op t x y (.int k a) (.int k' b) = pure () := by simp [eqGuard]
  simp only [execOp, hx, hy, hg]
  simp [h]

/-! ### Words of 64 bits -/
def u64 (x : BitVec 64) : Value := .int .u64 (x.toNat : Int)

theorem bvOfInt (x : BitVec 64) : BitVec.ofInt 64 (x.toNat : Int) = x := by
  apply BitVec.eq_of_toNat_eq
  simp
theorem wrap_u64_toNat (x : BitVec 64) : IntKind.u64.wrap (x.toNat : Int) = (x.toNat : Int) := by
  rw [wrap_u64]
  have := x.isLt
  omega
theorem Ex.and64 {x y : Operand} {t u : TypeId} {a b : BitVec 64} (hx : ev σ x = u64 a) (hy : ev σ y = u64 b) : Ex P σ (.binOp .and t x y u) ty w (u64 (a &&& b)) w := fun _ _ _ _ => by
  have e : (Op.intBits .and .u64 (a.toNat : Int) (b.toNat : Int)).run P w = .ok (u64 (a &&& b)) w := by
    simp only [Op.intBits, IntKind.bits, bvOfInt]
    rw [wrap_u64_toNat]; rfl
  exact Ex.binI hx hy e _ _ _ _
theorem Ex.or64 {x y : Operand} {t u : TypeId} {a b : BitVec 64} (hx : ev σ x = u64 a) (hy : ev σ y = u64 b) : Ex P σ (.binOp .or t x y u) ty w (u64 (a ||| b)) w := fun _ _ _ _ => by
  have e : (Op.intBits .or .u64 (a.toNat : Int) (b.toNat : Int)).run P w = .ok (u64 (a ||| b)) w := by
    simp only [Op.intBits, IntKind.bits, bvOfInt]
    rw [wrap_u64_toNat]; rfl
  exact Ex.binI hx hy e _ _ _ _
theorem Ex.xor64 {x y : Operand} {t u : TypeId} {a b : BitVec 64} (hx : ev σ x = u64 a) (hy : ev σ y = u64 b) : Ex P σ (.binOp .xor t x y u) ty w (u64 (a ^^^ b)) w := fun _ _ _ _ => by
  have e : (Op.intBits .xor .u64 (a.toNat : Int) (b.toNat : Int)).run P w = .ok (u64 (a ^^^ b)) w := by
    simp only [Op.intBits, IntKind.bits, bvOfInt]
    rw [wrap_u64_toNat]; rfl
  exact Ex.binI hx hy e _ _ _ _
theorem Ex.andNot64 {x y : Operand} {t u : TypeId} {a b : BitVec 64} (hx : ev σ x = u64 a) (hy : ev σ y = u64 b) : Ex P σ (.binOp .andNot t x y u) ty w (u64 (a &&& ~~~b)) w := fun _ _ _ _ => by
  have e : (Op.intBits .andNot .u64 (a.toNat : Int) (b.toNat : Int)).run P w = .ok (u64 (a &&& ~~~b)) w := by
    simp only [Op.intBits, IntKind.bits, bvOfInt]
    rw [wrap_u64_toNat]; rfl
  exact Ex.binI hx hy e _ _ _ _
theorem Ex.add64 {x y : Operand} {t u : TypeId} {a b : BitVec 64} (hx : ev σ x = u64 a) (hy : ev σ y = u64 b) : Ex P σ (.binOp .add t x y u) ty w (u64 (a + b)) w := fun _ _ _ _ => by
  have e : IntKind.u64.wrap ((a.toNat : Int) + (b.toNat : Int)) = ((a + b).toNat : Int) := by
    rw [wrap_u64, BitVec.toNat_add]; omega
  refine Ex.binI hx hy ?_ _ _ _ _
  simp [binOp, Op.intArith, e, u64]
theorem Ex.sub64 {x y : Operand} {t u : TypeId} {a b : BitVec 64} (hx : ev σ x = u64 a) (hy : ev σ y = u64 b) : Ex P σ (.binOp .sub t x y u) ty w (u64 (a - b)) w := fun _ _ _ _ => by
  have e : IntKind.u64.wrap ((a.toNat : Int) - (b.toNat : Int)) = ((a - b).toNat : Int) := by
    have h1 := a.isLt
    have h2 := b.isLt
    rw [wrap_u64, BitVec.toNat_sub]; omega
  refine Ex.binI hx hy ?_ _ _ _ _
  simp [binOp, Op.intArith, e, u64]
theorem Ex.mul64 {x y : Operand} {t u : TypeId} {a b : BitVec 64} (hx : ev σ x = u64 a) (hy : ev σ y = u64 b) : Ex P σ (.binOp .mul t x y u) ty w (u64 (a * b)) w := fun _ _ _ _ => by
  have e : IntKind.u64.wrap ((a.toNat : Int) * (b.toNat : Int)) = ((a * b).toNat : Int) := by
    rw [wrap_u64, BitVec.toNat_mul]; simp
  refine Ex.binI hx hy ?_ _ _ _ _
  simp [binOp, Op.intArith, e, u64]
theorem Ex.neg64 {x : Operand} {t : TypeId} {a : BitVec 64} (hx : ev σ x = u64 a) : Ex P σ (.unOp .neg t x) ty w (u64 (-a)) w := fun _ _ _ _ => by
  have e : IntKind.u64.wrap (0 - (a.toNat : Int)) = ((-a).toNat : Int) := by
    have h1 := a.isLt
    rw [wrap_u64, BitVec.toNat_neg]; omega
  simp only [Int.zero_sub] at e
  have h : (Op.unary .neg (.int .u64 (a.toNat : Int))).run P w = .ok (u64 (-a)) w := by simp [Op.unary, Op.intArith, e, u64]
  simp only [execOp, hx]
  simp [u64, h]
theorem Ex.not64 {x : Operand} {t : TypeId} {a : BitVec 64} (hx : ev σ x = u64 a) : Ex P σ (.unOp .xor t x) ty w (u64 (~~~a)) w := fun _ _ _ _ => by
  have e : (Op.unary .xor (.int .u64 (a.toNat : Int))).run P w = .ok (u64 (~~~a)) w := by
    show (Op.intBits .xor .u64 IntKind.u64.max (a.toNat : Int)).run P w = _
    have h1 : BitVec.ofInt 64 IntKind.u64.max = BitVec.allOnes 64 := by decide
    simp only [Op.intBits, IntKind.bits, bvOfInt, h1]
    rw [wrap_u64_toNat]; rfl
  simp only [execOp, hx]
  simp [u64, e]
theorem Ex.shr64 {x y : Operand} {t u : TypeId} {k : IntKind} {a : BitVec 64} {n : Int} (hx : ev σ x = u64 a) (hy : ev σ y = .int k n) (h : 0 ≤ n) : Ex P σ (.binOp .shr t x y u) ty w (u64 (a >>> n.toNat)) w := fun _ _ _ _ => by
  have e : (Op.shift .shr .u64 (a.toNat : Int) k n).run P w = .ok (u64 (a >>> n.toNat)) w := by
    simp only [Op.shift, if_neg (show ¬ n < 0 by omega), IntKind.bits]
    show Result.ok (Value.int .u64 ((a.toNat : Int).fdiv (2 ^ min n.toNat 64))) w = _
    congr 2
    show (a.toNat : Int).fdiv (2 ^ min n.toNat 64) = ((a >>> n.toNat).toNat : Int)
    rw [BitVec.toNat_ushiftRight, Nat.shiftRight_eq_div_pow]
    have h2 : (2 : Int) ^ min n.toNat 64 = ((2 ^ min n.toNat 64 : Nat) : Int) := by simp
    rw [h2, Int.fdiv_eq_ediv_of_nonneg _ (Int.natCast_nonneg _)]
    rw [← Int.natCast_ediv]
    congr 1
    rcases Nat.le_total n.toNat 64 with h3 | h3
    · rw [Nat.min_eq_left h3]
    · rw [Nat.min_eq_right h3]
      have h1 := a.isLt
      rw [Nat.div_eq_of_lt h1, Nat.div_eq_of_lt (Nat.lt_of_lt_of_le h1 (Nat.pow_le_pow_right (by decide) h3))]
  exact Ex.binI hx hy e _ _ _ _
theorem Ex.shl64 {x y : Operand} {t u : TypeId} {k : IntKind} {a : BitVec 64} {n : Int} (hx : ev σ x = u64 a) (hy : ev σ y = .int k n) (h : 0 ≤ n) : Ex P σ (.binOp .shl t x y u) ty w (u64 (a <<< n.toNat)) w := fun _ _ _ _ => by
  have e : (Op.shift .shl .u64 (a.toNat : Int) k n).run P w = .ok (u64 (a <<< n.toNat)) w := by
    simp only [Op.shift, if_neg (show ¬ n < 0 by omega), IntKind.bits]
    show Result.ok (Value.int .u64 (IntKind.u64.wrap ((a.toNat : Int) * 2 ^ min n.toNat 64))) w = _
    congr 2
    rw [wrap_u64]
    rw [BitVec.toNat_shiftLeft, Nat.shiftLeft_eq]
    have h2 : (2 : Int) ^ min n.toNat 64 = ((2 ^ min n.toNat 64 : Nat) : Int) := by simp
    rw [h2, ← Int.natCast_mul]
    have h4 : (a.toNat * 2 ^ min n.toNat 64) % 18446744073709551616 = (a.toNat * 2 ^ n.toNat) % 2 ^ 64 := by
      rcases Nat.le_total n.toNat 64 with h3 | h3
      · rw [Nat.min_eq_left h3]
      · rw [Nat.min_eq_right h3]
        have : 2 ^ n.toNat = 2 ^ 64 * 2 ^ (n.toNat - 64) := by rw [← Nat.pow_add]; congr 1; omega
        rw [this, ← Nat.mul_assoc, Nat.mul_right_comm, Nat.mul_mod_left]
        simp
    rw [← h4]
    omega
  exact Ex.binI hx hy e _ _ _ _
theorem Ex.eql64 {x y : Operand} {t u : TypeId} {a b : BitVec 64} (hx : ev σ x = u64 a) (hy : ev σ y = u64 b) : Ex P σ (.binOp .eql t x y u) ty w (.bool (decide (a = b))) w := fun d pos af gd => by
  rw [Ex.eql hx hy d pos af gd]
  congr 4
  exact propext ⟨fun h => BitVec.eq_of_toNat_eq (by omega), fun h => by rw [h]⟩
theorem Ex.neq64 {x y : Operand} {t u : TypeId} {a b : BitVec 64} (hx : ev σ x = u64 a) (hy : ev σ y = u64 b) : Ex P σ (.binOp .neq t x y u) ty w (.bool (decide (a ≠ b))) w := fun d pos af gd => by
  rw [Ex.neq hx hy d pos af gd]
  congr 4
  exact propext ⟨fun h e => h (by rw [e]), fun h e => h (BitVec.eq_of_toNat_eq (by omega))⟩
end
end Go.Proofs.YtackllehpecfgaaDoor
