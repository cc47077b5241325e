/- A table in a package's variable; the least one of a word. -/
import Derived.Test.YtackllehpecfgaaDoorElem
import Derived.Test.YtackllehpecfgaaDoorRange
namespace Go.Proofs.YtackllehpecfgaaDoor
open Go.RowKit

def TabH (H : Hp) (g : Nat) : Prop := ∃ (cs : List Value) (T : TypeId) (fr : Nat × Nat), H g = some (.cells cs.toArray T fr) ∧ ∀ j, j < 64 → cs[j]? = some (.int .u8 ((Lib.deBruijn64tab.getD j 0 : Nat) : Int))
theorem TabH.mono {H H' : Hp} {g : Nat} (h : TabH H g) (hle : H.le H') : TabH H' g := by
  obtain ⟨cs, T, fr, h1, h2⟩ := h
  exact ⟨cs, T, fr, hle _ _ h1, h2⟩

def ArrT (P : Program) (t n e sz : Nat) : Prop := P.underlying t = some (.array n e) ∧ ∃ i, P.info? e = some i ∧ i.size = sz
def arrTB (P : Program) (t n e sz : Nat) : Bool := (match P.underlying t with | some (.array n' e') => Nat.beq n' n && Nat.beq e' e | _ => false) && (match P.info? e with | some i => Nat.beq i.size sz | none => false)
theorem arrT_of {P : Program} {t n e sz : Nat} (h : arrTB P t n e sz = true) : ArrT P t n e sz := by
  unfold arrTB at h
  rw [Bool.and_eq_true] at h
  obtain ⟨h1, h2⟩ := h
  refine ⟨?_, ?_⟩
  · split at h1
    · rename_i n' e' hd
      rw [Bool.and_eq_true] at h1
      rw [hd, Nat.eq_of_beq_eq_true h1.1, Nat.eq_of_beq_eq_true h1.2]
    · cases h1
  · split at h2
    · rename_i i hi
      exact ⟨i, hi, Nat.eq_of_beq_eq_true h2⟩
    · cases h2

section
variable {P : Program} {σ : Nat → Value} {ty : TypeId} {w w0 : World} {H0 H H1 : Hp} {L : List Ent}
theorem Ex.indexArr {t n e sz : Nat} {x y : Operand} {b o : Nat} {q : IntKind} {i : Int} (ht : ArrT P t n e sz) (hx : ev σ x = .pointer (some ⟨b, o, none⟩)) (hy : ev σ y = .int q i) (k : Nat) (hi : i = (k : Int)) (hk : k < n) :
    Ex P σ (.indexAddr t x y) ty w (.pointer (some ⟨b, o + k * sz, none⟩)) w := fun _ _ _ _ => by
  obtain ⟨h1, inf, h2, h3⟩ := ht
  subst h3
  subst hi
  have e : (Instr.indexAt t (.pointer (some ⟨b, o, none⟩)) (.int q (k : Int))).run P w = .ok (.pointer (some ⟨b, o + k * inf.size, none⟩)) w := by
    simp [Instr.indexAt, asIntOf, run_underlying h1, hk, run_sizeOf h2, Instr.sureAddr, add_none]
  simp only [execOp, hx, hy]
  simp [e]
end

theorem tz_idx {x : BitVec 64} (hx : x ≠ 0#64) : (((x &&& -x) * 285870213051353865#64) >>> (58 : Int).toNat).toNat < 64 ∧ Lib.deBruijn64tab.getD (((x &&& -x) * 285870213051353865#64) >>> (58 : Int).toNat).toNat 0 = Lib.ctz 64 x.toNat ∧ Lib.ctz 64 x.toNat < 64 := by
  have h0 : x.toNat ≠ 0 := fun e => hx (BitVec.eq_of_toNat_eq (by simpa using e))
  have hlt := x.isLt
  obtain ⟨hlow, hk⟩ := Lib.lowest_bit 64 x.toNat h0 hlt
  obtain ⟨hi, htab⟩ := Lib.deBruijn64_at _ hk
  have e : (((x &&& -x) * 285870213051353865#64) >>> (58 : Int).toNat).toNat = 2 ^ Lib.ctz 64 x.toNat * 285870213051353865 % 18446744073709551616 / 288230376151711744 := by
    rw [BitVec.toNat_ushiftRight, BitVec.toNat_mul, BitVec.toNat_and, BitVec.toNat_neg]
    have e1 : (2 ^ 64 - x.toNat) % 2 ^ 64 = 2 ^ 64 - x.toNat := Nat.mod_eq_of_lt (by omega)
    rw [e1, hlow, Nat.shiftRight_eq_div_pow]
    rfl
  rw [e]
  exact ⟨hi, htab, hk⟩

/-! ### The iterator of a bitmap's elements -/
def ELv (F1 : FuncId) (cs1 : List Value) (a : Int) (H : Hp) (v : Value) : Prop :=
  ∃ b1 b2 T1 T2, v = .func (.func F1) #[] #[.pointer (some ⟨b1, 0, none⟩), .pointer (some ⟨b2, 0, none⟩)] ∧ H b1 = some (.cells cs1.toArray T1 (0, 0)) ∧ H b2 = some (.cells [Value.int .i64 a].toArray T2 (0, 0))
theorem elL_max (n : Int) (ws : List (BitVec 64)) (a : Int) : elL n ws (if a < 0 then 0 else a) = elL n ws a := by
  split
  · rename_i h; exact elL_neg h
  · rfl
theorem nextR_el {n : Int} {ws : List (BitVec 64)} {a : Int} {k : Nat} (h : k < (elL n ws (if a < 0 then 0 else a)).length) (h0 : k = 0) : nextR n ws a = (((elL n ws (if a < 0 then 0 else a)).getD k 0 : Nat) : Int) := by
  rw [elL_max] at h ⊢
  subst h0
  rw [elL_next]
  cases hl : elL n ws a with
  | nil => rw [hl] at h; simp at h
  | cons e r => rfl
theorem nextR_nil {n : Int} {ws : List (BitVec 64)} {a : Int} (h : (elL n ws (if a < 0 then 0 else a)).length = 0) : nextR n ws a = -1 := by
  rw [elL_max] at h
  rw [elL_next, List.eq_nil_of_length_eq_zero h]; rfl
/-- The extents of the elements up to the k-th. -/
theorem elL_take {n : Int} {ws : List (BitVec 64)} {k : Nat} (h : k < (elL n ws 0).length) : ∃ e : Nat, (elL n ws 0).getD k 0 = e ∧ (e : Int) < n ∧ n ≤ 4096 ∧ extsOf ((elL n ws 0).take k) = extsK ws e ∧ extsOf ((elL n ws 0).take (k + 1)) = addX (extsOf ((elL n ws 0).take k)) (e : Int) := by
  refine ⟨_, rfl, ?_, ?_, ?_, ?_⟩
  rotate_left
  · have hc : ¬ chk n ws ≠ 0 := fun hc => by rw [elL_form hc] at h; simp at h
    exact (wf_len (Classical.not_not.1 hc)).2.1
  rotate_left
  rotate_left
  · have hc : ¬ chk n ws ≠ 0 := fun hc => by rw [elL_form hc] at h; simp at h
    have hm : (elL n ws 0).getD k 0 ∈ elL n ws 0 := by rw [List.getD_eq_getElem?_getD, List.getElem?_eq_getElem h]; exact List.getElem_mem h
    rw [elL_ok hc] at hm
    have := (List.mem_range.1 (List.mem_filter.1 hm).1)
    rw [elL_ok hc]
    omega
  · have hc : ¬ chk n ws ≠ 0 := fun hc => by rw [elL_form hc] at h; simp at h
    have key : ∀ m k, k < (elK ws 0 m).length → (elK ws 0 m).take k = elK ws 0 ((elK ws 0 m).getD k 0) := by
      intro m
      induction m with
      | zero => intro k hk; simp [elK] at hk
      | succ m ih =>
        intro k hk
        cases hb : elB ws 0 m with
        | false => rw [elK_no hb] at hk ⊢; exact ih k hk
        | true =>
          rw [elK_yes hb] at hk ⊢
          by_cases hlt : k < (elK ws 0 m).length
          · rw [List.take_append_of_le_length (by omega), ih k hlt]
            congr 1
            rw [List.getD_eq_getElem?_getD, List.getD_eq_getElem?_getD, List.getElem?_append_left hlt]
          · have : k = (elK ws 0 m).length := by simp at hk; omega
            subst this
            rw [List.take_left]
            simp
    rw [elL_ok hc] at h ⊢
    rw [key _ _ h]
    unfold extsK elK
    congr 2
  · rw [List.take_add_one, List.getElem?_eq_getElem h, Option.toList_some, extsOf_snoc, List.getD_eq_getElem?_getD, List.getElem?_eq_getElem h]
    rfl
end Go.Proofs.YtackllehpecfgaaDoor
