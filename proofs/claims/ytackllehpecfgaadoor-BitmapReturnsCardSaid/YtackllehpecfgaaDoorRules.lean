/- The rules of the operations that touch memory, and of calls. -/
import Derived.Test.YtackllehpecfgaaDoorMem
import Derived.Shelf.Abstract
import Derived.Laws.CopyRow
import Derived.Laws.Cells
namespace Go.Proofs.YtackllehpecfgaaDoor
open Go.RowKit

/-! ### Facts on types -/
def isAggD : TypeDesc → Bool
  | .struct _ => true
  | .array _ _ => true
  | _ => false
def TyOne (P : Program) (T : TypeId) : Prop := (∃ d, P.underlying T = some d ∧ isAggD d = false) ∧ ∃ i, P.info? T = some i ∧ i.size = 1
def TyAgg (P : Program) (T : TypeId) (n : Nat) : Prop := (∃ d, P.underlying T = some d ∧ isAggD d = true) ∧ ∃ i, P.info? T = some i ∧ i.size = n
def TyZero (P : Program) (T : TypeId) (z : Value) : Prop := ∃ i, P.info? T = some i ∧ i.zero = some z
def FieldAt (P : Program) (s f off : Nat) : Prop := ∃ fs fd i, P.underlying s = some (.struct fs) ∧ fs[f]? = some fd ∧ fd.offset = off ∧ P.info? fd.type = some i ∧ i.size ≠ 0
def SliceT (P : Program) (t e sz bytes : Nat) : Prop := P.underlying t = some (.slice e) ∧ ∃ i z, P.info? e = some i ∧ i.size = sz ∧ i.bytes = bytes ∧ i.zero = some z ∧ z.cells.size = sz ∧ 0 < sz

/-- The place of cell k behind a slice's first. -/
def elp (A : Option Addr) (k : Nat) : Value :=
  match A with
  | some a => .pointer (some (a.add k))
  | none => undef

/-- A slice whose cells nobody writes any more. -/
def RdC (H : Hp) (A : Option Addr) (n c sz : Nat) (cs : List Value) : Prop :=
  cs.length = n * sz ∧ n ≤ c ∧ c ≤ maxLen ∧ (A = none → c = 0) ∧ ∀ a, A = some a → n ≠ 0 → a.spot = none ∧ ∃ cur T fr, H a.block = some (.cells cur T fr) ∧ ∀ j u, cs[j]? = some u → cur[a.off + j]? = some u

theorem RdC.mono {H H' : Hp} {A : Option Addr} {n c sz : Nat} {cs : List Value} (h : RdC H A n c sz cs) (hle : H.le H') : RdC H' A n c sz cs := by
  obtain ⟨h1, h2, h3, h4, h5⟩ := h
  exact ⟨h1, h2, h3, h4, fun a ha hn => let ⟨hs, cur, T, fr, e, g⟩ := h5 a ha hn; ⟨hs, cur, T, fr, hle _ _ e, g⟩⟩
theorem RdC.nil (H : Hp) (sz : Nat) : RdC H none 0 0 sz [] := ⟨by simp, Nat.le_refl _, Nat.zero_le _, fun _ => rfl, fun _ h => by cases h⟩
theorem RdC.some_of {H : Hp} {A : Option Addr} {n c sz : Nat} {cs : List Value} (h : RdC H A n c sz cs) (hn : 0 < n) : ∃ a, A = some a := by
  cases A with
  | some a => exact ⟨a, rfl⟩
  | none => have := h.2.2.2.1 rfl; have := h.2.1; omega

theorem add_none (b o k : Nat) : (⟨b, o, none⟩ : Addr).add k = ⟨b, o + k, none⟩ := by unfold Addr.add; split <;> simp_all
theorem add_spot {a : Addr} (h : a.spot = none) (k : Nat) : a.add k = ⟨a.block, a.off + k, none⟩ := by
  obtain ⟨b, o, s⟩ := a
  obtain rfl : s = none := h
  exact add_none b o k

theorem RdC.cell {H : Hp} {w : World} (hag : ∀ b o, H b = some o → w.heap[b]? = some o) {A : Option Addr} {n c sz : Nat} {cs : List Value} (h : RdC H A n c sz cs) {a : Addr} (ha : A = some a) {j : Nat} {u : Value} (hj : cs[j]? = some u) : w.cell? (a.add j) = some u := by
  obtain ⟨h1, h2, h3, h4, h5⟩ := h
  have hlt : j < cs.length := (List.getElem?_eq_some_iff.1 hj).1
  obtain ⟨hs, cur, T, fr, e, g⟩ := h5 a ha (by rintro rfl; simp at h1; subst h1; simp at hlt)
  rw [add_spot hs, World.cell?]
  simp only [hag _ _ e]
  exact g j u hj

section
variable {P : Program} {σ : Nat → Value} {ty : TypeId} {w : World}

theorem run_isAgg {T : TypeId} {d : TypeDesc} (h : P.underlying T = some d) (w : World) : (isAgg T).run P w = .ok (isAggD d) w := by
  cases d <;> simp [isAgg, run_underlying h, isAggD]
theorem run_sizeOf {T : TypeId} {i : TypeInfo} (h : P.info? T = some i) (w : World) : (sizeOf T).run P w = .ok i.size w := by
  simp [sizeOf, typeInfo, h]
theorem run_zero {T : TypeId} {z : Value} (h : TyZero P T z) (w : World) : (zeroValue T).run P w = .ok z w := by
  obtain ⟨i, h1, h2⟩ := h
  simp [zeroValue, typeInfo, h1, h2]

theorem Ex.box {x : Operand} {T : TypeId} (v : Value) (hx : ev σ x = v) : Ex P σ (.box T x) ty w (.pointer (some ⟨w.heap.size, 0, none⟩)) (w.alloc (.cells v.cells T)) := fun _ _ _ _ => by
  subst hx; rfl
theorem Ex.alloc {T : TypeId} {z : Value} (hz : TyZero P T z) : Ex P σ (.alloc T) ty w (.pointer (some ⟨w.heap.size, 0, none⟩)) (w.alloc (.cells z.cells T)) := fun _ _ _ _ => by
  have h1 := run_zero hz w
  simp only [execOp, Instr.alloc]
  simp [h1, newVar, newRow]

theorem Ex.fieldAddr {s f off : Nat} {x : Operand} {b o : Nat} (hf : FieldAt P s f off) (hx : ev σ x = .pointer (some ⟨b, o, none⟩)) : Ex P σ (.fieldAddr s x f) ty w (.pointer (some ⟨b, o + off, none⟩)) w := fun _ _ _ _ => by
  obtain ⟨fs, fd, i, h1, h2, h3, h4, h5⟩ := hf
  subst h3
  have e : (Instr.fieldAt s (.pointer (some ⟨b, o, none⟩)) f).run P w = .ok (.pointer (some ⟨b, o + fd.offset, none⟩)) w := by
    simp [Instr.fieldAt, run_underlying h1, h2, Instr.sureAddr, fieldPlace, run_sizeOf h4, h5, add_none]
  simp only [execOp, hx]
  simp [e]
theorem Ex.fieldE {s f off : Nat} {x : Operand} {A : Option Addr} {k : Nat} (hf : FieldAt P s f off) (hA : A ≠ none) (hx : ev σ x = elp A k) : Ex P σ (.fieldAddr s x f) ty w (elp A (k + off)) w := fun _ _ _ _ => by
  obtain ⟨fs, fd, i, h1, h2, h3, h4, h5⟩ := hf
  subst h3
  cases A with
  | none => exact absurd rfl hA
  | some a =>
    have ea : (a.add k).add fd.offset = a.add (k + fd.offset) := by
      unfold Addr.add
      by_cases h6 : k = 0 <;> by_cases h7 : fd.offset = 0 <;> simp [h6, h7, Nat.add_assoc]
    have e : (Instr.fieldAt s (elp (some a) k) f).run P w = .ok (elp (some a) (k + fd.offset)) w := by
      simp [Instr.fieldAt, run_underlying h1, h2, Instr.sureAddr, fieldPlace, run_sizeOf h4, h5, elp, ea]
    simp only [execOp, hx]
    simp [e]
theorem Ex.index {t e sz bytes : Nat} {x y : Operand} {A : Option Addr} {n c : Nat} {i : Int} (ht : SliceT P t e sz bytes) (hx : ev σ x = .slice A n c) (hy : ev σ y = .int .i64 i) (k : Nat) (hA : A ≠ none) (hi : i = (k : Int)) (hk : k < n) :
    Ex P σ (.indexAddr t x y) ty w (elp A (k * sz + 0)) w := fun _ _ _ _ => by
  obtain ⟨h1, inf, z, h2, h3, _⟩ := ht
  subst h3
  cases A with
  | none => exact absurd rfl hA
  | some a =>
    subst hi
    have hc : (0 : Int) ≤ (k : Int) ∧ (k : Int) < (n : Int) := ⟨by omega, by omega⟩
    have e : (Instr.indexAt t (.slice (some a) n c) (.int .i64 (k : Int))).run P w = .ok (elp (some a) (k * inf.size)) w := by
      simp [Instr.indexAt, asIntOf, run_underlying h1, hk, run_sizeOf h2, elp]
    simp only [execOp, hx, hy]
    simp [e]
theorem Ex.len {t e : Nat} {x : Operand} {A : Option Addr} {n c : Nat} (ht : P.underlying t = some (.slice e)) (hx : ev σ x = .slice A n c) : Ex P σ (.call { callee := .builtin .len, args := #[x], argTypes := #[t] }) ty w (.int .i64 (n : Int)) w := fun _ _ _ _ => by
  simp [hx, Builtin.len_, run_underlying ht, goInt, go_sem]
theorem Ex.extract {x : Operand} {vs : Array Value} {i : Nat} {u : Value} (hx : ev σ x = .tuple vs) (hi : vs[i]? = some u) : Ex P σ (.extract x i) ty w u w := fun _ _ _ _ => by
  simp only [execOp, hx]
  simp [Instr.extract, hi]

/-! ### Loads -/
theorem run_load_one {T : TypeId} (ht : TyOne P T) {a : Addr} {u : Value} (h : w.cell? a = some u) : (Instr.loadAt T (.pointer (some a))).run P w = .ok u w := by
  obtain ⟨⟨d, h1, h2⟩, _⟩ := ht
  simp [Instr.loadAt, Instr.sureAddr, loadVar, run_isAgg h1, h2, h]
theorem run_load_agg {T : TypeId} {n : Nat} (ht : TyAgg P T n) {a : Addr} {us : List Value} (hn : us.length = n) (h : ∀ j u, us[j]? = some u → w.cell? (a.add j) = some u) : (Instr.loadAt T (.pointer (some a))).run P w = .ok (.agg us.toArray) w := by
  obtain ⟨⟨d, h1, h2⟩, i, h3, h4⟩ := ht
  have e := run_loadCells_list (P := P) w a us h
  rw [hn, ← h4] at e
  simp [Instr.loadAt, Instr.sureAddr, loadVar, run_isAgg h1, h2, run_sizeOf h3, e]

section
variable {w0 : World} {H0 H H1 : Hp} {L : List Ent}
theorem Mem.boxCell (hM : Mem w0 H0 w H L) {k b : Nat} {T : TypeId} {cs : List Value} (hk : L[k]? = some (.box b T cs)) {o : Nat} {u : Value} (hc : cs[o]? = some u) : w.cell? ⟨b, o, none⟩ = some u := by
  have h := (hM.holds _ (List.mem_of_getElem? hk)).2
  simp [World.cell?, h, hc]
theorem Mem.rowCell (hM : Mem w0 H0 w H L) {k : Nat} {A : Option Addr} {n c sz : Nat} {T : TypeId} {cs : List Value} (hk : L[k]? = some (.row (.slice A n c) T sz n cs)) {a : Addr} (hA : A = some a) {o : Nat} {u : Value} (hc : cs[o]? = some u) : w.cell? (a.add o) = some u := by
  have h : w.ownsRow w0.heap.size T sz (.slice A n c) n cs := hM.holds _ (List.mem_of_getElem? hk)
  rcases h.2 with ⟨h2, _⟩ | ⟨g, cap, cur, hv, hg, hh, hn, hm, hs, ht⟩
  · cases h2; cases hA
  · cases hv
    cases hA
    rw [add_none]
    simp only [World.cell?, hh, Nat.zero_add]
    have : cur.toList[o]? = some u := by
      rw [← ht] at hc
      have hlt : o < (cur.toList.take (n * sz)).length := (List.getElem?_eq_some_iff.1 hc).1
      rw [List.length_take] at hlt
      rw [List.getElem?_take_of_lt (by omega)] at hc
      exact hc
    simpa using this

theorem Ex.load1 (hM : Mem w0 H0 w H L) (k : Nat) {T T' : TypeId} {x : Operand} {b o : Nat} {cs : List Value} {u : Value} (ht : TyOne P T) (hx : ev σ x = .pointer (some ⟨b, o, none⟩)) (hk : L[k]? = some (.box b T' cs)) (hc : cs[o]? = some u) : Ex P σ (.load T x) ty w u w := fun _ _ _ _ => by
  have e := run_load_one (P := P) ht (hM.boxCell hk hc)
  simp only [execOp, hx]
  simp [e]
theorem Ex.loadA (hM : Mem w0 H0 w H L) (k : Nat) {T T' : TypeId} {n : Nat} {x : Operand} {b o : Nat} {cs : List Value} (us : List Value) (ht : TyAgg P T n) (hx : ev σ x = .pointer (some ⟨b, o, none⟩)) (hk : L[k]? = some (.box b T' cs)) (hn : us.length = n) (hc : (cs.drop o).take n = us) : Ex P σ (.load T x) ty w (.agg us.toArray) w := fun _ _ _ _ => by
  have e := run_load_agg (P := P) (w := w) (a := ⟨b, o, none⟩) ht hn fun j u hj => by
    rw [add_none]
    refine hM.boxCell hk ?_
    rw [← hc] at hj
    have hlt : j < n := by
      have := (List.getElem?_eq_some_iff.1 hj).1
      rw [List.length_take] at this; omega
    rw [List.getElem?_take_of_lt hlt, List.getElem?_drop] at hj
    exact hj
  simp only [execOp, hx]
  simp [e]
/-- A cell of data that nobody writes any more. -/
theorem Ex.loadE (hM : Mem w0 H0 w H L) (hle : H1.le H) {A : Option Addr} {n c sz : Nat} {cs : List Value} (hr : RdC H1 A n c sz cs) {T : TypeId} {x : Operand} {k : Nat} {u : Value} (ht : TyOne P T) (hx : ev σ x = elp A k) (hc : cs[k]? = some u) : Ex P σ (.load T x) ty w u w := fun _ _ _ _ => by
  have hlt : k < cs.length := (List.getElem?_eq_some_iff.1 hc).1
  obtain ⟨a, rfl⟩ := hr.some_of (by rcases Nat.eq_zero_or_pos n with rfl | h; · have := hr.1; simp at this; subst this; simp at hlt
                                    · exact h)
  have e := run_load_one (P := P) ht ((hr.mono hle).cell hM.agree rfl hc)
  simp only [execOp, hx, elp]
  simp [e]
theorem Ex.loadEA (hM : Mem w0 H0 w H L) (hle : H1.le H) {A : Option Addr} {n c sz : Nat} {cs : List Value} (hr : RdC H1 A n c sz cs) {T : TypeId} {m : Nat} {x : Operand} {k : Nat} (us : List Value) (ht : TyAgg P T m) (hx : ev σ x = elp A k) (hA : A ≠ none) (hn : us.length = m) (hc : ∀ j u, us[j]? = some u → cs[k + j]? = some u) : Ex P σ (.load T x) ty w (.agg us.toArray) w := fun _ _ _ _ => by
  cases A with
  | none => exact absurd rfl hA
  | some a =>
    have e := run_load_agg (P := P) (w := w) (a := a.add k) ht hn fun j u hj => by
      have := (hr.mono hle).cell hM.agree rfl (hc j u hj)
      rwa [show (a.add k).add j = a.add (k + j) by
        unfold Addr.add
        by_cases h6 : k = 0 <;> by_cases h7 : j = 0 <;> simp [h6, h7, Nat.add_assoc]]
    simp only [execOp, hx, elp]
    simp [e]
/-- A cell of a row of the call's own. -/
theorem Ex.loadR (hM : Mem w0 H0 w H L) (p : Nat) {A : Option Addr} {n c sz : Nat} {T' : TypeId} {cs : List Value} (hk : L[p]? = some (.row (.slice A n c) T' sz n cs)) {T : TypeId} {x : Operand} {k : Nat} {u : Value} (ht : TyOne P T) (hA : A ≠ none) (hx : ev σ x = elp A k) (hc : cs[k]? = some u) : Ex P σ (.load T x) ty w u w := fun _ _ _ _ => by
  cases A with
  | none => exact absurd rfl hA
  | some a =>
    have e := run_load_one (P := P) ht (hM.rowCell hk rfl hc)
    simp only [execOp, hx, elp]
    simp [e]
end
end
end Go.Proofs.YtackllehpecfgaaDoor
