/- Arguments that can be read, opened; a listed table. No program in sight. -/
import Derived.Test.YtackllehpecfgaaDoorDat
import Derived.Test.YtackllehpecfgaaDoorTz
import Derived.LaidMore
import Derived.OpenShut
import Derived.Stop.Joined
namespace Go.Proofs.YtackllehpecfgaaDoor
open Go.RowKit Go.ChangeShapes Go.WideShapes

section
variable {H : Type} {enc : TypeId × Value → H} {P : Program} {W : World} {t : TypeId} {v : Value} {d : DataW H} {p : List MemPlace} {b0 : Nat}

theorem open_any {α : Type} [Dat α] (hR : Reads P t α) (h : DataW.Trod enc P W 0 (fun _ => true) true t v d p) : ∃ a : α, Dat.Rd (HW W) v.cells.toList a := by
  obtain ⟨fuel, hf⟩ := h
  exact hR.read hf
theorem open_str {α : Type} [Dat α] {fs : Array Field} (ht : P.underlying t = some (.struct fs)) (hR : Reads P t α) (hval : Value.okWide P W .any b0 t v) (h : DataW.Trod enc P W 0 (fun _ => true) true t v d p) : ∃ (cs : List Value) (a : α), v = .agg cs.toArray ∧ Dat.Rd (HW W) cs a := by
  obtain ⟨cs, rfl, _⟩ := okWide_struct ht hval
  obtain ⟨a, ha⟩ := open_any hR h
  exact ⟨cs.toList, a, rfl, ha⟩
theorem open_sl {α : Type} [Dat α] {e : TypeId} (ht : P.underlying t = some (.slice e)) (hR : Reads P t (List α)) (hval : Value.okWide P W .any b0 t v) (h : DataW.Trod enc P W 0 (fun _ => true) true t v d p) :
    ∃ (A : Option Addr) (c : Nat) (xs : List α) (cells : List Value), v = .slice A xs.length c ∧ RdC (HW W) A xs.length c (Dat.sz α) cells ∧ RdL (HW W) cells xs := by
  obtain ⟨A, l, c, rfl⟩ := okWide_slice ht hval
  obtain ⟨xs, A2, c2, cells, e1, h1, h2⟩ := open_any hR h
  have e2 : Value.slice A l c = .slice A2 xs.length c2 := (List.cons.inj (show [Value.slice A l c] = _ from e1)).1
  cases e2
  exact ⟨A, c, xs, cells, rfl, h1, h2⟩
theorem open_i (ht : P.underlying t = some (.int .i64)) (hval : Value.okWide P W .any b0 t v) (h : DataW.Trod enc P W 0 (fun _ => true) true t v d p) : ∃ n : Int, v = .int .i64 n ∧ -9223372036854775808 ≤ n ∧ n ≤ 9223372036854775807 := by
  obtain ⟨n, rfl, _, _, hw⟩ := open_int ht hval h
  have := wf_int hw
  simp only [IntKind.min, IntKind.max, IntKind.bits, IntKind.signed] at this
  exact ⟨n, rfl, by simpa using this⟩
theorem open_u16 (ht : P.underlying t = some (.int .u16)) (hval : Value.okWide P W .any b0 t v) (h : DataW.Trod enc P W 0 (fun _ => true) true t v d p) : ∃ n : Nat, v = .int .u16 (n : Int) ∧ n < 65536 := by
  obtain ⟨n, rfl, _, _, hw⟩ := open_int ht hval h
  have h2 := wf_int hw
  simp only [IntKind.min, IntKind.max, IntKind.bits, IntKind.signed] at h2
  have h3 : 0 ≤ n ∧ n < 65536 := ⟨by simpa using h2.1, by have := h2.2; simp at this; omega⟩
  exact ⟨n.toNat, by rw [Int.toNat_of_nonneg h3.1], by omega⟩

/-- A bitmap. -/
theorem open_bm {fs : Array Field} (ht : P.underlying t = some (.struct fs)) (hR : Reads P t (Int × List (BitVec 64) × Unit)) (hval : Value.okWide P W .any b0 t v) (h : DataW.Trod enc P W 0 (fun _ => true) true t v d p) :
    ∃ (A : Option Addr) (n : Int) (c : Nat) (ws : List (BitVec 64)), v = .agg #[.int .i64 n, .slice A ws.length c] ∧ RdC (HW W) A ws.length c 1 (ws.map u64) := by
  obtain ⟨cs, ⟨n, ws, u⟩, rfl, c1, c2, rfl, ⟨rfl, _, _⟩, c3, c4, rfl, ⟨A, c, cells, rfl, h1, h2⟩, h3⟩ := open_str ht hR hval h
  obtain rfl : c4 = [] := h3
  obtain rfl := RdL.words h2
  exact ⟨A, n, c, ws, rfl, h1⟩
/-- A struct of two integers. -/
theorem open_ii {fs : Array Field} (ht : P.underlying t = some (.struct fs)) (hR : Reads P t (Int × Int × Unit)) (hval : Value.okWide P W .any b0 t v) (h : DataW.Trod enc P W 0 (fun _ => true) true t v d p) : ∃ s c : Int, v = .agg #[.int .i64 s, .int .i64 c] := by
  obtain ⟨cs, ⟨s, c, u⟩, rfl, c1, c2, rfl, ⟨rfl, _, _⟩, c3, c4, rfl, ⟨rfl, _, _⟩, h3⟩ := open_str ht hR hval h
  obtain rfl : c4 = [] := h3
  exact ⟨s, c, rfl⟩
theorem RdL.pairs {H : Hp} : ∀ {es : List (Int × Int × Unit)} {cs : List Value}, RdL H cs es → cs = (es.map fun e => (e.1, e.2.1)).flatMap eC
  | [], _, h => h
  | (s, c, u) :: es, _, ⟨c1, c2, h, ⟨d1, d2, h1, ⟨h2, _, _⟩, d3, d4, h3, ⟨h4, _, _⟩, h5⟩, h6⟩ => by
    have h7 : d4 = [] := h5
    rw [h, h1, h2, h3, h4, h7, RdL.pairs h6]; rfl
theorem RdL.pairs_range {H : Hp} : ∀ {es : List (Int × Int × Unit)} {cs : List Value}, RdL H cs es → ∀ e ∈ es.map (fun e => (e.1, e.2.1)), (-9223372036854775808 ≤ e.1 ∧ e.1 ≤ 9223372036854775807) ∧ -9223372036854775808 ≤ e.2 ∧ e.2 ≤ 9223372036854775807
  | [], _, _ => by simp
  | (s, c, u) :: es, _, ⟨c1, c2, h, ⟨d1, d2, h1, ⟨h2, h2a, h2b⟩, d3, d4, h3, ⟨h4, h4a, h4b⟩, h5⟩, h6⟩ => by
    intro e he
    rcases List.mem_cons.1 he with rfl | he
    · exact ⟨⟨h2a, h2b⟩, h4a, h4b⟩
    · exact RdL.pairs_range h6 e he
/-- A slice of structs of two integers. -/
theorem open_exts {e : TypeId} (ht : P.underlying t = some (.slice e)) (hR : Reads P t (List (Int × Int × Unit))) (hval : Value.okWide P W .any b0 t v) (h : DataW.Trod enc P W 0 (fun _ => true) true t v d p) :
    ∃ (A : Option Addr) (c : Nat) (es : List (Int × Int)), v = .slice A es.length c ∧ RdC (HW W) A es.length c 2 (es.flatMap eC) ∧ ∀ e ∈ es, (-9223372036854775808 ≤ e.1 ∧ e.1 ≤ 9223372036854775807) ∧ -9223372036854775808 ≤ e.2 ∧ e.2 ≤ 9223372036854775807 := by
  obtain ⟨A, c, xs, cells, rfl, h1, h2⟩ := open_sl ht hR hval h
  refine ⟨A, c, xs.map fun e => (e.1, e.2.1), by rw [List.length_map], ?_, RdL.pairs_range h2⟩
  rw [List.length_map, ← RdL.pairs h2]
  exact h1
end

/-- The table of the least ones, out of what the row lists. -/
theorem tab_of_laid {P : Program} {W : World} {g t e : Nat} {D : DataW Unit} (hg : P.globalNamed "math/bits.deBruijn64tab" = some g) (ht : (P.globals[g]?).map (·.type) = some t) (hu : P.underlying t = some (.array 64 e)) (he : P.underlying e = some (.int .u8)) (hc : P.cellsOf e = 1)
    (hp : (([("math/bits.deBruijn64tab", D)] : List (String × DataW Unit)).all fun x => x.2.handleName?.isNone) = true) (hD : D = .agg (Lib.deBruijn64tab.map fun k => .lit (.int .u8 ((k : Nat) : Int)))) (h : laidMetH P [("math/bits.deBruijn64tab", D)] W) : TabH (HW W) g := by
  rw [MakeChecks.laidMetH_plain _ _ _ hp] at h
  obtain ⟨ps, ⟨g0, t0, cs0, f0, p0, q0, hg0, ht0, hv0, hd0, _, _⟩, _, _⟩ := h
  obtain rfl := Option.some.inj (hg.symm.trans hg0)
  obtain rfl := Option.some.inj (ht.symm.trans ht0)
  obtain ⟨xs, m, _, hx, _, hn, hel⟩ := DataW.trod_array hu hd0
  simp only [World.var?, hg, Option.bind_some] at hv0
  split at hv0
  · rename_i cs T fr hb
    obtain rfl := Option.some.inj hv0
    refine ⟨cs.toList, T, fr, hb, fun j hj => ?_⟩
    have h1 := hel j hj
    rw [hc, Nat.mul_one, List.getElem?_eq_getElem (by omega)] at h1
    obtain ⟨k, h2, h3, _⟩ := DataW.trod_int he h1
    rw [hD] at hx
    have h4 := congrArg (fun y => y.1) hx
    simp only [DataW.agg.injEq] at h4
    have h5 := congrArg (fun l => l[j]?) h4
    simp only [List.getElem?_map, List.getElem?_eq_getElem (show j < xs.length by omega), Option.map_some, h3] at h5
    have hlen : j < Lib.deBruijn64tab.length := by rw [show Lib.deBruijn64tab.length = 64 by decide]; exact hj
    rw [List.getElem?_eq_getElem hlen, Option.map_some] at h5
    have h6 := Option.some.inj h5
    simp only [DataW.lit.injEq, Lit.int.injEq, true_and] at h6
    have h7 : (cs.toList.drop j).take 1 = [.int .u8 k] := h2
    have h8 : cs.toList[j]? = some (.int .u8 k) := by
      have := congrArg (fun l => l[0]?) h7
      simpa [List.getElem?_take, List.getElem?_drop] using this
    rw [h8, List.getD_eq_getElem?_getD, List.getElem?_eq_getElem hlen, Option.getD_some, h6]
  · cases hv0
end Go.Proofs.YtackllehpecfgaaDoor
