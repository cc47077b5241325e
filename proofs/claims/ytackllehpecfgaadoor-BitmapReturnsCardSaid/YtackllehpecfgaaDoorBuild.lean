/- Facts on types that the kernel reckons; structs and slices written out; make. -/
import Derived.Test.YtackllehpecfgaaDoorDraw
import Derived.Laws.MakeOwn
import Derived.Laws.OwnMore
namespace Go.Proofs.YtackllehpecfgaaDoor
open Go.RowKit

section
variable {P : Program}
def tyOneB (P : Program) (T : TypeId) : Bool := (match P.underlying T with | some d => !isAggD d | none => false) && (match P.info? T with | some i => Nat.beq i.size 1 | none => false)
def tyAggB (P : Program) (T n : Nat) : Bool := (match P.underlying T with | some d => isAggD d | none => false) && (match P.info? T with | some i => Nat.beq i.size n | none => false)
def fieldAtB (P : Program) (s f off : Nat) : Bool := match P.underlying s with
  | some (.struct fs) => match fs[f]? with
    | some fd => Nat.beq fd.offset off && (match P.info? fd.type with | some i => !(Nat.beq i.size 0) | none => false)
    | none => false
  | _ => false
def sliceTB (P : Program) (t e sz bytes : Nat) : Bool := (match P.underlying t with | some (.slice e') => Nat.beq e' e | _ => false) &&
  (match P.info? e with | some i => Nat.beq i.size sz && Nat.beq i.bytes bytes && Nat.blt 0 sz && (match i.zero with | some z => Nat.beq z.cells.size sz | none => false) | none => false)
def sizeB (P : Program) (T n : Nat) : Bool := match P.info? T with | some i => Nat.beq i.size n | none => false

theorem tyOne_of {T : TypeId} (h : tyOneB P T = true) : TyOne P T := by
  rw [tyOneB, Bool.and_eq_true] at h
  obtain ⟨h1, h2⟩ := h
  cases e1 : P.underlying T with
  | none => rw [e1] at h1; cases h1
  | some d =>
    rw [e1] at h1
    cases e2 : P.info? T with
    | none => rw [e2] at h2; cases h2
    | some i =>
      rw [e2] at h2
      exact ⟨⟨d, e1, by simpa using h1⟩, i, e2, Nat.eq_of_beq_eq_true h2⟩
theorem tyAgg_of {T n : Nat} (h : tyAggB P T n = true) : TyAgg P T n := by
  rw [tyAggB, Bool.and_eq_true] at h
  obtain ⟨h1, h2⟩ := h
  cases e1 : P.underlying T with
  | none => rw [e1] at h1; cases h1
  | some d =>
    rw [e1] at h1
    cases e2 : P.info? T with
    | none => rw [e2] at h2; cases h2
    | some i =>
      rw [e2] at h2
      exact ⟨⟨d, e1, by simpa using h1⟩, i, e2, Nat.eq_of_beq_eq_true h2⟩
theorem size_of {T n : Nat} (h : sizeB P T n = true) : ∃ i, P.info? T = some i ∧ i.size = n := by
  rw [sizeB] at h
  cases e2 : P.info? T with
  | none => rw [e2] at h; cases h
  | some i => rw [e2] at h; exact ⟨i, rfl, Nat.eq_of_beq_eq_true h⟩
theorem fieldAt_of {s f off : Nat} (h : fieldAtB P s f off = true) : FieldAt P s f off := by
  rw [fieldAtB] at h
  split at h
  · rename_i fs e1
    split at h
    · rename_i fd e2
      rw [Bool.and_eq_true] at h
      cases e3 : P.info? fd.type with
      | none => rw [e3] at h; cases h.2
      | some i =>
        rw [e3] at h
        refine ⟨fs, fd, i, e1, e2, Nat.eq_of_beq_eq_true h.1, e3, fun h0 => ?_⟩
        have h4 : (!(Nat.beq i.size 0)) = true := h.2
        rw [h0] at h4
        cases h4
    · cases h
  · cases h
theorem sliceT_of {t e sz bytes : Nat} (h : sliceTB P t e sz bytes = true) : SliceT P t e sz bytes := by
  rw [sliceTB, Bool.and_eq_true] at h
  obtain ⟨h1, h2⟩ := h
  have e1 : P.underlying t = some (.slice e) := by
    split at h1
    · rename_i e' he; rw [he, Nat.eq_of_beq_eq_true h1]
    · cases h1
  split at h2
  · rename_i i he
    simp only [Bool.and_eq_true] at h2
    obtain ⟨⟨⟨h3, h4⟩, h5⟩, h6⟩ := h2
    split at h6
    · rename_i z hz
      exact ⟨e1, i, z, he, Nat.eq_of_beq_eq_true h3, Nat.eq_of_beq_eq_true h4, hz, Nat.eq_of_beq_eq_true h6, by simpa [Nat.blt_eq] using h5⟩
    · cases h6
  · cases h2
theorem tyZero_of {T : TypeId} {z : Value} (h : (P.info? T).map (·.zero) = some (some z)) : TyZero P T z := by
  cases e : P.info? T with
  | none => rw [e] at h; cases h
  | some i => rw [e] at h; exact ⟨i, e, by simpa using h⟩

/-! ### A struct written out -/
def placesB (P : Program) (fs : List Field) : Option (List (Nat × Nat)) := match fs with
  | [] => some []
  | f :: r => match P.info? f.type, placesB P r with
    | some i, some l => some ((f.offset, i.size) :: l)
    | _, _ => none
def StructT (P : Program) (T : TypeId) (pl : List (Nat × Nat)) (zs : List Value) : Prop := TyZero P T (.agg zs.toArray) ∧ ∃ fs, P.underlying T = some (.struct fs) ∧ placesB P fs.toList = some pl
theorem structT_of {T : TypeId} {pl : List (Nat × Nat)} {zs : List Value} (hz : (P.info? T).map (·.zero) = some (some (.agg zs.toArray))) (h : (match P.underlying T with | some (.struct fs) => placesB P fs.toList | _ => none) = some pl) : StructT P T pl zs := by
  refine ⟨tyZero_of hz, ?_⟩
  split at h
  · rename_i fs e; exact ⟨fs, e, h⟩
  · cases h

theorem run_places (w : World) : ∀ (fs : List Field) (pl : List (Nat × Nat)), placesB P fs = some pl → (fs.mapM (fun f => do pure (f.offset, ← sizeOf f.type) : Field → Sem (Nat × Nat))).run P w = .ok pl w
  | [], pl, h => by
    obtain rfl : [] = pl := by simpa [placesB] using h
    rfl
  | f :: r, pl, h => by
    rw [placesB] at h
    split at h
    · rename_i i l e1 e2
      obtain rfl := Option.some.inj h
      have ih := run_places w r l e2
      rw [List.mapM_cons, Sem.run_bind]
      have h0 : ((do pure (f.offset, ← sizeOf f.type) : Sem (Nat × Nat))).run P w = .ok (f.offset, i.size) w := by
        rw [Sem.run_bind, run_sizeOf e1]; rfl
      rw [h0, Result.andThen_ok, Sem.run_bind, ih]
      rfl
    · cases h

/-- Instr.fill, on lists. -/
def fillL (place : Nat → Option (Nat × Nat)) (cells : List Value) : List (Nat × Value) → Option (List Value)
  | [] => some cells
  | (i, v) :: rest => match place i with
    | none => none
    | some (off, size) => bif Nat.beq v.cells.toList.length size && Nat.ble (off + v.cells.toList.length) cells.length then fillL place (setCells cells off v.cells.toList) rest else none

theorem foldl_set (off : Nat) : ∀ (us : List Value) (k : Nat) (cs : List Value), off + k + us.length ≤ cs.length → ((us.zipIdx k).foldl (fun (cs : Array Value) p => cs.setIfInBounds (off + p.2) p.1) cs.toArray) = (setCells cs (off + k) us).toArray
  | [], k, cs, h => by simp [setCells]
  | u :: us, k, cs, h => by
    have hk : off + k < cs.length := by simp at h; omega
    have ih := foldl_set off us (k + 1) (cs.set (off + k) u) (by simp at h ⊢; omega)
    rw [List.zipIdx_cons, List.foldl_cons]
    simp only [List.setIfInBounds_toArray]
    rw [ih]
    congr 1
    unfold setCells
    have e1 : (cs.set (off + k) u).take (off + (k + 1)) = cs.take (off + k) ++ [u] := by
      rw [← Nat.add_assoc, List.take_succ_eq_append_getElem (by simpa using hk)]
      rw [List.take_set_of_le (Nat.le_refl _)]
      simp
    have e2 : (cs.set (off + k) u).drop (off + (k + 1) + us.length) = cs.drop (off + k + (u :: us).length) := by
      rw [List.drop_set_of_lt (by omega)]
      congr 1
      simp; omega
    rw [e1, e2]
    simp
theorem fill_of {place : Nat → Option (Nat × Nat)} : ∀ (pv : List (Nat × Value)) (cells cs : List Value), fillL place cells pv = some cs → Instr.fill place cells.toArray pv = some cs.toArray
  | [], cells, cs, h => by
    obtain rfl := Option.some.inj h
    rfl
  | (i, v) :: rest, cells, cs, h => by
    unfold fillL at h
    unfold Instr.fill
    cases hp : place i with
    | none => rw [hp] at h; cases h
    | some q =>
      obtain ⟨off, size⟩ := q
      rw [hp] at h
      simp only at h ⊢
      cases hc : Nat.beq v.cells.toList.length size && Nat.ble (off + v.cells.toList.length) cells.length with
      | false => rw [hc] at h; cases h
      | true =>
        rw [hc] at h
        rw [Bool.and_eq_true] at hc
        have h1 : v.cells.size = size := by simpa using Nat.eq_of_beq_eq_true hc.1
        have h2 : off + v.cells.size ≤ cells.length := by simpa using Nat.le_of_ble_eq_true hc.2
        rw [if_neg (by simp; omega)]
        have e := foldl_set off v.cells.toList 0 cells (by simpa using h2)
        have e2 : (v.cells.zipIdx.foldl (fun cs (c, j) => cs.setIfInBounds (off + j) c) cells.toArray) = (setCells cells off v.cells.toList).toArray := by
          rw [← Array.foldl_toList, Array.toList_zipIdx]
          simpa using e
        rw [e2]
        exact fill_of rest _ cs h

variable {σ : Nat → Value} {ty : TypeId} {w : World}
theorem Ex.build {T : TypeId} {parts : Array (Nat × Operand)} {pl : List (Nat × Nat)} {zs : List Value} (hT : StructT P T pl zs) (pv : List (Nat × Value)) (cs : List Value) (hp : (parts.toList.map fun p => (p.1, ev σ p.2)) = pv) (hf : fillL (fun i => pl[i]?) zs pv = some cs) : Ex P σ (.build T parts) ty w (.agg cs.toArray) w := fun _ _ _ _ => by
  obtain ⟨hz, fs, h1, h2⟩ := hT
  have hp : (parts.map fun (i, x) => (i, ev σ x)).toList = pv := by rw [← hp]; simp
  have hf : Instr.fill (pl.toArray[·]?) zs.toArray pv = some cs.toArray := by
    have := fill_of pv zs cs hf
    simpa using this
  have e0 := run_zero hz w
  have e1 := run_places w fs.toList pl h2
  have e2 : (fs.mapM (fun f => do pure (f.offset, ← sizeOf f.type) : Field → Sem (Nat × Nat))).run P w = .ok pl.toArray w := by
    rw [Array.mapM_eq_mapM_toList]
    rw [show (List.toArray <$> (fs.toList.mapM (fun f => do pure (f.offset, ← sizeOf f.type) : Field → Sem (Nat × Nat)))) = ((fs.toList.mapM (fun f => do pure (f.offset, ← sizeOf f.type) : Field → Sem (Nat × Nat))) >>= fun l => pure l.toArray) from rfl, Sem.run_bind, e1]
    rfl
  have e : (Instr.build T (parts.map fun (i, x) => (i, ev σ x))).run P w = .ok (.agg cs.toArray) w := by
    simp only [Instr.build, Sem.run_bind, e0, Result.andThen_ok, run_underlying h1]
    rw [e2]
    simp only [Result.andThen_ok, hp, Value.cells]
    rw [hf]
    rfl
  simp only [execOp]
  simp [e]

theorem flat_get {l : List Value} : ∀ (n k : Nat), k < n * l.length → (List.replicate n l).flatten[k]? = l[k % l.length]?
  | 0, k, h => by simp at h
  | n + 1, k, h => by
    rw [List.replicate_succ, List.flatten_cons]
    by_cases hk : k < l.length
    · rw [List.getElem?_append_left hk, Nat.mod_eq_of_lt hk]
    · have h2 : k - l.length < n * l.length := by
        have : (n + 1) * l.length = n * l.length + l.length := by rw [Nat.add_mul, Nat.one_mul]
        omega
      rw [List.getElem?_append_right (by omega), flat_get n (k - l.length) h2, ← Nat.mod_eq_sub_mod (by omega)]

/-! ### A new row -/
theorem Mem.newRow {w0 : World} {H0 H : Hp} {L : List Ent} (hM : Mem w0 H0 w H L) {cells : Array Value} {T : TypeId} {sz n c : Nat} {cs : List Value} (hown : (w.alloc (.cells cells T)).ownsRow w.heap.size T sz (.slice (some ⟨w.heap.size, 0, none⟩) n c) n cs) : Mem w0 H0 (w.alloc (.cells cells T)) H (.row (.slice (some ⟨w.heap.size, 0, none⟩) n c) T sz n cs :: L) := by
  have h' := hM.alloc (.cells cells T)
  have hown' : (w.alloc (.cells cells T)).ownsRow w0.heap.size T sz (.slice (some ⟨w.heap.size, 0, none⟩) n c) n cs := by
    refine ⟨hown.1, ?_⟩
    rcases hown.2 with ⟨h, _⟩ | ⟨g, cap, cur, h1, h2, h3⟩
    · cases h
    · cases h1; exact .inr ⟨_, _, cur, rfl, hM.below.size, h3⟩
  refine ⟨h'.below, h'.old, h'.fresh, h'.agree, ?_, ?_, ?_⟩
  · intro E hE
    rcases List.mem_cons.1 hE with rfl | hE
    · exact hown'
    · exact h'.holds E hE
  · refine List.Pairwise.cons ?_ hM.apart
    intro E hE b e1 e2
    obtain rfl : w.heap.size = b := Option.some.inj e1
    have := (Ent.blk_lt (hM.holds E hE) e2).2
    omega
  · intro E hE b e
    rcases List.mem_cons.1 hE with rfl | hE
    · obtain rfl : w.heap.size = b := Option.some.inj e
      cases hx : H w.heap.size with
      | none => rfl
      | some o => have := lt_of_heap (hM.agree _ _ hx); omega
    · exact hM.hapart E hE b e
/-- A slice that is nil, as a row of the call's own. -/
theorem Mem.nilRow {w0 : World} {H0 H : Hp} {L : List Ent} (hM : Mem w0 H0 w H L) (T : TypeId) (sz : Nat) : Mem w0 H0 w H (.row (.slice none 0 0) T sz 0 [] :: L) := by
  refine ⟨hM.below, hM.old, hM.fresh, hM.agree, ?_, ?_, ?_⟩
  · intro E hE
    rcases List.mem_cons.1 hE with rfl | hE
    · exact World.ownsRow_nil w _ T sz
    · exact hM.holds E hE
  · exact List.Pairwise.cons (fun E _ b e1 _ => by cases e1) hM.apart
  · intro E hE b e
    rcases List.mem_cons.1 hE with rfl | hE
    · cases e
    · exact hM.hapart E hE b e

section
variable {r : Option Nat} {md : Nat} {N : Nat} {Q : Exit → List Deferred → (Nat → Value) → World → Prop} {D : List Deferred} {w0 : World} {H0 H : Hp} {L : List Ent}
variable {ops : Array Oper} {l : List Oper} {d : Option Tmp} {pos : String} {af : Array Edge} {gd : Option (Nat × Bool)}
theorem RW.buildSlice {t e sz bytes len : Nat} {parts : Array (Nat × Operand)} {z : Value} (hM : Mem w0 H0 w H L) (ht : SliceT P t e sz bytes) (hz : TyZero P e z) (pv : List (Nat × Value)) (cs : List Value) (hs : len * sz ≤ 16777216) (hp : (parts.toList.map fun p => (p.1, ev σ p.2)) = pv)
    (hf : fillL (fun i => some (i * sz, sz)) (List.replicate len z.cells.toList).flatten pv = some cs) (hn : cs.length = len * sz) (hlen : len ≤ maxLen) (hg : gdOk ops σ gd = true) (hd : dstOk d N = true)
    (K : ∀ b w', Mem w0 H0 w' H (.row (.slice (some ⟨b, 0, none⟩) len len) e sz len cs :: L) → RW r md P N ops l Q D (upd σ d (.slice (some ⟨b, 0, none⟩) len len)) w') : RW r md P N ops (⟨d, .buildSlice t len parts, ty, pos, af, gd⟩ :: l) Q D σ w := by
  obtain ⟨h1, i, z', h2, h3, h4, h5, h6, h7⟩ := ht
  subst h3
  have hp : (parts.map fun (i, x) => (i, ev σ x)).toList = pv := by rw [← hp]; simp
  have hzz : z = z' := by
    obtain ⟨i2, h8, h9⟩ := hz
    rw [h2] at h8
    obtain rfl := Option.some.inj h8
    rw [h5] at h9
    exact (Option.some.inj h9).symm
  subst hzz
  have hf := fill_of pv _ cs hf
  have hbase : (List.replicate len z.cells.toList).flatten.toArray = (Array.range (len * i.size)).map ((if len * i.size = 0 then #[] else z.cells)[· % (if len * i.size = 0 then #[] else z.cells).size]!) := by
    by_cases h0 : len * i.size = 0
    · have : len = 0 := by rcases Nat.mul_eq_zero.1 h0 with h | h; · exact h
                           · omega
      subst this
      simp
    · simp only [h0, if_false]
      apply Array.ext'
      simp only [Array.toList_map, Array.toList_range]
      apply List.ext_getElem?
      intro k
      by_cases hk : k < len * i.size
      · have hmod : k % z.cells.size < z.cells.size := Nat.mod_lt _ (by omega)
        rw [List.getElem?_map, List.getElem?_range hk]
        simp only [Option.map_some]
        rw [getElem!_pos z.cells _ hmod]
        have := flat_get (l := z.cells.toList) len k (by simpa [h6] using hk)
        rw [this]
        simp [h6]
      · rw [List.getElem?_eq_none (by simp [h6]; omega), List.getElem?_eq_none (by simp; omega)]
  rw [hbase] at hf
  have e0 := run_zero hz w
  have er : (Instr.buildSlice t len (parts.map fun (i, x) => (i, ev σ x))).run P w = .ok (.slice (some ⟨w.heap.size, 0, none⟩) len len) (w.alloc (.cells cs.toArray e)) := by
    simp only [Instr.buildSlice, Sem.run_bind, run_underlying h1, Result.andThen_ok, run_sizeOf h2]
    rw [if_neg (by omega)]
    by_cases h0 : len * i.size = 0
    · simp only [h0, if_true] at hf ⊢
      simp only [Sem.run_pure, Result.andThen_ok, Sem.run_bind, hp]
      rw [hf]
      simp [newRow]
    · simp only [h0, if_false] at hf ⊢
      simp only [Sem.run_pure, Result.andThen_ok, Sem.run_bind, hp, e0]
      rw [hf]
      simp [newRow]
  refine RW.step (v := .slice (some ⟨w.heap.size, 0, none⟩) len len) (w' := w.alloc (.cells cs.toArray e)) (fun _ _ _ _ => ?_) rfl hg hd (K _ _ (hM.newRow ⟨hn, .inr ⟨_, len, cs.toArray, rfl, Nat.le_refl _, heap_alloc_new w _, Nat.le_refl _, hlen, by simpa using hn, ?_⟩⟩))
  · simp only [execOp]
    simp [er]
  · rw [List.take_of_length_le (by simp [hn])]
/-- make of a slice, its length its capacity. -/
theorem RW.make {t e sz bytes : Nat} {x y : Operand} {k k' : IntKind} {z : Value} {n : Int} (hM : Mem w0 H0 w H L) (ht : SliceT P t e sz bytes) (hz : TyZero P e z) (m : Nat) (hx : ev σ x = .int k n) (hy : ev σ y = .int k' n) (hn : n = (m : Int)) (hb : bytes * m ≤ 281474976710656) (h63 : m ≤ maxLen) (hg : gdOk ops σ gd = true) (hd : dstOk d N = true)
    (K : ∀ b w', Mem w0 H0 w' H (.row (.slice (some ⟨b, 0, none⟩) m m) e sz m (madeCells z.cells (m * sz)).toList :: L) → RW r md P N ops l Q D (upd σ d (.slice (some ⟨b, 0, none⟩) m m)) w') : RW r md P N ops (⟨d, .makeSlice t x y, ty, pos, af, gd⟩ :: l) Q D σ w := by
  subst hn
  obtain ⟨h1, i, z', h2, h3, h4, h5, h6, h7⟩ := ht
  subst h3
  subst h4
  obtain ⟨i2, h8, h9⟩ := hz
  rw [h2] at h8
  obtain rfl := Option.some.inj h8
  have h63' : (m : Int) ≤ 9223372036854775807 := by
    have h := h63
    simp only [maxLen] at h
    omega
  have hb' : (i.bytes : Int) * (m : Int) ≤ 281474976710656 := by
    have h : ((i.bytes * m : Nat) : Int) ≤ 281474976710656 := by omega
    rwa [Int.natCast_mul] at h
  have hr := run_make (P := P) w t e i z h1 h2 h9 k k' m m (by omega) (Int.le_refl _) hb' h63'
  simp only [Int.toNat_natCast] at hr
  refine RW.step (fun _ _ _ _ => ?_) rfl hg hd (K _ _ (hM.newRow (World.ownsRow_lit w _ m (Nat.le_refl _) h63 (size_madeCells _ _))))
  simp only [execOp, hx, hy]
  simp [hr]
end
end
end Go.Proofs.YtackllehpecfgaaDoor
