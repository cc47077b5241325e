/- Calls and what they owe; stores; append; a function's entry and its results. -/
import Derived.Test.YtackllehpecfgaaDoorRules
import Derived.Maps.AppendAt
namespace Go.Proofs.YtackllehpecfgaaDoor
open Go.RowKit

/-! ### What a function of values owes -/
/-- Called in whatever world agrees with H, the function returns; what it returns is as Φ says, in a heap that has grown; nothing that was there has turned. -/
def Ret (P : Program) (f : FuncId) (args : Array Value) (H : Hp) (Φ : Hp → Value → Prop) : Prop :=
  ∀ w, (∀ b o, H b = some o → w.heap[b]? = some o) → Calls P f args w fun e w' => ∃ v H', e = .returned v ∧ H.le H' ∧ (∀ b o, H' b = some o → w'.heap[b]? = some o) ∧ (∀ b, H' b ≠ none → H b ≠ none ∨ w.heap.size ≤ b) ∧ Below w.heap.size w w' ∧ Φ H' v

def RetV (P : Program) (f : FuncId) (args : Array Value) (H : Hp) (v : Value) : Prop := Ret P f args H fun _ u => u = v

theorem Ret.mono {P : Program} {f : FuncId} {args : Array Value} {H : Hp} {Φ Ψ : Hp → Value → Prop} (h : Ret P f args H Φ) (hm : ∀ H' v, H.le H' → Φ H' v → Ψ H' v) : Ret P f args H Ψ := fun w hw =>
  (h w hw).mono fun _ _ ⟨v, H', h1, h2, h3, h4, h5, h6⟩ => ⟨v, H', h1, h2, h3, h4, h5, hm _ _ h2 h6⟩

theorem Ret.lower {P : Program} {f : FuncId} {args : Array Value} {H H1 : Hp} {v : Value} (h : RetV P f args H v) (hle : H.le H1) : RetV P f args H1 v := fun w hw =>
  (h w fun b o e => hw b o (hle b o e)).mono fun _ _ ⟨u, _, h1, _, _, _, h5, h6⟩ =>
    ⟨u, H1, h1, Hp.le.refl _, fun b o e => (h5.block b (lt_of_heap (hw b o e))).trans (hw b o e), fun _ hb => .inl hb, h5, h6⟩

section
variable {r : Option Nat} {md : Nat} {P : Program} {N : Nat} {Q : Exit → List Deferred → (Nat → Value) → World → Prop} {D : List Deferred} {σ : Nat → Value} {w w0 : World} {H0 H : Hp} {L : List Ent}
variable {ops : Array Oper} {l : List Oper} {d : Option Tmp} {ty : TypeId} {pos : String} {af : Array Edge} {gd : Option (Nat × Bool)}

theorem RW.enter {g : Operand} {xs : Array Operand} {ts : Array TypeId} {f : FuncId} {lb : Array Value} {args : List Value} {R : Value → World → Prop} (he : Enters P f) (hf : ev σ g = .func (.func f) #[] lb) (ha : xs.toList.map (ev σ) ++ lb.toList = args)
    (hg : gdOk ops σ gd = true) (hd : dstOk d N = true) (hc : Calls P f args.toArray w fun e w' => ∃ v, e = .returned v ∧ R v w') (K : ∀ v w', R v w' → RW r md P N ops l Q D (upd σ d v) w') :
    RW r md P N ops (⟨d, .call { callee := .value g, args := xs, argTypes := ts }, ty, pos, af, gd⟩ :: l) Q D σ w := by
  intro a hra
  have hw := wanted_of (ops := ops) hra (o := ⟨d, .call { callee := .value g, args := xs, argTypes := ts }, ty, pos, af, gd⟩)
  unfold wpListIn
  rw [hw, if_pos hg]
  refine ⟨fun f _ => trivial, ?_⟩
  have hs : Oper.semAt (FR r).round a.eval ⟨d, .call { callee := .value g, args := xs, argTypes := ts }, ty, pos, af, gd⟩ = execOp a.eval ⟨d, .call { callee := .value g, args := xs, argTypes := ts }, ty, pos, af, gd⟩ := Oper.semAt_eq _ _ _ (by intro c hc; cases hc)
  have hrun : (execOp (ev σ) ⟨d, .call { callee := .value g, args := xs, argTypes := ts }, ty, pos, af, gd⟩).run P w = .ok (.enter f args.toArray) w := by
    have h1 := he args.toArray w
    have ha : xs.map (ev σ) ++ lb = args.toArray := by
      apply Array.ext'
      simp [← ha]
    simp only [execOp, resolve, hf, Deferred.ofValue]
    simp [invoke, ha, h1]
  rw [hs, hra.eval, hrun, Oper.uponIn_enter]
  refine ⟨fun h => by simp [FR, Fence.wide] at h, ?_⟩
  refine (FR_callsIn hc).mono ?_
  rintro e w' ⟨v, rfl, hR⟩
  exact K v w' hR _ (hra.put hd v)

/-- A call of a function of values. -/
theorem RW.call {g : Operand} {xs : Array Operand} {ts : Array TypeId} {f : FuncId} {lb : Array Value} {args : List Value} {Φ : Hp → Value → Prop} (hM : Mem w0 H0 w H L) (hr : Ret P f args.toArray H Φ) (he : Enters P f) (hf : ev σ g = .func (.func f) #[] lb) (ha : xs.toList.map (ev σ) ++ lb.toList = args)
    (hg : gdOk ops σ gd = true) (hd : dstOk d N = true) (K : ∀ v w' H', H.le H' → Φ H' v → Mem w0 H0 w' H' L → RW r md P N ops l Q D (upd σ d v) w') :
    RW r md P N ops (⟨d, .call { callee := .value g, args := xs, argTypes := ts }, ty, pos, af, gd⟩ :: l) Q D σ w :=
  RW.enter he hf ha hg hd ((hr w hM.agree).mono fun _ w' ⟨v, H', h1, h⟩ => ⟨v, h1, (show ∃ H', H.le H' ∧ Φ H' v ∧ Mem w0 H0 w' H' L from ⟨H', h.1, h.2.2.2.2, hM.call h.1 h.2.1 h.2.2.1 h.2.2.2.1⟩)⟩) fun v w' ⟨H', h1, h2, h3⟩ => K v w' H' h1 h2 h3

/-- A call that hands back a value that is known. -/
theorem RW.callV {g : Operand} {xs : Array Operand} {ts : Array TypeId} {f : FuncId} {lb : Array Value} {args : List Value} {v : Value} (hM : Mem w0 H0 w H L) (hr : RetV P f args.toArray H v) (he : Enters P f) (hf : ev σ g = .func (.func f) #[] lb) (ha : xs.toList.map (ev σ) ++ lb.toList = args)
    (hg : gdOk ops σ gd = true) (hd : dstOk d N = true) (K : ∀ w', Mem w0 H0 w' H L → RW r md P N ops l Q D (upd σ d v) w') :
    RW r md P N ops (⟨d, .call { callee := .value g, args := xs, argTypes := ts }, ty, pos, af, gd⟩ :: l) Q D σ w :=
  RW.call hM hr he hf ha hg hd fun u w' H' hle hu hM' => by subst hu; exact K w' (hM'.lower hM.old hle)

/-! ### New boxes -/
theorem RW.box {x : Operand} {T : TypeId} (hM : Mem w0 H0 w H L) (v : Value) (cs : List Value) (hx : ev σ x = v) (hc : v.cells = cs.toArray) (hg : gdOk ops σ gd = true) (hd : dstOk d N = true)
    (K : ∀ b w', Mem w0 H0 w' H (.box b T cs :: L) → RW r md P N ops l Q D (upd σ d (.pointer (some ⟨b, 0, none⟩))) w') : RW r md P N ops (⟨d, .box T x, ty, pos, af, gd⟩ :: l) Q D σ w :=
  RW.step (Ex.box v hx) rfl hg hd (K _ _ (by rw [hc]; exact hM.box cs T))
theorem RW.alloc {T : TypeId} {z : Value} (hM : Mem w0 H0 w H L) (hz : TyZero P T z) (cs : List Value) (hc : z.cells = cs.toArray) (hg : gdOk ops σ gd = true) (hd : dstOk d N = true)
    (K : ∀ b w', Mem w0 H0 w' H (.box b T cs :: L) → RW r md P N ops l Q D (upd σ d (.pointer (some ⟨b, 0, none⟩))) w') : RW r md P N ops (⟨d, .alloc T, ty, pos, af, gd⟩ :: l) Q D σ w :=
  RW.step (Ex.alloc hz) rfl hg hd (K _ _ (by rw [hc]; exact hM.box cs T))

/-! ### Stores -/
def AllOne : List Value → Prop
  | [] => True
  | u :: r => u.oneCell' = true ∧ AllOne r
theorem oneAll : ∀ {l : List Value}, AllOne l → ∀ u ∈ l, u.oneCell' = true
  | [], _, u, h => by simp at h
  | _ :: _, h, u, hu => by
    rcases List.mem_cons.1 hu with rfl | hu
    · exact h.1
    · exact oneAll h.2 u hu
theorem run_store_cells {T : TypeId} {i : TypeInfo} (hi : P.info? T = some i) {g o : Nat} {t : TypeId} {cur : Array Value} (hg : w.heap[g]? = some (.cells cur t (0, 0))) {v : Value} (us : List Value) (hv : v.cells = us.toArray) (hn : us.length = i.size) (ho : o + us.length ≤ cur.size) (h1 : ∀ u ∈ us, u.oneCell' = true) :
    (Instr.storeAt T (.pointer (some ⟨g, o, none⟩)) v).run P w = .ok () (w.setRow g (cur.toList.take o ++ us ++ cur.toList.drop (o + us.length)).toArray) := by
  have e := run_storeCells_at (P := P) g o t us 0 cur w hg (by omega) h1
  simp only [Nat.add_zero] at e
  have hsz : us.length = i.size := hn
  simp [Instr.storeAt, Instr.sureAddr, storeVar, hv, run_sizeOf hi, hsz, e]

theorem setRow_grown (w : World) (g : Nat) (cs : Array Value) (_ : g < w.heap.size) : w.grownBy (w.setRow g cs) (some g) := by
  refine ⟨rfl, rfl, rfl, by simp [World.setRow], fun k _ hne => ?_⟩
  simp only [World.setRow]
  rw [Array.getElem?_modify, if_neg (by intro e; exact hne (by rw [e]))]

def setCells (cs : List Value) (o : Nat) (us : List Value) : List Value := cs.take o ++ us ++ cs.drop (o + us.length)

theorem RW.store {x y : Operand} {T T' : TypeId} {b o : Nat} {cs : List Value} (hM : Mem w0 H0 w H L) (k : Nat) (v : Value) (us cs' : List Value) (ht : ∃ i, P.info? T = some i ∧ i.size = us.length) (hx : ev σ x = .pointer (some ⟨b, o, none⟩)) (hy : ev σ y = v) (hv : v.cells = us.toArray) (h1 : ∀ u ∈ us, u.oneCell' = true)
    (hk : L[k]? = some (.box b T' cs)) (ho : o + us.length ≤ cs.length) (hcs : setCells cs o us = cs') (L' : List Ent) (hL : L.set k (.box b T' cs') = L') (hg : gdOk ops σ gd = true) (hd : dstOk d N = true)
    (K : ∀ w', Mem w0 H0 w' H L' → RW r md P N ops l Q D (upd σ d undef) w') : RW r md P N ops (⟨d, .store T x y, ty, pos, af, gd⟩ :: l) Q D σ w := by
  obtain ⟨i, hi, hsz⟩ := ht
  have hh : Ent.holds w0.heap.size w (.box b T' cs) := hM.holds _ (List.mem_of_getElem? hk)
  obtain ⟨hb1, hb2⟩ := hh
  have e := run_store_cells (P := P) (w := w) hi hb2 us hv hsz.symm (by simpa using ho) h1
  refine RW.step0 (w' := w.setRow b cs'.toArray) (fun _ _ _ _ => ?_) rfl hg hd (K _ ?_)
  · simp only [execOp, hx, hy]
    simp only at e
    simp [e, ← hcs, setCells]
  · rw [← hL]
    refine hM.turn k hk (setRow_grown w b _ (lt_of_heap hb2)) ⟨hb1, ?_⟩ (.inl rfl)
    exact setRow_heap w b cs.toArray cs'.toArray T' (0, 0) hb2

/-- A store into a row of the call's own. -/
theorem RW.storeR {x y : Operand} {T T' : TypeId} {A : Option Addr} {n c sz : Nat} {cs : List Value} (hM : Mem w0 H0 w H L) (p : Nat) (k : Nat) (v : Value) (us cs' : List Value) (ht : ∃ i, P.info? T = some i ∧ i.size = us.length) (hx : ev σ x = elp A k) (hA : A ≠ none) (hy : ev σ y = v) (hv : v.cells = us.toArray) (h1 : ∀ u ∈ us, u.oneCell' = true)
    (hk : L[p]? = some (.row (.slice A n c) T' sz n cs)) (ho : k + us.length ≤ cs.length) (hcs : setCells cs k us = cs') (L' : List Ent) (hL : L.set p (.row (.slice A n c) T' sz n cs') = L') (hg : gdOk ops σ gd = true) (hd : dstOk d N = true)
    (K : ∀ w', Mem w0 H0 w' H L' → RW r md P N ops l Q D (upd σ d undef) w') : RW r md P N ops (⟨d, .store T x y, ty, pos, af, gd⟩ :: l) Q D σ w := by
  obtain ⟨i, hi, hsz⟩ := ht
  have hh : w.ownsRow w0.heap.size T' sz (.slice A n c) n cs := hM.holds _ (List.mem_of_getElem? hk)
  obtain ⟨hl, hh2⟩ := hh
  rcases hh2 with ⟨h2, _⟩ | ⟨g, cap, cur, hv2, hg2, hb2, hn, hm, hs, ht2⟩
  · cases h2; exact absurd rfl hA
  cases hv2
  have hcl : cs.length ≤ cur.size := by rw [← ht2, List.length_take]; simp; omega
  have e := run_store_cells (P := P) (w := w) hi hb2 (o := k) us hv hsz.symm (by omega) h1
  have hx' : ev σ x = .pointer (some ⟨g, k, none⟩) := by rw [hx]; simp [elp, add_none]
  refine RW.step0 (w' := w.setRow g (cur.toList.take k ++ us ++ cur.toList.drop (k + us.length)).toArray) (fun _ _ _ _ => ?_) rfl hg hd (K _ ?_)
  · simp only [execOp, hx', hy]
    simp [e]
  · rw [← hL]
    refine hM.turn p hk (setRow_grown w g _ (lt_of_heap hb2)) ?_ (.inl rfl)
    have hcl' : cs'.length = cs.length := by
      rw [← hcs]; simp [setCells]; omega
    refine ⟨by rw [hcl', hl], .inr ⟨g, c, _, rfl, hg2, setRow_heap w g cur _ T' (0, 0) hb2, hn, hm, ?_, ?_⟩⟩
    · simp; omega
    · rw [← hcs, ← ht2]
      have hk2 : k + us.length ≤ n * sz := by rw [← hl]; exact ho
      simp only [setCells, List.take_take, List.drop_take]
      rw [List.take_append, List.take_append]
      have e1 : (List.take k cur.toList).length = k := by rw [List.length_take]; simp; omega
      rw [List.take_take, Nat.min_eq_right (show k ≤ n * sz by omega)]
      simp only [List.length_append, e1]
      rw [List.take_of_length_le (show us.length ≤ n * sz - k by omega)]
      congr 1
      rw [Nat.min_eq_left (show k ≤ n * sz by omega)]

/-! ### append -/
theorem own_slice {w : World} {base : Nat} {e : TypeId} {sz n : Nat} {v : Value} {xs : List Value} (h : w.ownsRow base e sz v n xs) : ∃ A c, v = .slice A n c := by
  rcases h.2 with ⟨h1, h2⟩ | ⟨g, cap, cur, h1, _⟩
  · subst h2; exact ⟨none, 0, h1⟩
  · exact ⟨_, _, h1⟩

theorem Ex.bi2 {b : Builtin} {x y : Operand} {ts : Array TypeId} {v : Value} {w' : World} (h : ∀ cb, (builtin b ts ty cb #[ev σ x, ev σ y]).run P w = .ok (.value v) w') : Ex P σ (.call { callee := .builtin b, args := #[x, y], argTypes := ts }) ty w v w' := fun _ _ _ _ => by
  simp only [execOp, resolve]
  simp [invoke, h]

/-- append onto a row of the call's own, of cells that lie somewhere. -/
theorem RW.append {x y : Operand} {t e sz bytes : Nat} {n m : Nat} {A : Option Addr} {c c2 : Nat} {cs : List Value} {a : Addr} (hM : Mem w0 H0 w H L) (p : Nat) (ht : SliceT P t e sz bytes) (hx : ev σ x = .slice A n c) (hk : L[p]? = some (.row (.slice A n c) e sz n cs))
    (hy : ev σ y = .slice (some a) m c2) (news : List Value) (hl : news.length = m * sz) (hnews : ∀ j u, news[j]? = some u → w.cell? (a.add j) = some u) (h1 : ∀ u ∈ news, u.oneCell' = true) (hbytes : (n + m) * bytes ≤ 140737488355328) (h63 : n + m ≤ maxLen)
    (hg : gdOk ops σ gd = true) (hd : dstOk d N = true)
    (K : ∀ A' c' w', Mem w0 H0 w' H (L.set p (.row (.slice A' (n + m) c') e sz (n + m) (cs ++ news))) → RW r md P N ops l Q D (upd σ d (.slice A' (n + m) c')) w') :
    RW r md P N ops (⟨d, .call { callee := .builtin .append, args := #[x, y], argTypes := #[t, t] }, ty, pos, af, gd⟩ :: l) Q D σ w := by
  obtain ⟨ht1, i, z, hi, hs, hb, hz, hzs, hsz⟩ := ht
  have hown : w.ownsRow w0.heap.size e sz (.slice A n c) n cs := hM.holds _ (List.mem_of_getElem? hk)
  obtain ⟨v', w', hrun, h2, h3, _, h5⟩ := run_append_own_at (P := P) w w0.heap.size t ty e i z sz bytes ht1 hi hz hs hb hzs hsz (.slice A n c) n cs hown a m c2 news hl hnews h1 h63 hbytes hM.below.size
  obtain ⟨A', c', rfl⟩ := own_slice h2
  refine RW.step (v := .slice A' (n + m) c') (w' := w') (Ex.bi2 fun cb => ?_) rfl hg hd (K A' c' w' ?_)
  · rw [hx, hy]
    simp [builtin, hrun]
  · refine hM.turn p hk h3 h2 ?_
    rcases h5 with h | h
    · exact .inl h
    · exact .inr fun b hb2 => by
        have : (Value.slice A' (n + m) c').ownBlock = some b := hb2
        rw [h] at this; cases this; exact Nat.le_refl _

/-- append of data that nobody writes any more. -/
theorem RW.appendRd {H1 : Hp} {x y : Operand} {t e sz bytes : Nat} {n m : Nat} {A A2 : Option Addr} {c c2 : Nat} {cs news : List Value} (hM : Mem w0 H0 w H L) (p : Nat) (ht : SliceT P t e sz bytes) (hx : ev σ x = .slice A n c) (hk : L[p]? = some (.row (.slice A n c) e sz n cs))
    (hy : ev σ y = .slice A2 m c2) (hle : H1.le H) (hr : RdC H1 A2 m c2 sz news) (h1 : ∀ u ∈ news, u.oneCell' = true) (hbytes : (n + m) * bytes ≤ 140737488355328) (h63 : n + m ≤ maxLen)
    (hg : gdOk ops σ gd = true) (hd : dstOk d N = true)
    (K : ∀ A' c' w', Mem w0 H0 w' H (L.set p (.row (.slice A' (n + m) c') e sz (n + m) (cs ++ news))) → RW r md P N ops l Q D (upd σ d (.slice A' (n + m) c')) w') :
    RW r md P N ops (⟨d, .call { callee := .builtin .append, args := #[x, y], argTypes := #[t, t] }, ty, pos, af, gd⟩ :: l) Q D σ w := by
  cases A2 with
  | some a => exact RW.append hM p ht hx hk hy news hr.1 (fun j u hj => (hr.mono hle).cell hM.agree rfl hj) h1 hbytes h63 hg hd K
  | none =>
    have hc2 : c2 = 0 := hr.2.2.2.1 rfl
    have hm : m = 0 := by have := hr.2.1; omega
    subst hm
    subst hc2
    have hn : news = [] := List.eq_nil_of_length_eq_zero (by simpa using hr.1)
    subst hn
    obtain ⟨ht1, i, z, hi, hs, hb, hz, hzs, hsz⟩ := ht
    have hown : w.ownsRow w0.heap.size e sz (.slice A n c) n cs := hM.holds _ (List.mem_of_getElem? hk)
    have hrun := run_append_owned_none (P := P) w w0.heap.size t ty e i sz ht1 hi (.slice A n c) n cs hown
    have hM' : Mem w0 H0 w H (L.set p (.row (.slice A (n + 0) c) e sz (n + 0) (cs ++ []))) := by
      have : L.set p (.row (.slice A (n + 0) c) e sz (n + 0) (cs ++ [])) = L := by
        apply List.ext_getElem?
        intro j
        rw [List.getElem?_set]
        split
        · rename_i h; subst h; rw [hk]; simp
          exact (List.getElem?_eq_some_iff.1 hk).1
        · rfl
      rw [this]; exact hM
    refine RW.step (v := .slice A n c) (w' := w) (Ex.bi2 fun cb => ?_) rfl hg hd (K A c w hM')
    rw [hx, hy]
    simp [builtin, hrun]

/-! ### A function's entry and its end -/
def enumA (k : Nat) : List Value → List (Nat × Value)
  | [] => []
  | v :: r => (k, v) :: enumA (k + 1) r

theorem sl_enum (l : List Value) : ∀ (k t : Nat), sl (enumA k l) (fun _ => undef) t = if k ≤ t then l.getD (t - k) undef else undef := by
  induction l with
  | nil => intro k t; simp [enumA, sl]
  | cons v r ih =>
    intro k t
    show (bif Nat.beq t k then v else sl (enumA (k + 1) r) (fun _ => undef) t) = _
    cases hb : Nat.beq t k with
    | true =>
      have := Nat.eq_of_beq_eq_true hb
      subst this
      simp
    | false =>
      have hne : t ≠ k := by rintro rfl; simp [Nat.beq_refl] at hb
      rw [cond_false, ih (k + 1) t]
      by_cases h : k + 1 ≤ t
      · rw [if_pos h, if_pos (by omega), show t - k = (t - (k + 1)) + 1 from by omega]; simp
      · rw [if_neg h, if_neg (by omega)]

theorem rep_start (args : Array Value) (N : Nat) (hN : args.size ≤ N) : Rep N [] (sl (enumA 0 args.toList) fun _ => undef) { tmps := args ++ Array.replicate (N - args.size) undef, defers := [] } := by
  refine ⟨rfl, by simp; omega, fun t => ?_⟩
  rw [sl_enum, if_pos (Nat.zero_le _)]
  simp only [Array.getD_eq_getD_getElem?, Array.getElem?_append, List.getD, Nat.sub_zero, Array.getElem?_toList]
  by_cases h : t < args.size
  · simp [h]
  · rw [if_neg h, Array.getElem?_eq_none (Nat.le_of_not_lt h)]
    by_cases h2 : t - args.size < N - args.size <;> simp [h2]

/-- What a function's end must bring: its results. -/
def endQ (P : Program) (fn : Func) (R : Value → World → Prop) (e : Exit) (D : List Deferred) (σ : Nat → Value) (w : World) : Prop :=
  (e = .ret ∨ e = .normal) ∧ D = [] ∧ ∃ v, (∀ a, Rep fn.ntmps D σ a → (results fn a.tmps).run P w = .ok v w) ∧ R v w

theorem calls_of_code {f : FuncId} {fn : Func} {c : Code} {args : Array Value} {R : Value → World → Prop} (hf : P.funcs[f]? = some fn) (hb : fn.body = some c) (hN : args.size ≤ fn.ntmps)
    (h : CW none 0 P fn.ntmps c (endQ P fn R) [] (sl (enumA 0 args.toList) fun _ => undef) w) : Calls P f args w fun e w' => ∃ v, e = .returned v ∧ R v w' := by
  refine callsIn_wide (n := 0).1 (callsIn_of_wp (F := Fence.wide) hf hb trivial (wpIn_mono (h _ (rep_start args fn.ntmps hN)) ?_))
  rintro e a' w' ⟨D', σ', h1, he, h2, v, h3, h4⟩
  subst h2
  rcases he with rfl | rfl
  · exact ⟨h1.1, v, h3 a' h1, v, rfl, h4⟩
  · exact ⟨h1.1, v, h3 a' h1, v, rfl, h4⟩

/-- A function of values, out of the walk of its body. -/
theorem Ret.of_code {f : FuncId} {fn : Func} {c : Code} {args : Array Value} {H : Hp} {Φ : Hp → Value → Prop} (hf : P.funcs[f]? = some fn) (hb : fn.body = some c) (hN : args.size ≤ fn.ntmps)
    (h : ∀ w, Mem w H w H [] → CW none 0 P fn.ntmps c (endQ P fn fun v w' => ∃ H' L', Mem w H w' H' L' ∧ Φ H' v) [] (sl (enumA 0 args.toList) fun _ => undef) w) : Ret P f args H Φ := fun w hw =>
  (calls_of_code hf hb hN (h w (Mem.start hw))).mono fun _ _ ⟨v, h1, H', _, hM, hΦ⟩ => ⟨v, H', h1, hM.old, hM.agree, hM.fresh, hM.below, hΦ⟩

theorem end_tmp {fn : Func} {R : Value → World → Prop} {e : Exit} (he : e = .ret ∨ e = .normal) {t : Nat} (hr : fn.results = #[.tmp t]) (v : Value) (hv : σ t = v) (hR : R v w) : endQ P fn R e [] σ w :=
  ⟨he, rfl, v, fun a ha => by rw [results_tmp hr, ha.2.2, hv], hR⟩
theorem end_tmp2 {fn : Func} {R : Value → World → Prop} {e : Exit} (he : e = .ret ∨ e = .normal) {t u : Nat} (hr : fn.results = #[.tmp t, .tmp u]) (v v2 : Value) (hv : σ t = v) (hv2 : σ u = v2) (hR : R (.tuple #[v, v2]) w) : endQ P fn R e [] σ w :=
  ⟨he, rfl, _, fun a ha => by rw [results_tmp2 hr, ha.2.2, ha.2.2, hv, hv2], hR⟩
theorem end_none {fn : Func} {R : Value → World → Prop} {e : Exit} (he : e = .ret ∨ e = .normal) (hr : fn.results = #[]) (hR : R (.tuple #[]) w) : endQ P fn R e [] σ w :=
  ⟨he, rfl, _, fun a _ => by rw [results_none hr], hR⟩
/-- One result that lies in a box. -/
theorem end_cell {fn : Func} {R : Value → World → Prop} {e : Exit} (he : e = .ret ∨ e = .normal) {t : Nat} {T T' : TypeId} {b n k : Nat} (hr : fn.results = #[.cell t T]) (hM : Mem w0 H0 w H L) (hv : σ t = .pointer (some ⟨b, 0, none⟩)) (ht : TyAgg P T n) (cs : List Value) (hk : L[k]? = some (.box b T' cs)) (hn : cs.length = n) (hR : R (.agg cs.toArray) w) : endQ P fn R e [] σ w :=
  ⟨he, rfl, _, fun a ha => by
    have h1 := ha.2.2 t
    rw [hv, Array.getD_eq_getD_getElem?] at h1
    have e := run_load_agg (P := P) (w := w) (a := ⟨b, 0, none⟩) ht hn fun j u hj => by
      rw [add_none, Nat.zero_add]; exact hM.boxCell hk hj
    have e2 : (loadVar T ⟨b, 0, none⟩).run P w = .ok (.agg cs.toArray) w := by simpa [Instr.loadAt, Instr.sureAddr] using e
    simp [results, hr, h1, asAddr, e2], hR⟩
theorem end_cell1 {fn : Func} {R : Value → World → Prop} {e : Exit} (he : e = .ret ∨ e = .normal) {t : Nat} {T T' : TypeId} {b k : Nat} {cs : List Value} (hr : fn.results = #[.cell t T]) (hM : Mem w0 H0 w H L) (hv : σ t = .pointer (some ⟨b, 0, none⟩)) (ht : TyOne P T) (u : Value) (hk : L[k]? = some (.box b T' cs)) (hc : cs[0]? = some u) (hR : R u w) : endQ P fn R e [] σ w :=
  ⟨he, rfl, _, fun a ha => by
    have h1 := ha.2.2 t
    rw [hv, Array.getD_eq_getD_getElem?] at h1
    have e := run_load_one (P := P) (w := w) (a := ⟨b, 0, none⟩) ht (hM.boxCell hk hc)
    have e2 : (loadVar T ⟨b, 0, none⟩).run P w = .ok u w := by simpa [Instr.loadAt, Instr.sureAddr] using e
    simp [results, hr, h1, asAddr, e2], hR⟩
/-- Two results, the first in a box. -/
theorem end_cell_tmp {fn : Func} {R : Value → World → Prop} {e : Exit} (he : e = .ret ∨ e = .normal) {t u : Nat} {T T' : TypeId} {b n k : Nat} (hr : fn.results = #[.cell t T, .tmp u]) (hM : Mem w0 H0 w H L) (hv : σ t = .pointer (some ⟨b, 0, none⟩)) (v2 : Value) (hv2 : σ u = v2) (ht : TyAgg P T n) (cs : List Value) (hk : L[k]? = some (.box b T' cs)) (hn : cs.length = n) (hR : R (.tuple #[.agg cs.toArray, v2]) w) : endQ P fn R e [] σ w :=
  ⟨he, rfl, _, fun a ha => by
    have h1 := ha.2.2 t
    have h2 := ha.2.2 u
    rw [hv, Array.getD_eq_getD_getElem?] at h1
    rw [hv2, Array.getD_eq_getD_getElem?] at h2
    have e := run_load_agg (P := P) (w := w) (a := ⟨b, 0, none⟩) ht hn fun j u hj => by
      rw [add_none, Nat.zero_add]; exact hM.boxCell hk hj
    have e2 : (loadVar T ⟨b, 0, none⟩).run P w = .ok (.agg cs.toArray) w := by simpa [Instr.loadAt, Instr.sureAddr] using e
    simp [results, hr, h1, h2, asAddr, e2], hR⟩

/-! ### Giving memory over -/
theorem Mem.giveRow (hM : Mem w0 H0 w H L) (k : Nat) {A : Option Addr} {n c sz : Nat} {T : TypeId} {cs : List Value} (hk : L[k]? = some (.row (.slice A n c) T sz n cs)) : ∃ H', Mem w0 H0 w H' (L.eraseIdx k) ∧ H.le H' ∧ RdC H' A n c sz cs := by
  have h : w.ownsRow w0.heap.size T sz (.slice A n c) n cs := hM.holds _ (List.mem_of_getElem? hk)
  obtain ⟨hl, h2⟩ := h
  rcases h2 with ⟨h2, h3⟩ | ⟨g, cap, cur, hv, hg, hh, hn, hm, hs, ht⟩
  · cases h2
    have : cs = [] := List.eq_nil_of_length_eq_zero (by simpa using hl)
    subst this
    exact ⟨H, hM.sub (List.eraseIdx_sublist L k), Hp.le.refl _, RdC.nil H sz⟩
  · cases hv
    obtain ⟨h4, h5, h6⟩ := hM.give k hk rfl hh
    refine ⟨_, h4, h5, hl, hn, hm, (fun h => nomatch h), fun a ha => ?_⟩
    cases ha
    refine fun _ => ⟨rfl, cur, T, (0, 0), h6, fun j u hj => ?_⟩
    rw [← ht] at hj
    have hlt : j < (cur.toList.take (n * sz)).length := (List.getElem?_eq_some_iff.1 hj).1
    rw [List.length_take] at hlt
    rw [List.getElem?_take_of_lt (by omega)] at hj
    simpa using hj
theorem Mem.giveBox (hM : Mem w0 H0 w H L) (k : Nat) {b : Nat} {T : TypeId} {cs : List Value} (hk : L[k]? = some (.box b T cs)) : ∃ H', Mem w0 H0 w H' (L.eraseIdx k) ∧ H.le H' ∧ H' b = some (.cells cs.toArray T (0, 0)) := by
  have h : Ent.holds w0.heap.size w (.box b T cs) := hM.holds _ (List.mem_of_getElem? hk)
  obtain ⟨h4, h5, h6⟩ := hM.give k hk rfl h.2
  exact ⟨_, h4, h5, h6⟩
end
end Go.Proofs.YtackllehpecfgaaDoor
