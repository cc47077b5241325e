/- Small rules more. -/
import Derived.Test.YtackllehpecfgaaDoorBuild
import Derived.Test.YtackllehpecfgaaDoorDrawG
import Derived.Laws.Cover3
import Derived.Laws.StructEq
namespace Go.Proofs.YtackllehpecfgaaDoor
open Go.RowKit

theorem RdC.ne {H : Hp} {A : Option Addr} {n c sz : Nat} {cs : List Value} (h : RdC H A n c sz cs) (hn : 0 < n) : A ≠ none := by
  obtain ⟨a, e⟩ := h.some_of hn
  rw [e]; simp
theorem RdC.len {H : Hp} {A : Option Addr} {n c sz : Nat} {cs : List Value} (h : RdC H A n c sz cs) : cs.length = n * sz := h.1

def MonoAll : List (Hp → Value → Prop) → Prop
  | [] => True
  | p :: r => (∀ A B v, Hp.le A B → p A v → p B v) ∧ MonoAll r
theorem monoAll {l : List (Hp → Value → Prop)} (h : MonoAll l) : ∀ p ∈ l, ∀ A B v, Hp.le A B → p A v → p B v := by
  induction l with
  | nil => intro p hp; simp at hp
  | cons q r ih =>
    intro p hp
    rcases List.mem_cons.1 hp with rfl | hp
    · exact h.1
    · exact ih h.2 p hp

theorem wrap_u64_id {n : Int} (h1 : 0 ≤ n) (h2 : n ≤ 18446744073709551615) : IntKind.u64.wrap n = n := by rw [wrap_u64]; omega

section
variable {P : Program} {σ : Nat → Value} {ty : TypeId} {w w0 : World} {H0 H H1 : Hp} {L : List Ent}
theorem Mem.rowNe (hM : Mem w0 H0 w H L) {k : Nat} {A : Option Addr} {n c sz : Nat} {T : TypeId} {cs : List Value} (hk : L[k]? = some (.row (.slice A n c) T sz n cs)) (hn : 0 < n) : A ≠ none := by
  have h : w.ownsRow w0.heap.size T sz (.slice A n c) n cs := hM.holds _ (List.mem_of_getElem? hk)
  rcases h.2 with ⟨h2, h3⟩ | ⟨g, cap, cur, hv, _⟩
  · omega
  · cases hv; simp
theorem Mem.rowLen (hM : Mem w0 H0 w H L) {k : Nat} {A : Option Addr} {n c sz : Nat} {T : TypeId} {cs : List Value} (hk : L[k]? = some (.row (.slice A n c) T sz n cs)) : cs.length = n * sz := by
  have h : w.ownsRow w0.heap.size T sz (.slice A n c) n cs := hM.holds _ (List.mem_of_getElem? hk)
  exact h.1
theorem Ex.field1 {s f off T : Nat} {x : Operand} {cs : List Value} {u : Value} (hf : FieldAt P s f off) (ht : TyOne P T) (hx : ev σ x = .agg cs.toArray) (hc : cs[off]? = some u) (hT : ∀ fs fd, P.underlying s = some (.struct fs) → fs[f]? = some fd → fd.type = T) : Ex P σ (.field s x f) ty w u w := fun _ _ _ _ => by
  obtain ⟨fs, fd, i, h1, h2, h3, h4, h5⟩ := hf
  obtain ⟨⟨d, h6, h7⟩, _⟩ := ht
  have e6 := hT fs fd h1 h2
  subst h3
  have e : (Instr.field s (.agg cs.toArray) f).run P w = .ok u w := by
    simp [Instr.field, run_underlying h1, h2, asAgg, part, e6, run_isAgg h6, h7, hc]
  simp only [execOp, hx]
  simp [e]
theorem Ex.makeFunc {fn : Fn} {first cap : Array Operand} {fs cs : List Value} (h1 : first.toList.map (ev σ) = fs) (h2 : cap.toList.map (ev σ) = cs) : Ex P σ (.makeFunc fn first cap) ty w (.func fn fs.toArray cs.toArray) w := fun _ _ _ _ => by
  have e1 : first.map (ev σ) = fs.toArray := by apply Array.ext'; simp [← h1]
  have e2 : cap.map (ev σ) = cs.toArray := by apply Array.ext'; simp [← h2]
  simp only [execOp, Instr.makeFunc, e1, e2]
  rfl
/-- A box that nobody writes any more. -/
theorem Ex.loadH (hM : Mem w0 H0 w H L) (hle : H1.le H) {b : Nat} {cs : List Value} {T' : TypeId} {fr : Nat × Nat} (hb : H1 b = some (.cells cs.toArray T' fr)) {T : TypeId} {x : Operand} {o : Nat} {u : Value} (ht : TyOne P T) (hx : ev σ x = .pointer (some ⟨b, o, none⟩)) (hc : cs[o]? = some u) : Ex P σ (.load T x) ty w u w := fun _ _ _ _ => by
  have hcell : w.cell? ⟨b, o, none⟩ = some u := by
    simp [World.cell?, hM.agree _ _ (hle _ _ hb), hc]
  have e := run_load_one (P := P) ht hcell
  simp only [execOp, hx]
  simp [e]
theorem Ex.loadHA (hM : Mem w0 H0 w H L) (hle : H1.le H) {b : Nat} {cs : List Value} {T' : TypeId} {fr : Nat × Nat} (hb : H1 b = some (.cells cs.toArray T' fr)) {T : TypeId} {n : Nat} {x : Operand} {o : Nat} (us : List Value) (ht : TyAgg P T n) (hx : ev σ x = .pointer (some ⟨b, o, none⟩)) (hn : us.length = n) (hc : (cs.drop o).take n = us) : Ex P σ (.load T x) ty w (.agg us.toArray) w := fun _ _ _ _ => by
  have e := run_load_agg (P := P) (w := w) (a := ⟨b, o, none⟩) ht hn fun j u hj => by
    rw [add_none]
    rw [← hc] at hj
    have hlt : j < n := by
      have := (List.getElem?_eq_some_iff.1 hj).1
      rw [List.length_take] at this; omega
    rw [List.getElem?_take_of_lt hlt, List.getElem?_drop] at hj
    simp [World.cell?, hM.agree _ _ (hle _ _ hb), hj]
  simp only [execOp, hx]
  simp [e]
theorem Ex.loadRA (hM : Mem w0 H0 w H L) (p : Nat) {A : Option Addr} {n c sz : Nat} {T' : TypeId} {cs : List Value} (hk : L[p]? = some (.row (.slice A n c) T' sz n cs)) {T : TypeId} {m : Nat} {x : Operand} {k : Nat} (us : List Value) (ht : TyAgg P T m) (hA : A ≠ none) (hx : ev σ x = elp A k) (hn : us.length = m) (hc : ∀ j u, us[j]? = some u → cs[k + j]? = some u) : Ex P σ (.load T x) ty w (.agg us.toArray) w := fun _ _ _ _ => by
  cases A with
  | none => exact absurd rfl hA
  | some a =>
    have e := run_load_agg (P := P) (w := w) (a := a.add k) ht hn fun j u hj => by
      have := hM.rowCell hk rfl (hc j u hj)
      rwa [show (a.add k).add j = a.add (k + j) by
        unfold Addr.add
        by_cases h6 : k = 0 <;> by_cases h7 : j = 0 <;> simp [h6, h7, Nat.add_assoc]]
    simp only [execOp, hx, elp]
    simp [e]
end

theorem Ex.yes {P : Program} {σ : Nat → Value} {op : Op} {ty : TypeId} {w w' : World} {p : Prop} [Decidable p] (h : Ex P σ op ty w (.bool (decide p)) w') (hp : p) : Ex P σ op ty w (.bool true) w' := by rwa [decide_eq_true hp] at h
theorem Ex.no {P : Program} {σ : Nat → Value} {op : Op} {ty : TypeId} {w w' : World} {p : Prop} [Decidable p] (h : Ex P σ op ty w (.bool (decide p)) w') (hp : ¬ p) : Ex P σ op ty w (.bool false) w' := by rwa [decide_eq_false hp] at h
theorem RetV.yes {P : Program} {f : FuncId} {args : Array Value} {H : Hp} {p : Prop} [Decidable p] (h : RetV P f args H (.bool (decide p))) (hp : p) : RetV P f args H (.bool true) := by rwa [decide_eq_true hp] at h
theorem RetV.no {P : Program} {f : FuncId} {args : Array Value} {H : Hp} {p : Prop} [Decidable p] (h : RetV P f args H (.bool (decide p))) (hp : ¬ p) : RetV P f args H (.bool false) := by rwa [decide_eq_false hp] at h

/-! ### A statement whose order is open, each of its operations with one value -/
def eqs (vs : List Value) : List (Hp → Value → Prop) := vs.map fun v _ u => u = v
def kv (vs : List Value) (σ : Nat → Value) (x : Nat × Option Nat) : Nat × Value := (x.1, match x.2 with
  | some j => vs.getD j undef
  | none => σ x.1)
def kvs (vs : List Value) (σ : Nat → Value) : List (Nat × Option Nat) → List (Nat × Value)
  | [] => []
  | x :: r => kv vs σ x :: kvs vs σ r
def knB (ops : Array Oper) (T i : Nat) (idx : List (Nat × Option Nat)) : Bool := idx.all fun x => match x.2 with
  | some j => hasEdge ops i j && isDst ops j x.1 && Nat.blt j T
  | none => freeB ops T i x.1
def knsB (ops : Array Oper) (T : Nat) : Nat → List (List (Nat × Option Nat)) → Bool
  | _, [] => true
  | i, idx :: r => knB ops T i idx && knsB ops T (i + 1) r
def knT (ops : Array Oper) (T : Nat) (idx : List (Nat × Option Nat)) : Bool := idx.all fun x => match x.2 with
  | some j => isDst ops j x.1 && Nat.blt j T
  | none => (List.range T).all fun j => !(isDst ops j x.1)

theorem isDst_iff {ops : Array Oper} {i t : Nat} (h : isDst ops i t = true) : dstOf ops i = some t := by
  unfold isDst at h
  split at h
  · rename_i d hd; rw [hd, Nat.eq_of_beq_eq_true h]
  · cases h

section
variable {r : Option Nat} {md : Nat} {P : Program} {N : Nat} {Q : Exit → List Deferred → (Nat → Value) → World → Prop} {D : List Deferred} {σ : Nat → Value} {w w0 : World} {H0 H : Hp} {L : List Ent}

def One (r : Option Nat) (md : Nat) (P : Program) (N : Nat) (D : List Deferred) (w0 : World) (H0 H : Hp) (L : List Ent) (ops : Array Oper) (l : List (Nat × Value)) (o : Oper) (v : Value) : Prop :=
  ∀ H' τ w, H.le H' → Mem w0 H0 w H' L → RW r md P N ops [o] (oneQ D (sl l τ) o.dst fun u w' => Mem w0 H0 w' H' L ∧ u = v) D (sl l τ) w
def Ones (r : Option Nat) (md : Nat) (P : Program) (N : Nat) (D : List Deferred) (σ : Nat → Value) (w0 : World) (H0 H : Hp) (L : List Ent) (ops : Array Oper) (vs : List Value) : List Oper → List Value → List (List (Nat × Option Nat)) → Prop
  | o :: os, v :: us, idx :: r' => One r md P N D w0 H0 H L ops (kvs vs σ idx) o v ∧ Ones r md P N D σ w0 H0 H L ops vs os us r'
  | _, _, _ => True

theorem One.ex {ops : Array Oper} {l : List (Nat × Value)} {d : Option Tmp} {op : Op} {ty : TypeId} {pos : String} {af : Array Edge} {gd : Option (Nat × Bool)} {v : Value} (hx : ∀ H' τ w, H.le H' → Mem w0 H0 w H' L → Ex P (sl l τ) op ty w v w) (hnd : isDefer op = false) (hg : ∀ τ, gdOk ops (sl l τ) gd = true) (hd : dstOk d N = true) :
    One r md P N D w0 H0 H L ops l ⟨d, op, ty, pos, af, gd⟩ v := fun H' τ w hle hM =>
  RW.step (hx H' τ w hle hM) hnd (hg τ) hd (RW.nil ⟨rfl, rfl, v, rfl, hM, rfl⟩)
theorem One.exT {ops : Array Oper} {l : List (Nat × Value)} {d : Option Tmp} {op : Op} {ty : TypeId} {pos : String} {af : Array Edge} {gd : Option (Nat × Bool)} {p : Prop} [Decidable p] (hp : p) (hx : ∀ H' τ w, H.le H' → Mem w0 H0 w H' L → Ex P (sl l τ) op ty w (.bool (decide p)) w) (hnd : isDefer op = false) (hg : ∀ τ, gdOk ops (sl l τ) gd = true) (hd : dstOk d N = true) :
    One r md P N D w0 H0 H L ops l ⟨d, op, ty, pos, af, gd⟩ (.bool true) := fun H' τ w hle hM =>
  RW.step (hx H' τ w hle hM) hnd (hg τ) hd (RW.nil ⟨rfl, rfl, _, rfl, hM, by rw [decide_eq_true hp]⟩)
theorem One.exF {ops : Array Oper} {l : List (Nat × Value)} {d : Option Tmp} {op : Op} {ty : TypeId} {pos : String} {af : Array Edge} {gd : Option (Nat × Bool)} {p : Prop} [Decidable p] (hp : ¬ p) (hx : ∀ H' τ w, H.le H' → Mem w0 H0 w H' L → Ex P (sl l τ) op ty w (.bool (decide p)) w) (hnd : isDefer op = false) (hg : ∀ τ, gdOk ops (sl l τ) gd = true) (hd : dstOk d N = true) :
    One r md P N D w0 H0 H L ops l ⟨d, op, ty, pos, af, gd⟩ (.bool false) := fun H' τ w hle hM =>
  RW.step (hx H' τ w hle hM) hnd (hg τ) hd (RW.nil ⟨rfl, rfl, _, rfl, hM, by rw [decide_eq_false hp]⟩)
theorem One.pass {ops : Array Oper} {l : List (Nat × Value)} {d : Option Tmp} {op : Op} {ty : TypeId} {pos : String} {af : Array Edge} {gd : Option (Nat × Bool)} (hg : ∀ τ, gdOk ops (sl l τ) gd = false) (hd : dstOk d N = true) : One r md P N D w0 H0 H L ops l ⟨d, op, ty, pos, af, gd⟩ undef := fun _ τ _ _ hM =>
  RW.pass (hg τ) hd (RW.nil ⟨rfl, rfl, _, rfl, hM, rfl⟩)
theorem One.call {ops : Array Oper} {l : List (Nat × Value)} {d : Option Tmp} {ty : TypeId} {pos : String} {af : Array Edge} {gd : Option (Nat × Bool)} {g : Operand} {xs : Array Operand} {ts : Array TypeId} {f : FuncId} {lb : Array Value} {args : List Value} {v : Value} (hr : RetV P f args.toArray H v) (he : Enters P f) (hf : ∀ τ, ev (sl l τ) g = .func (.func f) #[] lb) (ha : ∀ τ, xs.toList.map (ev (sl l τ)) ++ lb.toList = args)
    (hg : ∀ τ, gdOk ops (sl l τ) gd = true) (hd : dstOk d N = true) : One r md P N D w0 H0 H L ops l ⟨d, .call { callee := .value g, args := xs, argTypes := ts }, ty, pos, af, gd⟩ v := fun _ τ _ hle hM =>
  RW.callV hM (Ret.lower hr hle) he (hf τ) (ha τ) (hg τ) hd fun _ hM' => RW.nil ⟨rfl, rfl, v, rfl, hM', rfl⟩
/-- A call whose answer is known to be true, or false. -/
theorem One.cast {ops : Array Oper} {l : List (Nat × Value)} {o : Oper} {v u : Value} (h : One r md P N D w0 H0 H L ops l o v) (e : v = u) : One r md P N D w0 H0 H L ops l o u := e ▸ h

theorem allSl_kvs {ops : Array Oper} {T i : Nat} {vs : List Value} {σ' : Nat → Value} (hp : ∀ j d v, hasEdge ops i j = true → dstOf ops j = some d → vs[j]? = some v → σ' d = v) (hf : ∀ t, freeB ops T i t = true → σ' t = σ t) (hlen : vs.length = T) : ∀ idx, knB ops T i idx = true → AllSl σ' (kvs vs σ idx)
  | [], _ => trivial
  | (t, none) :: r', h => by
    simp only [knB, List.all_cons, Bool.and_eq_true] at h
    exact ⟨hf t h.1, allSl_kvs hp hf hlen r' h.2⟩
  | (t, some j) :: r', h => by
    simp only [knB, List.all_cons, Bool.and_eq_true] at h
    have hj : j < vs.length := by rw [hlen]; simpa [Nat.blt_eq] using h.1.2
    refine ⟨?_, allSl_kvs hp hf hlen r' h.2⟩
    show σ' t = vs.getD j undef
    rw [List.getD_eq_getElem?_getD, List.getElem?_eq_getElem hj]
    exact hp j t _ h.1.1.1 (isDst_iff h.1.1.2) (List.getElem?_eq_getElem hj)
theorem allSl_kvsT {ops : Array Oper} {T : Nat} {vs : List Value} {σ' : Nat → Value} (hp : ∀ j d v, dstOf ops j = some d → vs[j]? = some v → σ' d = v) (hf : ∀ t, ((List.range T).all fun j => !(isDst ops j t)) = true → σ' t = σ t) (hlen : vs.length = T) : ∀ idx, knT ops T idx = true → AllSl σ' (kvs vs σ idx)
  | [], _ => trivial
  | (t, none) :: r', h => by
    simp only [knT, List.all_cons, Bool.and_eq_true] at h
    exact ⟨hf t h.1, allSl_kvsT hp hf hlen r' h.2⟩
  | (t, some j) :: r', h => by
    simp only [knT, List.all_cons, Bool.and_eq_true] at h
    have hj : j < vs.length := by rw [hlen]; simpa [Nat.blt_eq] using h.1.2
    refine ⟨?_, allSl_kvsT hp hf hlen r' h.2⟩
    show σ' t = vs.getD j undef
    rw [List.getD_eq_getElem?_getD, List.getElem?_eq_getElem hj]
    exact hp j t _ (isDst_iff h.1.1) (List.getElem?_eq_getElem hj)

theorem wpListIn_mono {F : Fence} {n : Nat} {ops : Array Oper} {Q1 Q2 : Exit → Act → World → Prop} (hq : ∀ e a w, Q1 e a w → Q2 e a w) : ∀ (l : List Oper) (a : Act) (w : World), wpListIn F n P ops Q1 l a w → wpListIn F n P ops Q2 l a w
  | [], a, w, h => hq _ _ _ h
  | o :: l, a, w, h => by
    unfold wpListIn at h ⊢
    split at h
    · rename_i hw
      rw [if_pos hw]
      refine ⟨h.1, ?_⟩
      have h2 := h.2
      generalize (o.semAt F.round a.eval).run P w = res at h2
      cases res with
      | ok nx w' =>
        cases nx with
        | value v => exact wpListIn_mono hq l _ _ h2
        | skip => exact wpListIn_mono hq l _ _ h2
        | defer d => exact wpListIn_mono hq l _ _ h2
        | enter f args =>
          refine ⟨h2.1, h2.2.mono fun e w'' he => ?_⟩
          cases e with
          | returned v => exact wpListIn_mono hq l _ _ he
          | panicked chain => exact hq _ _ _ he
          | outgrown => obtain ⟨a1, w1, h3⟩ := he; exact ⟨a1, w1, hq _ _ _ h3⟩
        | row row args => exact ⟨h2.1, h2.2.mono fun v w'' he => wpListIn_mono hq l _ _ he⟩
        | round l' f tmps assign body =>
          refine ⟨h2.1, h2.2.mono fun e w'' he => ?_⟩
          cases e with
          | returned v => exact wpListIn_mono hq l _ _ he
          | panicked chain => exact hq _ _ _ he
          | outgrown => obtain ⟨a1, w1, h3⟩ := he; exact ⟨a1, w1, hq _ _ _ h3⟩
        | _ => exact h2
      | halt x w' =>
        cases x with
        | panic v => exact hq _ _ _ h2
        | _ => exact h2
    · rename_i hw
      rw [if_neg hw]
      exact ⟨h.1, wpListIn_mono hq l _ _ h.2⟩

theorem opsVC_of {ops : Array Oper} {T : Nat} {vs : List Value} (hlen : vs.length = T) : ∀ (os : List Oper) (us : List Value) (ids : List (List (Nat × Option Nat))) (i : Nat), us.length ≤ ids.length → knsB ops T i ids = true → Ones r md P N D σ w0 H0 H L ops vs os us ids → (hO : H0.le H) →
    OpsVC r md P N D σ w0 H0 H L ops T (eqs vs) i os (eqs us)
  | [], us, _, _, _, _, _, _ => by cases us <;> trivial
  | _ :: _, [], _, _, _, _, _, _ => trivial
  | o :: os, v :: us, [], _, hl, _, _, _ => by simp at hl
  | o :: os, v :: us, idx :: ids, i, hl, hk, h, hO => by
    simp only [knsB, Bool.and_eq_true] at hk
    refine ⟨?_, opsVC_of hlen os us ids (i + 1) (by simpa using hl) hk.2 h.2 hO⟩
    intro H' σ' w' hle hM hp hf
    have hall := allSl_kvs (σ := σ) (vs := vs) (fun j d u hj hd hu => hp j d (fun _ x => x = u) hj hd (by simp [eqs, hu])) hf hlen idx hk.1
    obtain ⟨τ, rfl⟩ := sl_canon hall
    intro a ha
    have h2 := h.1 H' τ w' hle hM a ha
    refine wpListIn_mono ?_ _ _ _ h2
    rintro e a' w'' ⟨D', σ'', h3, h4, h5, u, h6, h7, h8⟩
    exact ⟨D', σ'', h3, h4, h5, u, h6, H', Hp.le.refl _, h7, h8⟩

theorem CW.drawE {id : Nat} {l : List Oper} (T : Nat) (vs : List Value) (ids : List (List (Nat × Option Nat))) (idT : List (Nat × Option Nat)) (hm : P.follows .mixedOrders = true) (hM : Mem w0 H0 w H L)
    (hchk : (drawB l.toArray T N && knsB l.toArray T 0 ids && knT l.toArray T idT && Nat.beq vs.length T && Nat.beq ids.length T) = true)
    (hop : Ones r md P N D σ w0 H0 H L l.toArray vs (l.take T) vs ids)
    (htail : ∀ τ w, Mem w0 H0 w H L → RW r md P N l.toArray (l.drop T) Q D (sl (kvs vs σ idT) τ) w) : CW r md P N (.region id l.toArray true) Q D σ w := by
  simp only [Bool.and_eq_true] at hchk
  obtain ⟨⟨⟨⟨h1, h2⟩, h3⟩, h4⟩, h5⟩ := hchk
  have hl : vs.length = T := Nat.eq_of_beq_eq_true h4
  have hl2 : ids.length = T := Nat.eq_of_beq_eq_true h5
  refine CW.draw T (eqs vs) hm hM h1 (by simp [eqs, hl]) ?_ (opsVC_of hl _ _ ids 0 (by omega) h2 hop hM.old) ?_
  · intro p hp A B v hle h
    obtain ⟨x, _, rfl⟩ := List.mem_map.1 hp
    exact h
  · intro H' σ' w' hle hM' hp hf
    have hall := allSl_kvsT (σ := σ) (vs := vs) (fun j d u hd hu => hp j d (fun _ x => x = u) hd (by simp [eqs, hu])) hf hl idT h3
    obtain ⟨τ, rfl⟩ := sl_canon hall
    exact htail τ w' (hM'.lower hM.old hle)
end
theorem thenQ_ret {K : List Deferred → (Nat → Value) → World → Prop} {Q : Exit → List Deferred → (Nat → Value) → World → Prop} {D : List Deferred} {σ : Nat → Value} {w : World} (h : Q .ret D σ w) : thenQ K Q .ret D σ w := h
theorem blockQ_ret {id : Nat} {Q : Exit → List Deferred → (Nat → Value) → World → Prop} {D : List Deferred} {σ : Nat → Value} {w : World} (h : Q .ret D σ w) : blockQ id Q .ret D σ w := h

/-! ### Memory that a callee makes and its caller may write -/
def RetO (P : Program) (f : FuncId) (args : Array Value) (H : Hp) (Φ : Value → List Ent → Prop) : Prop :=
  ∀ w, (∀ b o, H b = some o → w.heap[b]? = some o) → Calls P f args w fun e w' => ∃ v L', e = .returned v ∧ Below w.heap.size w w' ∧ (∀ E ∈ L', E.holds w.heap.size w') ∧ Apart L' ∧ Φ v L'

section
variable {r : Option Nat} {md : Nat} {P : Program} {N : Nat} {Q : Exit → List Deferred → (Nat → Value) → World → Prop} {D : List Deferred} {σ : Nat → Value} {w w' w0 : World} {H0 H : Hp} {L L' : List Ent}
variable {ops : Array Oper} {l : List Oper} {d : Option Tmp} {ty : TypeId} {pos : String} {af : Array Edge} {gd : Option (Nat × Bool)}

theorem Ent.lower {n0 n1 : Nat} {w : World} {E : Ent} (h : E.holds n1 w) (hn : n0 ≤ n1) : E.holds n0 w := by
  cases E with
  | box b T cs => exact ⟨Nat.le_trans hn h.1, h.2⟩
  | obj b o => exact ⟨Nat.le_trans hn h.1, h.2⟩
  | row v T sz n cs =>
    obtain ⟨h1, h2⟩ := h
    refine ⟨h1, ?_⟩
    rcases h2 with h2 | ⟨g, cap, cur, hv, hg, rest⟩
    · exact .inl h2
    · exact .inr ⟨g, cap, cur, hv, Nat.le_trans hn hg, rest⟩

theorem Mem.take (hM : Mem w0 H0 w H L) (hb : Below w.heap.size w w') (hh : ∀ E ∈ L', E.holds w.heap.size w') (ha : Apart L') : Mem w0 H0 w' H (L' ++ L) := by
  have h := hM.frame hb
  refine ⟨h.below, h.old, h.fresh, h.agree, ?_, ?_, ?_⟩
  · intro E hE
    rcases List.mem_append.1 hE with hE | hE
    · exact Ent.lower (hh E hE) hM.below.size
    · exact h.holds E hE
  · refine List.pairwise_append.2 ⟨ha, h.apart, fun E hE E' hE' b h1 h2 => ?_⟩
    have h3 := (Ent.blk_lt (hh E hE) h1).1
    have h4 := (Ent.blk_lt (hM.holds E' hE') h2).2
    omega
  · intro E hE b hb2
    rcases List.mem_append.1 hE with hE | hE
    · have h3 := (Ent.blk_lt (hh E hE) hb2).1
      cases hx : H b with
      | none => rfl
      | some o => have := lt_of_heap (hM.agree b o hx); omega
    · exact h.hapart E hE b hb2

theorem RW.callO {g : Operand} {xs : Array Operand} {ts : Array TypeId} {f : FuncId} {lb : Array Value} {args : List Value} {Φ : Value → List Ent → Prop} (hM : Mem w0 H0 w H L) (hr : RetO P f args.toArray H Φ) (he : Enters P f) (hf : ev σ g = .func (.func f) #[] lb) (ha : xs.toList.map (ev σ) ++ lb.toList = args)
    (hg : gdOk ops σ gd = true) (hd : dstOk d N = true) (K : ∀ v w' L', Φ v L' → Mem w0 H0 w' H (L' ++ L) → RW r md P N ops l Q D (upd σ d v) w') :
    RW r md P N ops (⟨d, .call { callee := .value g, args := xs, argTypes := ts }, ty, pos, af, gd⟩ :: l) Q D σ w :=
  RW.enter he hf ha hg hd ((hr w hM.agree).mono fun _ w' ⟨v, L', h1, h2, h3, h4, h5⟩ => ⟨v, h1, (show ∃ L', Φ v L' ∧ Mem w0 H0 w' H (L' ++ L) from ⟨L', h5, hM.take h2 h3 h4⟩)⟩) fun v w' ⟨L', h1, h2⟩ => K v w' L' h1 h2

theorem RetO.of_code {f : FuncId} {fn : Func} {c : Code} {args : Array Value} {H : Hp} {Φ : Value → List Ent → Prop} (hf : P.funcs[f]? = some fn) (hb : fn.body = some c) (hN : args.size ≤ fn.ntmps)
    (h : ∀ w, Mem w H w H [] → CW none 0 P fn.ntmps c (endQ P fn fun v w' => ∃ H' L', Mem w H w' H' L' ∧ Φ v L') [] (sl (enumA 0 args.toList) fun _ => undef) w) : RetO P f args H Φ := fun w hw =>
  (calls_of_code hf hb hN (h w (Mem.start hw))).mono fun _ _ ⟨v, h1, _, L', hM, hΦ⟩ => ⟨v, L', h1, hM.below, hM.holds, hM.apart, hΦ⟩

/-- What is handed over is written no more. -/
theorem RetO.give {f : FuncId} {args : Array Value} {H : Hp} {Φ : Value → List Ent → Prop} {Ψ : Hp → Value → Prop} (h : RetO P f args H Φ) (hg : ∀ w w' v L', Φ v L' → Mem w H w' H L' → ∃ H', Mem w H w' H' [] ∧ Ψ H' v) : Ret P f args H Ψ := fun w hw =>
  (h w hw).mono fun _ w' ⟨v, L', h1, h2, h3, h4, h5⟩ => by
    have hM : Mem w H w' H (L' ++ []) := (Mem.start hw).take h2 h3 h4
    rw [List.append_nil] at hM
    obtain ⟨H', hM', hψ⟩ := hg w w' v L' h5 hM
    exact ⟨v, H', h1, hM'.old, hM'.agree, hM'.fresh, hM'.below, hψ⟩
end
section
variable {P : Program} {σ : Nat → Value} {ty : TypeId} {w : World}
theorem Ex.eqlNil {t e : Nat} {x y : Operand} {u : TypeId} {A : Option Addr} {n c : Nat} (ht : P.underlying t = some (.slice e)) (hx : ev σ x = .slice A n c) (hy : ev σ y = .slice none 0 0) : Ex P σ (.binOp .eql t x y u) ty w (.bool (decide (A = none))) w := fun _ _ _ _ => by
  have h : (binOp .eql t (.slice A n c) (.slice none 0 0)).run P w = .ok (.bool (decide (A = none))) w := by
    show (do pure (Value.bool (← Op.equal t (.slice A n c) (.slice none 0 0))) : Sem Value).run P w = _
    have h1 : (Op.equal t (.slice A n c) (.slice none 0 0)).run P w = .ok A.isNone w := run_equal_slice_nil w t e A n c ht
    cases A <;> simp [h1]
  simp only [execOp, hx, hy]
  simp [eqGuard, h]
theorem Ex.neqNil {t e : Nat} {x y : Operand} {u : TypeId} {A : Option Addr} {n c : Nat} (ht : P.underlying t = some (.slice e)) (hx : ev σ x = .slice A n c) (hy : ev σ y = .slice none 0 0) : Ex P σ (.binOp .neq t x y u) ty w (.bool (decide (A ≠ none))) w := fun _ _ _ _ => by
  have h : (binOp .neq t (.slice A n c) (.slice none 0 0)).run P w = .ok (.bool (decide (A ≠ none))) w := by
    show (do pure (Value.bool (!(← Op.equal t (.slice A n c) (.slice none 0 0)))) : Sem Value).run P w = _
    have h1 : (Op.equal t (.slice A n c) (.slice none 0 0)).run P w = .ok A.isNone w := run_equal_slice_nil w t e A n c ht
    cases A <;> simp [h1]
  simp only [execOp, hx, hy]
  simp [eqGuard, h]
end

/-! ### Structs of numbers and truths held against each other -/
inductive Sc where
  | i (k : IntKind) (n : Int)
  | b (b : Bool)
deriving DecidableEq
def Sc.val : Sc → Value
  | .i k n => .int k n
  | .b x => .bool x
def Sc.sh : Sc → Option IntKind
  | .i k _ => some k
  | .b _ => none
def shB (P : Program) (T : TypeId) : Option IntKind → Bool
  | some _ => match P.underlying T with
    | some (.int _) => true
    | _ => false
  | none => match P.underlying T with
    | some .bool => true
    | _ => false
def eqFsB (P : Program) : Nat → List Field → List (Option IntKind) → Bool
  | _, [], [] => true
  | k, f :: fs, s :: ss => (f.name != "_") && Nat.beq f.offset k && tyOneB P f.type && shB P f.type s && eqFsB P (k + 1) fs ss
  | _, _, _ => false
def eqSB (P : Program) (T : TypeId) (ss : List (Option IntKind)) : Bool := (match P.underlying T with
  | some (.struct fs) => eqFsB P 0 fs.toList ss
  | _ => false) && !(P.stoodInHeld T) && !(P.eqGuardType P.depth T)

theorem run_part1 {P : Program} {T off : Nat} {xs : Array Value} {u : Value} {w : World} (ht : TyOne P T) (hc : xs[off]? = some u) : (part T xs off).run P w = .ok u w := by
  obtain ⟨⟨d, h6, h7⟩, _⟩ := ht
  simp [part, run_isAgg h6, h7, hc]
theorem run_eqSc {P : Program} {d T : Nat} {w : World} {a b : Sc} (h : shB P T a.sh = true) (hs : b.sh = a.sh) : (Op.equalIn (d + 1) T a.val b.val).run P w = .ok (decide (a = b)) w := by
  cases a with
  | i k n =>
    cases b with
    | b x => cases hs
    | i k' m =>
      obtain rfl : k' = k := Option.some.inj hs
      simp only [Sc.sh, shB] at h
      split at h
      · rename_i k2 hu
        rw [show (Sc.i k' n).val = .int k' n from rfl, show (Sc.i k' m).val = .int k' m from rfl, run_equalIn_int w d T k' k2 n m hu]
        simp [Bool.beq_eq_decide_eq]
      · cases h
  | b x =>
    cases b with
    | i k' m => cases hs
    | b y =>
      simp only [Sc.sh, shB] at h
      split at h
      · rename_i hu
        rw [show (Sc.b x).val = .bool x from rfl, show (Sc.b y).val = .bool y from rfl, run_equalIn_bool w d T x y hu]
        simp [Bool.beq_eq_decide_eq]
      · cases h
theorem run_eqFs {P : Program} (d : Nat) (w : World) : ∀ (fs : List Field) (av bv : List Sc) (k : Nat) (xs ys : Array Value), eqFsB P k fs (av.map Sc.sh) = true → bv.map Sc.sh = av.map Sc.sh → (∀ j, xs[k + j]? = (av.map Sc.val)[j]?) → (∀ j, ys[k + j]? = (bv.map Sc.val)[j]?) →
    (Op.eqFields (d + 1) xs ys fs).run P w = .ok (decide (av = bv)) w
  | [], [], bv, k, xs, ys, h, hs, hx, hy => by
    have : bv = [] := by cases bv with
      | nil => rfl
      | cons => simp at hs
    subst this
    simp [Op.eqFields]
  | [], a :: av, bv, k, xs, ys, h, hs, hx, hy => by simp [eqFsB] at h
  | f :: fs, [], bv, k, xs, ys, h, hs, hx, hy => by simp [eqFsB] at h
  | f :: fs, a :: av, [], k, xs, ys, h, hs, hx, hy => by simp at hs
  | f :: fs, a :: av, b :: bv, k, xs, ys, h, hs, hx, hy => by
    simp only [List.map_cons, eqFsB, Bool.and_eq_true, bne_iff_ne, ne_eq] at h
    simp only [List.map_cons, List.cons.injEq] at hs
    obtain ⟨⟨⟨⟨h1, h2⟩, h3⟩, h4⟩, h5⟩ := h
    have ho : f.offset = k := Nat.eq_of_beq_eq_true h2
    have ih := run_eqFs d w fs av bv (k + 1) xs ys h5 hs.2 (fun j => by have := hx (j + 1); rwa [show k + (j + 1) = k + 1 + j by omega, List.map_cons, List.getElem?_cons_succ] at this) (fun j => by have := hy (j + 1); rwa [show k + (j + 1) = k + 1 + j by omega, List.map_cons, List.getElem?_cons_succ] at this)
    have e1 : (part f.type xs f.offset).run P w = .ok a.val w := run_part1 (tyOne_of h3) (by have := hx 0; rwa [Nat.add_zero, ← ho, List.map_cons, List.getElem?_cons_zero] at this)
    have e2 : (part f.type ys f.offset).run P w = .ok b.val w := run_part1 (tyOne_of h3) (by have := hy 0; rwa [Nat.add_zero, ← ho, List.map_cons, List.getElem?_cons_zero] at this)
    have e3 := run_eqSc (d := d) (w := w) h4 hs.1
    unfold Op.eqFields
    rw [if_pos h1]
    simp only [Sem.run_bind, e1, e2, e3, Result.andThen_ok]
    by_cases hab : a = b
    · simp [hab, ih]
    · simp [hab]
section
variable {P : Program} {σ : Nat → Value} {ty : TypeId} {w : World}
theorem run_eqS {T : Nat} {av bv : List Sc} (h : eqSB P T (av.map Sc.sh) = true) (hs : bv.map Sc.sh = av.map Sc.sh) : (Op.equalIn 10000 T (.agg (av.map Sc.val).toArray) (.agg (bv.map Sc.val).toArray)).run P w = .ok (decide (av = bv)) w ∧ P.eqGuardType P.depth T = false := by
  simp only [eqSB, Bool.and_eq_true, Bool.not_eq_true'] at h
  obtain ⟨⟨h1, h2⟩, h3⟩ := h
  split at h1
  · rename_i fs hu
    have hf : P.fieldsOf T = fs := by unfold Program.fieldsOf; rw [hu]
    refine ⟨?_, h3⟩
    rw [run_equalIn_struct w 9999 T _ _ (by rw [hf]; exact hu) h2, hf]
    exact run_eqFs 9998 w fs.toList av bv 0 _ _ h1 hs (fun j => by simp) (fun j => by simp)
  · cases h1
theorem Ex.eqlS {x y : Operand} {t u : TypeId} {vs us : List Value} (av bv : List Sc) (h : eqSB P t (av.map Sc.sh) = true) (hx : ev σ x = .agg vs.toArray) (hy : ev σ y = .agg us.toArray) (ha : av.map Sc.val = vs) (hb : bv.map Sc.val = us) (hs : bv.map Sc.sh = av.map Sc.sh) {p : Prop} [Decidable p] (hp : (av = bv) ↔ p) : Ex P σ (.binOp .eql t x y u) ty w (.bool (decide p)) w := fun _ _ _ _ => by
  subst ha; subst hb
  obtain ⟨h1, h2⟩ := run_eqS (w := w) h hs
  have e : decide (av = bv) = decide p := decide_eq_decide.2 hp
  simp only [execOp, hx, hy]
  simp [run_eqGuard_agg w _ t x y _ _ h2, run_eql_struct, h1, e]
theorem Ex.neqS {x y : Operand} {t u : TypeId} {vs us : List Value} (av bv : List Sc) (h : eqSB P t (av.map Sc.sh) = true) (hx : ev σ x = .agg vs.toArray) (hy : ev σ y = .agg us.toArray) (ha : av.map Sc.val = vs) (hb : bv.map Sc.val = us) (hs : bv.map Sc.sh = av.map Sc.sh) {p : Prop} [Decidable p] (hp : (av ≠ bv) ↔ p) : Ex P σ (.binOp .neq t x y u) ty w (.bool (decide p)) w := fun _ _ _ _ => by
  subst ha; subst hb
  obtain ⟨h1, h2⟩ := run_eqS (w := w) h hs
  have e : (!decide (av = bv)) = decide p := by rw [← decide_not]; exact decide_eq_decide.2 hp
  simp only [execOp, hx, hy]
  simp [run_eqGuard_agg w _ t x y _ _ h2, run_neq_struct, h1, e]
end
end Go.Proofs.YtackllehpecfgaaDoor
