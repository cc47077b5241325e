/- The layer under all walks of this seat: a frame's slots as a function with a list of known slots, memory as a list of known blocks of the call's own beside a heap of blocks that nobody writes; one rule for each operation. No program in sight. -/
import Derived.WalkKit
import Derived.OwnWalkIn
import Derived.TacticsIn
import Derived.OrdersIn
import Derived.RangeFuncCalls
import Derived.RangeFuncIn
namespace Go.Proofs.YtackllehpecfgaaDoor
open Go.RowKit

/-! ### The fence without walls, in or out of a round -/

def FR (r : Option Nat) : Fence := { Fence.wide with round := r }
theorem FR_fn (r : Option Nat) (f : FuncId) : (FR r).fn f := trivial
theorem FR_none : FR none = Fence.wide := rfl
theorem FR_callsIn {r : Option Nat} {n : Nat} {P : Program} {f : FuncId} {args : Array Value} {w : World} {R : Ending → World → Prop} (h : Calls P f args w R) : CallsIn (FR r) n P f args w R :=
  (callsIn_wide (n := n)).2 h

/-! ### Slots -/

def sl (l : List (Nat × Value)) (τ : Nat → Value) (t : Nat) : Value :=
  match l with
  | [] => τ t
  | (s, v) :: r => bif Nat.beq t s then v else sl r τ t

def ev (σ : Nat → Value) : Operand → Value
  | .tmp t => σ t
  | .const v => v
  | .global g => .pointer (some ⟨g, 0, none⟩)
  | .func f => .func (.func f) #[] #[]

def upd (σ : Nat → Value) (d : Option Nat) (v : Value) : Nat → Value :=
  match d with
  | none => σ
  | some d => sl [(d, v)] σ

theorem sl_cons (d : Nat) (v : Value) (l : List (Nat × Value)) (τ : Nat → Value) : sl [(d, v)] (sl l τ) = sl ((d, v) :: l) τ := rfl

def AllSl (σ : Nat → Value) : List (Nat × Value) → Prop
  | [] => True
  | (t, v) :: r => σ t = v ∧ AllSl σ r

theorem sl_canon {σ : Nat → Value} {l : List (Nat × Value)} (h : AllSl σ l) : ∃ τ, σ = sl l τ := by
  refine ⟨σ, ?_⟩
  induction l with
  | nil => rfl
  | cons p r ih =>
    obtain ⟨t, v⟩ := p
    funext s
    show σ s = bif Nat.beq s t then v else sl r σ s
    cases hb : Nat.beq s t with
    | true => rw [Nat.eq_of_beq_eq_true hb]; exact h.1
    | false => exact congrFun (ih h.2) s

def Rep (N : Nat) (D : List Deferred) (σ : Nat → Value) (a : Act) : Prop := a.defers = D ∧ a.tmps.size = N ∧ ∀ t, a.tmps.getD t undef = σ t

theorem Rep.eval {N : Nat} {D : List Deferred} {σ : Nat → Value} {a : Act} (h : Rep N D σ a) : a.eval = ev σ := by
  funext x
  cases x with
  | tmp t => exact h.2.2 t
  | const v => rfl
  | global g => rfl
  | func f => rfl

def dstOk (d : Option Nat) (N : Nat) : Bool := match d with | none => true | some d => Nat.blt d N

theorem Rep.put {N : Nat} {D : List Deferred} {σ : Nat → Value} {a : Act} (h : Rep N D σ a) {d : Option Nat} (hd : dstOk d N = true) (v : Value) : Rep N D (upd σ d v) (a.put d v) := by
  obtain ⟨h1, h2, h3⟩ := h
  cases d with
  | none => exact ⟨h1, h2, h3⟩
  | some d =>
    have hlt : d < N := by simpa [dstOk, Nat.blt_eq] using hd
    refine ⟨h1, by simp [Act.put, h2], fun t => ?_⟩
    show (a.tmps.setIfInBounds d v).getD t undef = bif Nat.beq t d then v else σ t
    cases hb : Nat.beq t d with
    | true =>
      have := Nat.eq_of_beq_eq_true hb
      subst this
      simp [Array.getD_eq_getD_getElem?, h2, hlt]
    | false =>
      have hne : d ≠ t := by intro e; subst e; simp [Nat.beq_refl] at hb
      have := h3 t
      simp only [Array.getD_eq_getD_getElem?, Array.getElem?_setIfInBounds, hne, if_false] at this ⊢
      exact this

theorem least_of (p : Nat → Prop) (n : Nat) (h : p n) : ∃ k, p k ∧ ∀ j, p j → k ≤ j := by
  induction n using Nat.strongRecOn with
  | _ n ih =>
    by_cases hs : ∃ j, j < n ∧ p j
    · obtain ⟨j, h1, h2⟩ := hs
      exact ih j h1 h2
    · exact ⟨n, h, fun j hj => by
        rcases Nat.lt_or_ge j n with h1 | h1
        · exact absurd ⟨j, h1, hj⟩ hs
        · exact h1⟩

/-! ### Code and regions over slots -/

def lift (N : Nat) (Q : Exit → List Deferred → (Nat → Value) → World → Prop) (e : Exit) (a : Act) (w : World) : Prop := ∃ D σ, Rep N D σ a ∧ Q e D σ w

def CW (r : Option Nat) (m : Nat) (P : Program) (N : Nat) (c : Code) (Q : Exit → List Deferred → (Nat → Value) → World → Prop) (D : List Deferred) (σ : Nat → Value) (w : World) : Prop :=
  ∀ a, Rep N D σ a → c.wpIn (FR r) m P (lift N Q) a w

def RW (r : Option Nat) (m : Nat) (P : Program) (N : Nat) (ops : Array Oper) (l : List Oper) (Q : Exit → List Deferred → (Nat → Value) → World → Prop) (D : List Deferred) (σ : Nat → Value) (w : World) : Prop :=
  ∀ a, Rep N D σ a → wpListIn (FR r) m P ops (lift N Q) l a w

def thenQ (K : List Deferred → (Nat → Value) → World → Prop) (Q : Exit → List Deferred → (Nat → Value) → World → Prop) : Exit → List Deferred → (Nat → Value) → World → Prop
  | .normal, D, σ, w => K D σ w
  | e, D, σ, w => Q e D σ w

def blockQ (id : Nat) (Q : Exit → List Deferred → (Nat → Value) → World → Prop) : Exit → List Deferred → (Nat → Value) → World → Prop
  | .exit id', D, σ, w => bif Nat.beq id' id then Q .normal D σ w else Q (.exit id') D σ w
  | e, D, σ, w => Q e D σ w

section
variable {r : Option Nat} {m : Nat} {P : Program} {N : Nat} {Q : Exit → List Deferred → (Nat → Value) → World → Prop} {D : List Deferred} {σ : Nat → Value} {w : World}

theorem CW.mono {c : Code} {Q' : Exit → List Deferred → (Nat → Value) → World → Prop} (h : CW r m P N c Q D σ w) (hq : ∀ e D σ w, Q e D σ w → Q' e D σ w) : CW r m P N c Q' D σ w :=
  fun a ha => wpIn_mono (h a ha) fun _ _ _ ⟨D', σ', h1, h2⟩ => ⟨D', σ', h1, hq _ _ _ _ h2⟩

theorem CW.seq {x y : Code} (h : CW r m P N x (thenQ (CW r m P N y Q) Q) D σ w) : CW r m P N (.seq x y) Q D σ w := fun a ha =>
  wpIn_seq (wpIn_mono (h a ha) fun e a' w' ⟨D', σ', h1, h2⟩ => by
    cases e with
    | normal => exact h2 a' h1
    | _ => exact ⟨D', σ', h1, h2⟩)

/-- A sequence whose first part comes to a state of a known kind. -/
theorem CW.cut {x y : Code} (M : List Deferred → (Nat → Value) → World → Prop) (h : CW r m P N x (thenQ M Q) D σ w) (hk : ∀ D σ w, M D σ w → CW r m P N y Q D σ w) : CW r m P N (.seq x y) Q D σ w :=
  CW.seq (h.mono fun e D σ w hq => by
    cases e with
    | normal => exact hk _ _ _ hq
    | _ => exact hq)

theorem CW.skip (h : Q .normal D σ w) : CW r m P N .skip Q D σ w := fun _ ha => wpIn_skip ⟨D, σ, ha, h⟩
theorem CW.exit {id : Nat} (h : Q (.exit id) D σ w) : CW r m P N (.exit id) Q D σ w := fun _ ha => wpIn_exit ⟨D, σ, ha, h⟩
theorem CW.ret (h : Q .ret D σ w) : CW r m P N .ret Q D σ w := fun _ ha => wpIn_ret ⟨D, σ, ha, h⟩
theorem CW.block {id : Nat} {c : Code} (h : CW r m P N c (blockQ id Q) D σ w) : CW r m P N (.block id c) Q D σ w := fun a ha =>
  wpIn_block (wpIn_mono (h a ha) fun e a' w' ⟨D', σ', h1, h2⟩ => by
    cases e with
    | exit id' =>
      show Exit.inBlock id (lift N Q) (.exit id') a' w'
      by_cases hid : id' = id
      · subst hid
        simp only [Exit.inBlock, if_true]
        have h3 : Q .normal D' σ' w' := by
          have : blockQ id' Q (.exit id') D' σ' w' := h2
          simpa [blockQ, Nat.beq_refl] using this
        exact ⟨D', σ', h1, h3⟩
      · simp only [Exit.inBlock, hid, if_false]
        have hb : Nat.beq id' id = false := by
          cases hx : Nat.beq id' id with
          | true => exact absurd (Nat.eq_of_beq_eq_true hx) hid
          | false => rfl
        have h3 : Q (.exit id') D' σ' w' := by
          have : blockQ id Q (.exit id') D' σ' w' := h2
          simpa [blockQ, hb] using this
        exact ⟨D', σ', h1, h3⟩
    | _ => exact ⟨D', σ', h1, h2⟩)

theorem CW.cond_true {c : Operand} {x y : Code} (hc : ev σ c = .bool true) (h : CW r m P N x Q D σ w) : CW r m P N (.cond c x y) Q D σ w := fun a ha =>
  wpIn_cond_true (by rw [ha.eval]; exact hc) (h a ha)
theorem CW.cond_false {c : Operand} {x y : Code} (hc : ev σ c = .bool false) (h : CW r m P N y Q D σ w) : CW r m P N (.cond c x y) Q D σ w := fun a ha =>
  wpIn_cond_false (by rw [ha.eval]; exact hc) (h a ha)
theorem CW.cond_dec {c : Operand} {x y : Code} {p : Prop} [Decidable p] (hc : ev σ c = .bool (decide p)) (ht : p → CW r m P N x Q D σ w) (hf : ¬ p → CW r m P N y Q D σ w) : CW r m P N (.cond c x y) Q D σ w := by
  by_cases hp : p
  · exact CW.cond_true (by rw [hc, decide_eq_true hp]) (ht hp)
  · exact CW.cond_false (by rw [hc, decide_eq_false hp]) (hf hp)

theorem CW.loop {c : Code} {β : Type} (Inv : β → (Nat → Value) → World → Prop) (μ : β → Nat) (b : β) (h0 : Inv b σ w)
    (hr : ∀ b σ w, Inv b σ w → CW r m P N c (thenQ (fun D' σ' w' => D' = D ∧ ∃ b', Inv b' σ' w' ∧ μ b' < μ b) Q) D σ w) : CW r m P N (.loop c) Q D σ w := by
  intro a ha
  have hmin : ∀ (a : Act) (w : World), (∃ b σ, Rep N D σ a ∧ Inv b σ w) → ∃ k, (∃ b σ, Rep N D σ a ∧ Inv b σ w ∧ μ b = k) ∧ ∀ j, (∃ b σ, Rep N D σ a ∧ Inv b σ w ∧ μ b = j) → k ≤ j := by
    intro a w ⟨b, σ, h1, h2⟩
    exact least_of (fun k => ∃ b σ, Rep N D σ a ∧ Inv b σ w ∧ μ b = k) (μ b) ⟨b, σ, h1, h2, rfl⟩
  let M : Act → World → Nat := fun a w => by
    classical
    exact if h : ∃ b σ, Rep N D σ a ∧ Inv b σ w then Classical.choose (hmin a w h) else 0
  have hM : ∀ a w (h : ∃ b σ, Rep N D σ a ∧ Inv b σ w), (∃ b σ, Rep N D σ a ∧ Inv b σ w ∧ μ b = M a w) ∧ ∀ j, (∃ b σ, Rep N D σ a ∧ Inv b σ w ∧ μ b = j) → M a w ≤ j := by
    intro a w h
    have := Classical.choose_spec (hmin a w h)
    have e : M a w = Classical.choose (hmin a w h) := dif_pos h
    rw [e]
    exact this
  refine wpIn_loop (fun a w => ∃ b σ, Rep N D σ a ∧ Inv b σ w) M ⟨b, σ, ha, h0⟩ ?_
  intro a w hI
  obtain ⟨b, σ, h1, h2, h3⟩ := (hM a w hI).1
  refine wpIn_mono (hr b σ w h2 a h1) ?_
  rintro e a' w' ⟨D', σ', h4, h5⟩
  cases e with
  | normal =>
    obtain ⟨rfl, b', h6, h7⟩ := h5
    have hI' : ∃ b σ, Rep N D' σ a' ∧ Inv b σ w' := ⟨b', σ', h4, h6⟩
    refine ⟨hI', Nat.lt_of_le_of_lt ((hM a' w' hI').2 _ ⟨b', σ', h4, h6, rfl⟩) ?_⟩
    rw [← h3]
    exact h7
  | _ => exact ⟨D', σ', h4, h5⟩

theorem CW.region {id : Nat} {l : List Oper} (h : RW r m P N l.toArray l Q D σ w) : CW r m P N (.region id l.toArray false) Q D σ w := fun a ha => wpIn_region_lit (h a ha)
theorem RW.nil {ops : Array Oper} (h : Q .normal D σ w) : RW r m P N ops [] Q D σ w := fun _ ha => wpListIn_nil ⟨D, σ, ha, h⟩

/-! ### One operation -/

/-- What an operation hands back, and the world that it leaves. -/
def Ex (P : Program) (σ : Nat → Value) (op : Op) (ty : TypeId) (w : World) (v : Value) (w' : World) : Prop :=
  ∀ d pos af gd, (execOp (ev σ) ⟨d, op, ty, pos, af, gd⟩).run P w = .ok (.value v) w'

/-- An operation that hands nothing back. -/
def Ex0 (P : Program) (σ : Nat → Value) (op : Op) (ty : TypeId) (w : World) (w' : World) : Prop :=
  ∀ d pos af gd, (execOp (ev σ) ⟨d, op, ty, pos, af, gd⟩).run P w = .ok .skip w'

def isDefer : Op → Bool
  | .defer _ => true
  | _ => false

def gdOk (ops : Array Oper) (σ : Nat → Value) (gd : Option (Nat × Bool)) : Bool :=
  match gd with
  | none => true
  | some (j, want) => match (ops[j]?).bind (·.dst) with
    | some d => match σ d with
      | .bool b => b == want
      | _ => false
    | none => false

theorem wanted_of {ops : Array Oper} {a : Act} (ha : Rep N D σ a) {o : Oper} : Region.wanted o (yielded ops a.tmps) = gdOk ops σ o.guard := by
  unfold Region.wanted gdOk
  cases o.guard with
  | none => rfl
  | some p =>
    obtain ⟨j, want⟩ := p
    simp only [yielded]
    cases hd : (ops[j]?).bind (·.dst) with
    | none => simp
    | some d =>
      have h3 := ha.2.2 d
      rw [Array.getD_eq_getD_getElem?] at h3
      cases ht : a.tmps[d]? with
      | none =>
        rw [ht] at h3
        simp only [Option.getD_none] at h3
        simp only [Option.bind_some, ht, ← h3, undef]
        rfl
      | some v =>
        rw [ht] at h3
        simp only [Option.getD_some] at h3
        simp only [Option.bind_some, ht, ← h3]
        cases v <;> first | rfl | (rename_i b; cases b <;> cases want <;> rfl)

theorem RW.step {ops : Array Oper} {l : List Oper} {d : Option Tmp} {op : Op} {ty : TypeId} {pos : String} {af : Array Edge} {gd : Option (Nat × Bool)} {v : Value} {w' : World} (hx : Ex P σ op ty w v w') (hnd : isDefer op = false) (hg : gdOk ops σ gd = true) (hd : dstOk d N = true)
    (K : RW r m P N ops l Q D (upd σ d v) w') : RW r m P N ops (⟨d, op, ty, pos, af, gd⟩ :: l) Q D σ w :=
  by
  intro a ha
  have hw := wanted_of (ops := ops) ha (o := ⟨d, op, ty, pos, af, gd⟩)
  unfold wpListIn
  rw [hw, if_pos hg]
  refine ⟨fun f _ => trivial, ?_⟩
  have hs : Oper.semAt (FR r).round a.eval ⟨d, op, ty, pos, af, gd⟩ = execOp a.eval ⟨d, op, ty, pos, af, gd⟩ := Oper.semAt_eq _ _ _ (by intro c hc; rw [show op = .defer c from hc] at hnd; cases hnd)
  rw [hs, ha.eval, hx]
  exact K _ (ha.put hd v)

theorem RW.step0 {ops : Array Oper} {l : List Oper} {d : Option Tmp} {op : Op} {ty : TypeId} {pos : String} {af : Array Edge} {gd : Option (Nat × Bool)} {w' : World} (hx : Ex0 P σ op ty w w') (hnd : isDefer op = false) (hg : gdOk ops σ gd = true) (hd : dstOk d N = true)
    (K : RW r m P N ops l Q D (upd σ d undef) w') : RW r m P N ops (⟨d, op, ty, pos, af, gd⟩ :: l) Q D σ w := by
  intro a ha
  have hw := wanted_of (ops := ops) ha (o := ⟨d, op, ty, pos, af, gd⟩)
  unfold wpListIn
  rw [hw, if_pos hg]
  refine ⟨fun f _ => trivial, ?_⟩
  have hs : Oper.semAt (FR r).round a.eval ⟨d, op, ty, pos, af, gd⟩ = execOp a.eval ⟨d, op, ty, pos, af, gd⟩ := Oper.semAt_eq _ _ _ (by intro c hc; rw [show op = .defer c from hc] at hnd; cases hnd)
  rw [hs, ha.eval, hx]
  exact K _ (ha.put hd undef)

theorem RW.pass {ops : Array Oper} {l : List Oper} {d : Option Tmp} {op : Op} {ty : TypeId} {pos : String} {af : Array Edge} {gd : Option (Nat × Bool)} (hg : gdOk ops σ gd = false) (hd : dstOk d N = true)
    (K : RW r m P N ops l Q D (upd σ d undef) w) : RW r m P N ops (⟨d, op, ty, pos, af, gd⟩ :: l) Q D σ w := by
  intro a ha
  have hw := wanted_of (ops := ops) ha (o := ⟨d, op, ty, pos, af, gd⟩)
  unfold wpListIn
  rw [hw, if_neg (by simp [hg])]
  exact ⟨fun f _ => trivial, K _ (ha.put hd undef)⟩

/-- A slot that holds an undecided bool: both ways. -/
theorem RW.split {ops : Array Oper} {l : List Oper} (t : Nat) {p : Prop} [Decidable p] (ht : σ t = .bool (decide p)) (h1 : p → RW r m P N ops l Q D (sl [(t, .bool true)] σ) w) (h2 : ¬ p → RW r m P N ops l Q D (sl [(t, .bool false)] σ) w) : RW r m P N ops l Q D σ w := by
  have hs : ∀ v, σ t = v → sl [(t, v)] σ = σ := by
    intro v hv
    funext s
    show (bif Nat.beq s t then v else σ s) = σ s
    cases hb : Nat.beq s t with
    | true => rw [Nat.eq_of_beq_eq_true hb]; exact hv.symm
    | false => rfl
  by_cases hp : p
  · have := h1 hp
    rwa [hs (.bool true) (by rw [ht, decide_eq_true hp])] at this
  · have := h2 hp
    rwa [hs (.bool false) (by rw [ht, decide_eq_false hp])] at this
end
end Go.Proofs.YtackllehpecfgaaDoor
