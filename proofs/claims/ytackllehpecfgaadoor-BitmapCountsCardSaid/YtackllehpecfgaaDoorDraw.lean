/- A statement whose order Go leaves open: each of its operations is looked at alone, behind those on which it waits; what it hands back does not hang on the rest. The last ones may stand in a forced order. -/
import Derived.Test.YtackllehpecfgaaDoorCalls
namespace Go.Proofs.YtackllehpecfgaaDoor
open Go.RowKit

def hasEdge (ops : Array Oper) (i j : Nat) : Bool := match ops[i]? with
  | some o => o.after.any fun e => Region.binds .any e && Nat.beq e.on j
  | none => false
def dstOf (ops : Array Oper) (i : Nat) : Option Nat := (ops[i]?).bind (·.dst)
def isDst (ops : Array Oper) (i t : Nat) : Bool := match dstOf ops i with
  | some d => Nat.beq d t
  | none => false
/-- Slot t is not written before operation i is done, but by those that it waits for. -/
def freeB (ops : Array Oper) (T i t : Nat) : Bool := (List.range T).all fun j => Nat.beq j i || !(isDst ops j t) || hasEdge ops j i
def sameB (ops : Array Oper) (i j : Nat) : Bool := match dstOf ops i with
  | some d => isDst ops j d
  | none => false
def drawB (ops : Array Oper) (T N : Nat) : Bool :=
  Nat.ble T ops.size &&
  ((List.range ops.size).all fun i => match ops[i]? with
    | some o => (o.after.all fun e => Nat.blt e.on i) && dstOk o.dst N
    | none => true) &&
  ((List.range T).all fun i => (List.range T).all fun j => Nat.beq i j || !(sameB ops i j)) &&
  ((List.range ops.size).all fun i => Nat.blt i T || (List.range i).all fun j => hasEdge ops i j)

section
variable {F : Fence} {n : Nat} {P : Program} {ops : Array Oper} {Q : Exit → Act → World → Prop} {md : Region.Mode}

theorem mem_ready {listed : Array Bool} {i : Nat} : i ∈ Region.ready md ops listed ↔ i < ops.size ∧ listed.getD i true = false ∧ ∀ o, ops[i]? = some o → ∀ e ∈ o.after, Region.binds md e = true → listed.getD e.on false = true := by
  unfold Region.ready
  rw [List.mem_filter, List.mem_range]
  constructor
  · rintro ⟨h1, h2⟩
    rw [Bool.and_eq_true] at h2
    refine ⟨h1, by simpa using h2.1, fun o ho e he hb => ?_⟩
    have h3 := h2.2
    rw [ho] at h3
    simp only [Option.map_some, Option.getD_some] at h3
    have := (Array.all_eq_true_iff_forall_mem.1 h3) e he
    simpa [hb] using this
  · rintro ⟨h1, h2, h3⟩
    refine ⟨h1, ?_⟩
    rw [Bool.and_eq_true]
    refine ⟨by simp [h2], ?_⟩
    rw [Array.getElem?_eq_getElem h1]
    simp only [Option.map_some, Option.getD_some]
    refine Array.all_eq_true_iff_forall_mem.2 fun e he => ?_
    cases hb : Region.binds md e with
    | false => simp
    | true => simp [h3 _ (Array.getElem?_eq_getElem h1) e he hb]

def unlisted (listed : Array Bool) : Nat := (listed.toList.filter (· == false)).length

theorem filter_set_lt : ∀ (l : List Bool) (i : Nat) (hi : i < l.length), l[i] = false → ((l.set i true).filter (· == false)).length < (l.filter (· == false)).length
  | x :: xs, 0, _, h => by
    have hx : x = false := h
    subst hx
    simp
  | x :: xs, i + 1, hi, h => by
    have ih := filter_set_lt xs i (by simpa using hi) (by simpa using h)
    simp only [List.set_cons_succ, List.filter_cons]
    cases x
    · simpa using ih
    · simpa using ih

theorem unlisted_set {listed : Array Bool} {i : Nat} (hi : i < listed.size) (h : listed.getD i true = false) : unlisted (listed.setIfInBounds i true) < unlisted listed := by
  unfold unlisted
  rw [Array.toList_setIfInBounds]
  refine filter_set_lt _ i (by simpa using hi) ?_
  rw [Array.getD_eq_getD_getElem?, Array.getElem?_eq_getElem hi] at h
  simpa using h

theorem wpAnyIn_inv (J : Array Bool → Act → World → Prop) (hend : ∀ listed a w, J listed a w → Region.ready md ops listed = [] → Q .normal a w)
    (hsz : ∀ listed a w, J listed a w → listed.size = ops.size)
    (hstep : ∀ listed a w i, J listed a w → i ∈ Region.ready md ops listed → wpOpIn F n P ops Q i (J (listed.setIfInBounds i true)) a w) :
    ∀ (fuel : Nat) (listed : Array Bool) (a : Act) (w : World), J listed a w → unlisted listed ≤ fuel → wpAnyIn F n P md ops Q fuel listed a w := by
  intro fuel
  induction fuel with
  | zero =>
    intro listed a w hJ hu
    have hr : Region.ready md ops listed = [] := by
      apply List.eq_nil_iff_forall_not_mem.2
      intro i hi
      obtain ⟨h1, h2, _⟩ := mem_ready.1 hi
      have := unlisted_set (by rw [hsz _ _ _ hJ]; exact h1) h2
      omega
    exact ⟨hr, hend _ _ _ hJ hr⟩
  | succ fuel ih =>
    intro listed a w hJ hu
    refine ⟨hend _ _ _ hJ, fun i hi => ?_⟩
    obtain ⟨h1, h2, _⟩ := mem_ready.1 hi
    have := unlisted_set (by rw [hsz _ _ _ hJ]; exact h1) h2
    exact wpOpIn_mono (fun a w h => ih _ a w h (by omega)) (hstep _ _ _ _ hJ hi)

theorem wpOpIn_of_list1 {Q1 : Exit → Act → World → Prop} {i : Nat} {o : Oper} {K : Act → World → Prop} {a : Act} {w : World} (ho : ops[i]? = some o) (h : wpListIn F n P ops Q1 [o] a w) (hK : ∀ a w, Q1 .normal a w → K a w) (hp : ∀ c a w, ¬ Q1 (.panic c) a w) (hl : ¬ LetsOut Q1) : wpOpIn F n P ops Q i K a w := by
  unfold wpListIn at h
  unfold wpOpIn
  rw [ho]
  simp only
  split at h
  · rename_i hw
    rw [if_pos hw]
    refine ⟨h.1, ?_⟩
    have h2 := h.2
    generalize (o.semAt F.round a.eval).run P w = res at h2
    cases res with
    | ok nx w' =>
      cases nx with
      | value v => exact hK _ _ h2
      | skip => exact hK _ _ h2
      | defer d => exact hK _ _ h2
      | enter f args =>
        refine ⟨h2.1, h2.2.mono fun e w'' he => ?_⟩
        cases e with
        | returned v => exact hK _ _ he
        | panicked chain => exact absurd he (hp _ _ _)
        | outgrown => exact absurd he hl
      | row row args => exact ⟨h2.1, h2.2.mono fun v w'' he => hK _ _ he⟩
      | round l f tmps assign body =>
        refine ⟨h2.1, h2.2.mono fun e w'' he => ?_⟩
        cases e with
        | returned v => exact hK _ _ he
        | panicked chain => exact absurd he (hp _ _ _)
        | outgrown => exact absurd he hl
      | _ => exact h2
    | halt x w' =>
      cases x with
      | panic v => exact absurd h2 (hp _ _ _)
      | _ => exact h2
  · rename_i hw
    rw [if_neg hw]
    exact ⟨h.1, hK _ _ h.2⟩

theorem wpOpIn_of_list {i : Nat} {o : Oper} {rest : List Oper} {K : Act → World → Prop} {a : Act} {w : World} (ho : ops[i]? = some o) (h : wpListIn F n P ops Q (o :: rest) a w) (hK : ∀ a w, wpListIn F n P ops Q rest a w → K a w) : wpOpIn F n P ops Q i K a w := by
  unfold wpListIn at h
  unfold wpOpIn
  rw [ho]
  simp only
  split at h
  · rename_i hw
    rw [if_pos hw]
    exact Oper.wpIn_mono hK h
  · rename_i hw
    rw [if_neg hw]
    exact ⟨h.1, hK _ _ h.2⟩
end

/-- Where a single operation must come out. -/
def oneQ (D : List Deferred) (σ : Nat → Value) (d : Option Nat) (R : Value → World → Prop) (e : Exit) (D' : List Deferred) (σ' : Nat → Value) (w : World) : Prop :=
  e = .normal ∧ D' = D ∧ ∃ v, σ' = upd σ d v ∧ R v w

section
variable {r : Option Nat} {md : Nat} {P : Program} {N : Nat} {Q : Exit → List Deferred → (Nat → Value) → World → Prop} {D : List Deferred} {σ : Nat → Value} {w w0 : World} {H0 H : Hp} {L : List Ent}

/-- What one operation of such a statement owes. -/
def OpVC (r : Option Nat) (md : Nat) (P : Program) (N : Nat) (D : List Deferred) (σ : Nat → Value) (w0 : World) (H0 H : Hp) (L : List Ent) (ops : Array Oper) (T : Nat) (V : List (Hp → Value → Prop)) (i : Nat) (o : Oper) (p : Hp → Value → Prop) : Prop :=
  ∀ (H' : Hp) (σ' : Nat → Value) (w' : World), H.le H' → Mem w0 H0 w' H' L → (∀ j d q, hasEdge ops i j = true → dstOf ops j = some d → V[j]? = some q → q H' (σ' d)) → (∀ t, freeB ops T i t = true → σ' t = σ t) →
    RW r md P N ops [o] (oneQ D σ' o.dst fun v w'' => ∃ H'', H'.le H'' ∧ Mem w0 H0 w'' H'' L ∧ p H'' v) D σ' w'

def OpsVC (r : Option Nat) (md : Nat) (P : Program) (N : Nat) (D : List Deferred) (σ : Nat → Value) (w0 : World) (H0 H : Hp) (L : List Ent) (ops : Array Oper) (T : Nat) (V : List (Hp → Value → Prop)) : Nat → List Oper → List (Hp → Value → Prop) → Prop
  | i, o :: os, p :: ps => OpVC r md P N D σ w0 H0 H L ops T V i o p ∧ OpsVC r md P N D σ w0 H0 H L ops T V (i + 1) os ps
  | _, _, _ => True

theorem OpsVC.get {ops : Array Oper} {T : Nat} {V : List (Hp → Value → Prop)} : ∀ (l : List Oper) (ps : List (Hp → Value → Prop)) (k : Nat), OpsVC r md P N D σ w0 H0 H L ops T V k l ps → ∀ i o p, l[i]? = some o → ps[i]? = some p → OpVC r md P N D σ w0 H0 H L ops T V (k + i) o p
  | [], _, _, _, i, o, p, h1, _ => by simp at h1
  | _ :: _, [], _, _, i, o, p, _, h2 => by simp at h2
  | o' :: os, p' :: ps, k, h, i, o, p, h1, h2 => by
    cases i with
    | zero =>
      obtain rfl : o' = o := by simpa using h1
      obtain rfl : p' = p := by simpa using h2
      exact h.1
    | succ i =>
      have := OpsVC.get os ps (k + 1) h.2 i o p (by simpa using h1) (by simpa using h2)
      rwa [show k + 1 + i = k + (i + 1) by omega] at this

theorem CW.draw {id : Nat} {l : List Oper} (T : Nat) (V : List (Hp → Value → Prop)) (hm : P.follows .mixedOrders = true) (hM : Mem w0 H0 w H L) (hchk : drawB l.toArray T N = true) (hlen : V.length = T)
    (hV : ∀ p ∈ V, ∀ A B v, Hp.le A B → p A v → p B v)
    (hop : OpsVC r md P N D σ w0 H0 H L l.toArray T V 0 (l.take T) V)
    (htail : ∀ H' σ' w', H.le H' → Mem w0 H0 w' H' L → (∀ i d p, dstOf l.toArray i = some d → V[i]? = some p → p H' (σ' d)) → (∀ t, ((List.range T).all fun j => !(isDst l.toArray j t)) = true → σ' t = σ t) → RW r md P N l.toArray (l.drop T) Q D σ' w') :
    CW r md P N (.region id l.toArray true) Q D σ w := by
  intro a ha
  simp only [drawB, Bool.and_eq_true, List.all_eq_true, List.mem_range] at hchk
  obtain ⟨⟨⟨hT, hback⟩, hdist⟩, htl⟩ := hchk
  have hT' : T ≤ l.length := by simpa using Nat.le_of_ble_eq_true hT
  have hsize : l.toArray.size = l.length := by simp
  -- the two phases
  let Main : Array Bool → Act → World → Prop := fun ls a w' => (∀ i, T ≤ i → i < l.length → ls.getD i true = false) ∧ (∀ i j, i < l.length → ls.getD i true = true → hasEdge l.toArray i j = true → ls.getD j false = true) ∧
    ∃ σ' H', Rep N D σ' a ∧ H.le H' ∧ Mem w0 H0 w' H' L ∧ (∀ i d p, i < T → ls.getD i false = true → dstOf l.toArray i = some d → V[i]? = some p → p H' (σ' d)) ∧ (∀ t, (∀ i, i < T → ls.getD i false = true → dstOf l.toArray i ≠ some t) → σ' t = σ t)
  let Tail : Array Bool → Act → World → Prop := fun ls a w' => ∃ k, T ≤ k ∧ k ≤ l.length ∧ (∀ i, i < l.length → ls.getD i true = decide (i < k)) ∧ wpListIn (FR r) md P l.toArray (lift N Q) (l.drop k) a w'
  have hprog : ∀ ls : Array Bool, ls.size = l.length → Region.ready .any l.toArray ls = [] → ∀ i, i < l.length → ls.getD i true = true := by
    intro ls hs hr i
    induction i using Nat.strongRecOn with
    | _ i ih =>
      intro hi
      cases hx : ls.getD i true with
      | true => rfl
      | false =>
        have : i ∈ Region.ready .any l.toArray ls := by
          refine mem_ready.2 ⟨by simpa using hi, hx, fun o ho e he hb => ?_⟩
          have h1 := hback i (by simpa using hi)
          rw [ho] at h1
          simp only [Bool.and_eq_true] at h1
          have h2 := (Array.all_eq_true_iff_forall_mem.1 h1.1) e he
          have h3 : e.on < i := by simpa [Nat.blt_eq] using h2
          have h4 := ih e.on h3 (by omega)
          rw [Array.getD_eq_getD_getElem?] at h4 ⊢
          rw [Array.getElem?_eq_getElem (by omega)] at h4 ⊢
          exact h4
        rw [hr] at this
        simp at this
  have hfull : ∀ (ls : Array Bool) (a : Act) (w' : World), Main ls a w' → ls.size = l.length → (∀ i, i < T → ls.getD i false = true) → wpListIn (FR r) md P l.toArray (lift N Q) (l.drop T) a w' := by
    intro ls a w' ⟨_, _, σ', H', h1, h2, h3, h4, h5⟩ hs hall
    refine htail H' σ' w' h2 h3 (fun i d p hd hp => ?_) (fun t ht => ?_) a h1
    · have hi : i < T := by rw [← hlen]; exact (List.getElem?_eq_some_iff.1 hp).1
      exact h4 i d p hi (hall i hi) hd hp
    · refine h5 t fun i hi _ hd => ?_
      have := (List.all_eq_true.1 ht) i (List.mem_range.2 hi)
      simp [isDst, hd, Nat.beq_refl] at this
  refine wpIn_region_any hm (wpAnyIn_inv (fun ls a w' => ls.size = l.length ∧ (Main ls a w' ∨ Tail ls a w')) ?_ ?_ ?_ _ _ _ _ ?_ ?_)
  · -- the end
    intro ls a w' ⟨hs, hJ⟩ hr
    have hall := hprog ls hs hr
    have hgetD : ∀ i, i < l.length → ls.getD i false = true := fun i hi => by
      have := hall i hi
      rw [Array.getD_eq_getD_getElem?, Array.getElem?_eq_getElem (by omega)] at this ⊢
      exact this
    rcases hJ with hJ | ⟨k, hk1, hk2, hk3, hk4⟩
    · have hTn : T = l.length := by
        rcases Nat.lt_or_ge T l.length with h | h
        · have h1 := hJ.1 T (Nat.le_refl _) h
          rw [hall T h] at h1; cases h1
        · omega
      have h1 := hfull ls a w' hJ hs fun i hi => hgetD i (by omega)
      rw [hTn, List.drop_length] at h1
      exact h1
    · have : k = l.length := by
        rcases Nat.lt_or_ge k l.length with h | h
        · have h1 := hk3 k h
          rw [hall k h] at h1; simp at h1
        · omega
      rw [this, List.drop_length] at hk4
      exact hk4
  · intro ls a w' h; simpa using h.1
  · -- one operation
    intro ls a w' i ⟨hs, hJ⟩ hi
    obtain ⟨hi1, hi2, hi3⟩ := mem_ready.1 hi
    have hil : i < l.length := by simpa using hi1
    have hget : l.toArray[i]? = some l[i] := by simp [hil]
    have hedge : ∀ j, hasEdge l.toArray i j = true → ls.getD j false = true := by
      intro j hj
      rw [hasEdge, hget] at hj
      simp only [← Array.any_toList, List.any_eq_true, Bool.and_eq_true] at hj
      obtain ⟨e, he, hb, hon⟩ := hj
      have := hi3 _ hget e (Array.mem_toList_iff.1 he) hb
      rwa [Nat.eq_of_beq_eq_true hon] at this
    have hset : ∀ (j : Nat) (b : Bool), (ls.setIfInBounds i true).getD j b = if j = i then true else ls.getD j b := by
      intro j b
      rw [Array.getD_eq_getD_getElem?, Array.getD_eq_getD_getElem?, Array.getElem?_setIfInBounds]
      by_cases h : j = i
      · subst h; simp [hs, hil]
      · rw [if_neg (by omega), if_neg h]
    have hlist : ∀ j b, j < l.length → ls.getD j b = ls.getD j true := by
      intro j b hj
      rw [Array.getD_eq_getD_getElem?, Array.getD_eq_getD_getElem?, Array.getElem?_eq_getElem (by omega)]
      rfl
    have toTail : ∀ (k : Nat), T ≤ k → k < l.length → i = k → (∀ j, j < l.length → ls.getD j true = decide (j < k)) → wpListIn (FR r) md P l.toArray (lift N Q) (l.drop k) a w' → wpOpIn (FR r) md P l.toArray (lift N Q) i (fun a w' => (ls.setIfInBounds i true).size = l.length ∧ (Main (ls.setIfInBounds i true) a w' ∨ Tail (ls.setIfInBounds i true) a w')) a w' := by
      intro k hk1 hk2 hik hk3 hk4
      subst hik
      rw [List.drop_eq_getElem_cons hk2] at hk4
      refine wpOpIn_of_list hget hk4 fun a w' h => ⟨by simpa using hs, .inr ⟨i + 1, by omega, by omega, fun j hj => ?_, h⟩⟩
      rw [hset, hk3 j hj]
      by_cases h2 : j = i
      · simp [h2]
      · rw [if_neg h2]; congr 1; exact propext ⟨fun _ => by omega, fun _ => by omega⟩
    rcases hJ with hJ | ⟨k, hk1, hk2, hk3, hk4⟩
    · rcases Nat.lt_or_ge i T with hiT | hiT
      · -- a free one
        have hJ' := hJ
        obtain ⟨hA, hB, σ', H', h1, h2, h3, h4, h5⟩ := hJ
        obtain ⟨p, hp⟩ : ∃ p, V[i]? = some p := ⟨V[i]'(by omega), List.getElem?_eq_getElem (by omega)⟩
        have hot : (l.take T)[i]? = some l[i] := by rw [List.getElem?_take_of_lt hiT]; exact List.getElem?_eq_getElem hil
        have hvc := OpsVC.get (l.take T) V 0 hop i l[i] p hot hp
        rw [Nat.zero_add] at hvc
        have hlt : ∀ j q, V[j]? = some q → j < T := fun j q hq => by rw [← hlen]; exact (List.getElem?_eq_some_iff.1 hq).1
        have hrun := hvc H' σ' w' h2 h3 (fun j d q hj hd hq => h4 j d q (hlt j q hq) (hedge j hj) hd hq) (fun t ht => by
          refine h5 t fun j hj hlj hdj => ?_
          have h6 := (List.all_eq_true.1 ht) j (List.mem_range.2 hj)
          have h7 : isDst l.toArray j t = true := by simp [isDst, hdj, Nat.beq_refl]
          simp only [h7, Bool.not_true, Bool.or_false, Bool.or_eq_true] at h6
          rcases h6 with h6 | h6
          · have := Nat.eq_of_beq_eq_true h6
            subst this
            rw [hlist j false hil] at hlj
            rw [hlj] at hi2; cases hi2
          · have := hB j i (by omega) (by rw [← hlist j false (by omega)]; exact hlj) h6
            rw [hlist i false hil, hi2] at this; cases this) a h1
        refine wpOpIn_of_list1 hget hrun (fun a' w'' hq => ?_) (fun c a' w'' hq => ?_) (fun hq => ?_)
        · obtain ⟨D', σ'', hr1, _, rfl, v, rfl, H'', hle, hM'', hpv⟩ := hq
          refine ⟨by simpa using hs, .inl ⟨fun j hj hjl => ?_, fun j k hj hlj hek => ?_, _, H'', hr1, h2.trans hle, hM'', fun j d q hj hlj hd hq => ?_, fun t ht => ?_⟩⟩
          · rw [hset, if_neg (by omega)]; exact hA j hj hjl
          · rw [hset] at hlj ⊢
            by_cases hk : k = i
            · simp [hk]
            · rw [if_neg hk]
              by_cases hji : j = i
              · subst hji; exact hedge k hek
              · rw [if_neg hji] at hlj; exact hB j k hj hlj hek
          · by_cases hji : j = i
            · subst hji
              have : q = p := by rw [hp] at hq; exact (Option.some.inj hq).symm
              subst this
              have hd2 : l[j].dst = some d := by simpa [dstOf, hget] using hd
              rw [hd2]
              show q H'' (bif Nat.beq d d then v else σ' d)
              rw [Nat.beq_refl]
              exact hpv
            · rw [hset, if_neg hji] at hlj
              have hq2 := h4 j d q hj hlj hd hq
              have hne : l[i].dst ≠ some d := by
                intro e
                have h6 := hdist i (by omega) j hj
                have hdi : dstOf l.toArray i = some d := by rw [dstOf, hget]; exact e
                have h7 : sameB l.toArray i j = true := by
                  rw [sameB, hdi]
                  show isDst l.toArray j d = true
                  rw [isDst, hd]
                  exact Nat.beq_refl d
                simp only [h7, Bool.not_true, Bool.or_false] at h6
                exact hji (Nat.eq_of_beq_eq_true h6).symm
              have hsame : upd σ' l[i].dst v d = σ' d := by
                cases hx : l[i].dst with
                | none => rfl
                | some d' =>
                  have : d ≠ d' := by rintro rfl; exact hne hx
                  show (bif Nat.beq d d' then v else σ' d) = σ' d
                  cases hb : Nat.beq d d' with
                  | true => exact absurd (Nat.eq_of_beq_eq_true hb) this
                  | false => rfl
              rw [hsame]
              exact hV q (List.mem_of_getElem? hq) _ _ _ hle hq2
          · have hne : l[i].dst ≠ some t := by
              have := ht i hiT (by rw [hset, if_pos rfl])
              simpa [dstOf, hget] using this
            have hsame : upd σ' l[i].dst v t = σ' t := by
              cases hx : l[i].dst with
              | none => rfl
              | some d' =>
                have : t ≠ d' := by rintro rfl; exact hne hx
                show (bif Nat.beq t d' then v else σ' t) = σ' t
                cases hb : Nat.beq t d' with
                | true => exact absurd (Nat.eq_of_beq_eq_true hb) this
                | false => rfl
            rw [hsame]
            refine h5 t fun j hj hlj => ht j hj ?_
            rw [hset]
            split
            · rfl
            · exact hlj
        · obtain ⟨_, _, _, hn, _⟩ := hq
          cases hn
        · obtain ⟨_, _, _, _, _, hn, _⟩ := hq
          cases hn
      · -- the first of the forced ones
        have hiT2 : i = T := by
          rcases Nat.lt_or_ge T i with h | h
          · have h6 := htl i (by simpa using hil)
            have h7 : Nat.blt i T = false := by
              cases hb : Nat.blt i T with
              | true => exact absurd (show i < T by simpa [Nat.blt_eq] using hb) (by omega)
              | false => rfl
            rw [h7, Bool.false_or, List.all_eq_true] at h6
            have h8 := hedge T (h6 T (List.mem_range.2 h))
            have h9 := hJ.1 T (Nat.le_refl _) (by omega)
            rw [hlist T false (by omega), h9] at h8; cases h8
          · omega
        have h6 := htl i (by simpa using hil)
        have h7 : Nat.blt i T = false := by
          cases hb : Nat.blt i T with
          | true => exact absurd (show i < T by simpa [Nat.blt_eq] using hb) (by omega)
          | false => rfl
        rw [h7, Bool.false_or, List.all_eq_true] at h6
        have hall : ∀ j, j < T → ls.getD j false = true := fun j hj => hedge j (h6 j (List.mem_range.2 (by omega)))
        refine toTail T (Nat.le_refl _) (by omega) hiT2 (fun j hj => ?_) (hfull ls a w' hJ hs hall)
        by_cases h8 : j < T
        · rw [← hlist j false hj, hall j h8]; simp [h8]
        · rw [hJ.1 j (by omega) hj]; simp [h8]
    · -- a forced one
      have hik : i = k := by
        rcases Nat.lt_or_ge i k with h | h
        · have h1 := hk3 i hil
          rw [hi2] at h1; simp at h1; omega
        · rcases Nat.lt_or_ge k i with h2 | h2
          · have h6 := htl i (by simpa using hil)
            have h7 : Nat.blt i T = false := by
              cases hb : Nat.blt i T with
              | true => exact absurd (show i < T by simpa [Nat.blt_eq] using hb) (by omega)
              | false => rfl
            rw [h7, Bool.false_or, List.all_eq_true] at h6
            have h8 := hedge k (h6 k (List.mem_range.2 h2))
            rw [hlist k false (by omega), hk3 k (by omega)] at h8
            simp at h8
          · omega
      exact toTail k hk1 (by omega) hik hk3 hk4
  · -- the start
    have hg : ∀ i (b : Bool), i < l.length → (Array.replicate l.toArray.size false).getD i b = false := by
      intro i b hi
      rw [Array.getD_eq_getD_getElem?]
      simp [hi]
    have hg2 : ∀ i, (Array.replicate l.toArray.size false).getD i false = false := by
      intro i
      rw [Array.getD_eq_getD_getElem?]
      simp only [Array.getElem?_replicate]
      split <;> rfl
    refine ⟨by simp, .inl ⟨fun i _ hi => hg i true hi, (fun i j hi h => by rw [hg i true hi] at h; cases h), σ, H, ha, Hp.le.refl _, hM.drew, fun i d p _ h => ?_, fun t _ => rfl⟩⟩
    rw [hg2] at h; cases h
  · unfold unlisted
    exact Nat.le_trans (List.length_filter_le _ _) (by simp)
end
end Go.Proofs.YtackllehpecfgaaDoor
