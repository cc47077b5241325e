/- Statements whose order is open, with operations that make memory. -/
import Derived.Test.YtackllehpecfgaaDoorDraw
namespace Go.Proofs.YtackllehpecfgaaDoor
open Go.RowKit
/-! ### Operations that make memory of the call's own -/
def atB (eat : Nat → Option Nat) (k i : Nat) : Bool := match eat k with
  | some j => Nat.beq j i
  | none => false
def eatB (ops : Array Oper) (T : Nat) (eat : Nat → Option Nat) : Bool := (List.range T).all fun k => match eat k with
  | none => true
  | some j => Nat.blt j T && hasEdge ops k j && (dstOf ops j).isSome && (List.range T).all fun k' => Nat.beq k' k || !(atB eat k' j)

def flatX (X : Nat → List Ent) (T : Nat) : List Ent := (List.range T).flatMap X
def setX (X : Nat → List Ent) (i : Nat) (E : List Ent) (j : Nat) : List Ent := if j = i then E else X j

theorem flatMap_congr' {f g : Nat → List Ent} : ∀ (l : List Nat), (∀ x ∈ l, f x = g x) → l.flatMap f = l.flatMap g
  | [], _ => rfl
  | x :: l, h => by rw [List.flatMap_cons, List.flatMap_cons, h x (by simp), flatMap_congr' l fun y hy => h y (by simp [hy])]

theorem flatX_perm (X : Nat → List Ent) {i T : Nat} (hi : i < T) (E : List Ent) : (flatX (setX X i E) T).Perm (E ++ flatX (setX X i []) T) := by
  induction T with
  | zero => omega
  | succ T ih =>
    unfold flatX at *
    rw [List.range_succ, List.flatMap_append, List.flatMap_append]
    by_cases h : i = T
    · subst h
      have e : ∀ (E' : List Ent), (List.range i).flatMap (setX X i E') = (List.range i).flatMap X := by
        intro E'
        apply flatMap_congr'
        intro j hj
        have := List.mem_range.1 hj
        simp [setX, show j ≠ i by omega]
      rw [e, e]
      simp only [List.flatMap_cons, List.flatMap_nil, setX, if_true, List.append_nil]
      exact List.perm_append_comm
    · have h1 : i < T := by omega
      have e : ∀ (E' : List Ent), [T].flatMap (setX X i E') = X T := by
        intro E'
        simp [setX, show T ≠ i by omega]
      rw [e, e]
      have := (ih h1).append_right (X T)
      rwa [List.append_assoc] at this

theorem Mem.perm {w0 w : World} {H0 H : Hp} {L L' : List Ent} (h : Mem w0 H0 w H L) (hp : L.Perm L') : Mem w0 H0 w H L' :=
  ⟨h.below, h.old, h.fresh, h.agree, fun E hE => h.holds E (hp.mem_iff.2 hE), hp.pairwise h.apart (fun h b h1 h2 => h b h2 h1), fun E hE => h.hapart E (hp.mem_iff.2 hE)⟩

section
variable {r : Option Nat} {md : Nat} {P : Program} {N : Nat} {Q : Exit → List Deferred → (Nat → Value) → World → Prop} {D : List Deferred} {σ : Nat → Value} {w w0 : World} {H0 H : Hp} {L : List Ent}

def gV (V : List (Hp → Value → List Ent → Prop)) (i : Nat) (H : Hp) (v : Value) (E : List Ent) : Prop := ∃ p, V[i]? = some p ∧ p H v E

theorem gV.get {V : List (Hp → Value → List Ent → Prop)} {i : Nat} {H : Hp} {v : Value} {E : List Ent} {q : Hp → Value → List Ent → Prop} (h : gV V i H v E) (hq : V[i]? = some q) : q H v E := by
  obtain ⟨p, h1, h2⟩ := h
  rw [h1] at hq
  cases hq
  exact h2

/-- What one operation owes: it eats what operation 'eat' made, and leaves what it makes. -/
def OpVG (r : Option Nat) (md : Nat) (P : Program) (N : Nat) (D : List Deferred) (σ : Nat → Value) (w0 : World) (H0 H : Hp) (L : List Ent) (ops : Array Oper) (T : Nat) (V : List (Hp → Value → List Ent → Prop)) (eat : Option Nat) (i : Nat) (o : Oper) (p : Hp → Value → List Ent → Prop) : Prop :=
  ∀ (H' : Hp) (σ' : Nat → Value) (w' : World) (R E : List Ent), H.le H' → Mem w0 H0 w' H' (E ++ (R ++ L)) → (eat = none → E = []) → (∀ j d, eat = some j → dstOf ops j = some d → gV V j H' (σ' d) E) →
    (∀ j d, hasEdge ops i j = true → dstOf ops j = some d → ∃ E', gV V j H' (σ' d) E') → (∀ t, freeB ops T i t = true → σ' t = σ t) →
    RW r md P N ops [o] (oneQ D σ' o.dst fun v w'' => ∃ H'' E', H'.le H'' ∧ Mem w0 H0 w'' H'' (E' ++ (R ++ L)) ∧ p H'' v E') D σ' w'

def OpsVG (r : Option Nat) (md : Nat) (P : Program) (N : Nat) (D : List Deferred) (σ : Nat → Value) (w0 : World) (H0 H : Hp) (L : List Ent) (ops : Array Oper) (T : Nat) (V : List (Hp → Value → List Ent → Prop)) (eat : Nat → Option Nat) : Nat → List Oper → List (Hp → Value → List Ent → Prop) → Prop
  | i, o :: os, p :: ps => OpVG r md P N D σ w0 H0 H L ops T V (eat i) i o p ∧ OpsVG r md P N D σ w0 H0 H L ops T V eat (i + 1) os ps
  | _, _, _ => True

theorem OpsVG.get {ops : Array Oper} {T : Nat} {V : List (Hp → Value → List Ent → Prop)} {eat : Nat → Option Nat} : ∀ (l : List Oper) (ps : List (Hp → Value → List Ent → Prop)) (k : Nat), OpsVG r md P N D σ w0 H0 H L ops T V eat k l ps → ∀ i o p, l[i]? = some o → ps[i]? = some p → OpVG r md P N D σ w0 H0 H L ops T V (eat (k + i)) (k + i) o p
  | [], _, _, _, i, o, p, h1, _ => by simp at h1
  | _ :: _, [], _, _, i, o, p, _, h2 => by simp at h2
  | o' :: os, p' :: ps, k, h, i, o, p, h1, h2 => by
    cases i with
    | zero =>
      obtain rfl : o' = o := by simpa using h1
      obtain rfl : p' = p := by simpa using h2
      exact h.1
    | succ i =>
      have := OpsVG.get os ps (k + 1) h.2 i o p (by simpa using h1) (by simpa using h2)
      rwa [show k + 1 + i = k + (i + 1) by omega] at this

theorem CW.drawG {id : Nat} {l : List Oper} (T : Nat) (V : List (Hp → Value → List Ent → Prop)) (eat : Nat → Option Nat) (hm : P.follows .mixedOrders = true) (hM : Mem w0 H0 w H L) (hchk : drawB l.toArray T N = true) (heat : eatB l.toArray T eat = true) (hlen : V.length = T)
    (hV : ∀ p ∈ V, ∀ A B v E, Hp.le A B → p A v E → p B v E)
    (hop : OpsVG r md P N D σ w0 H0 H L l.toArray T V eat 0 (l.take T) V)
    (htail : ∀ H' σ' w' (X : Nat → List Ent), H.le H' → Mem w0 H0 w' H' (flatX X T ++ L) → (∀ i d, i < T → dstOf l.toArray i = some d → ∃ E, gV V i H' (σ' d) E ∧ (X i = if (List.range T).any (fun k => atB eat k i) then [] else E)) → (∀ t, ((List.range T).all fun j => !(isDst l.toArray j t)) = true → σ' t = σ t) → RW r md P N l.toArray (l.drop T) Q D σ' w')
    (hdst : ((List.range T).all fun i => (dstOf l.toArray i).isSome) = true) :
    CW r md P N (.region id l.toArray true) Q D σ w := by
  intro a ha
  simp only [drawB, Bool.and_eq_true, List.all_eq_true, List.mem_range] at hchk
  obtain ⟨⟨⟨hT, hback⟩, hdist⟩, htl⟩ := hchk
  simp only [List.all_eq_true, List.mem_range] at hdst
  have heat' : ∀ k j, k < T → eat k = some j → j < T ∧ hasEdge l.toArray k j = true ∧ ∀ k', k' < T → eat k' = some j → k' = k := by
    intro k j hk he
    have h := (List.all_eq_true.1 heat) k (List.mem_range.2 hk)
    rw [he] at h
    simp only [Bool.and_eq_true, List.all_eq_true, List.mem_range] at h
    obtain ⟨⟨⟨h1, h2⟩, _⟩, h3⟩ := h
    refine ⟨by simpa [Nat.blt_eq] using h1, h2, fun k' hk' he' => ?_⟩
    have h4 := h3 k' hk'
    simp only [atB, he', Nat.beq_refl, Bool.not_true, Bool.or_false] at h4
    exact Nat.eq_of_beq_eq_true h4
  have hT' : T ≤ l.length := by simpa using Nat.le_of_ble_eq_true hT
  have gmono : ∀ i A B v E, Hp.le A B → gV V i A v E → gV V i B v E := fun i A B v E hle ⟨p, h1, h2⟩ => ⟨p, h1, hV p (List.mem_of_getElem? h1) _ _ _ _ hle h2⟩
  let Main : Array Bool → Act → World → Prop := fun ls a w' => (∀ i, T ≤ i → i < l.length → ls.getD i true = false) ∧ (∀ i j, i < l.length → ls.getD i true = true → hasEdge l.toArray i j = true → ls.getD j false = true) ∧
    ∃ σ' H' X, Rep N D σ' a ∧ H.le H' ∧ Mem w0 H0 w' H' (flatX X T ++ L) ∧ (∀ i d, i < T → ls.getD i false = true → dstOf l.toArray i = some d → ∃ E, gV V i H' (σ' d) E ∧ ((X i = E ∧ ∀ k, k < T → ls.getD k false = true → eat k ≠ some i) ∨ (X i = [] ∧ ∃ k, k < T ∧ ls.getD k false = true ∧ eat k = some i))) ∧
      (∀ i, i < T → ls.getD i false = false → X i = []) ∧ (∀ t, (∀ i, i < T → ls.getD i false = true → dstOf l.toArray i ≠ some t) → σ' t = σ t)
  let Tail : Array Bool → Act → World → Prop := fun ls a w' => ∃ k, T ≤ k ∧ k ≤ l.length ∧ (∀ i, i < l.length → ls.getD i true = decide (i < k)) ∧ wpListIn (FR r) md P l.toArray (lift N Q) (l.drop k) a w'
  have hprog : ∀ ls : Array Bool, ls.size = l.length → Region.ready .any l.toArray ls = [] → ∀ i, i < l.length → ls.getD i true = true := by
    intro ls hs hr i
    induction i using Nat.strongRecOn with
    | _ i ih =>
      intro hi
      cases hx : ls.getD i true with
      | true => rfl
      | false =>
        have : i ∈ Region.ready .any l.toArray ls := by
          refine mem_ready.2 ⟨by simpa using hi, hx, fun o ho e he hb => ?_⟩
          have h1 := hback i (by simpa using hi)
          rw [ho] at h1
          simp only [Bool.and_eq_true] at h1
          have h2 := (Array.all_eq_true_iff_forall_mem.1 h1.1) e he
          have h3 : e.on < i := by simpa [Nat.blt_eq] using h2
          have h4 := ih e.on h3 (by omega)
          rw [Array.getD_eq_getD_getElem?] at h4 ⊢
          rw [Array.getElem?_eq_getElem (by omega)] at h4 ⊢
          exact h4
        rw [hr] at this
        simp at this
  have hfull : ∀ (ls : Array Bool) (a : Act) (w' : World), Main ls a w' → ls.size = l.length → (∀ i, i < T → ls.getD i false = true) → wpListIn (FR r) md P l.toArray (lift N Q) (l.drop T) a w' := by
    intro ls a w' ⟨_, _, σ', H', X, h1, h2, h3, h4, _, h5⟩ hs hall
    refine htail H' σ' w' X h2 h3 (fun i d hi hd => ?_) (fun t ht => ?_) a h1
    · obtain ⟨E, hE, hX⟩ := h4 i d hi (hall i hi) hd
      refine ⟨E, hE, ?_⟩
      rcases hX with ⟨hX, hno⟩ | ⟨hX, k, hk, _, hek⟩
      · rw [if_neg, hX]
        intro hany
        obtain ⟨k, hk, hek⟩ := List.any_eq_true.1 hany
        have hk' := List.mem_range.1 hk
        unfold atB at hek
        split at hek
        · rename_i j hj
          exact hno k hk' (hall k hk') (by rw [hj, Nat.eq_of_beq_eq_true hek])
        · cases hek
      · rw [if_pos, hX]
        exact List.any_eq_true.2 ⟨k, List.mem_range.2 hk, by simp [atB, hek, Nat.beq_refl]⟩
    · refine h5 t fun i hi _ hd => ?_
      have := (List.all_eq_true.1 ht) i (List.mem_range.2 hi)
      simp [isDst, hd, Nat.beq_refl] at this
  refine wpIn_region_any hm (wpAnyIn_inv (fun ls a w' => ls.size = l.length ∧ (Main ls a w' ∨ Tail ls a w')) ?_ ?_ ?_ _ _ _ _ ?_ ?_)
  · intro ls a w' ⟨hs, hJ⟩ hr
    have hall := hprog ls hs hr
    have hgetD : ∀ i, i < l.length → ls.getD i false = true := fun i hi => by
      have := hall i hi
      rw [Array.getD_eq_getD_getElem?, Array.getElem?_eq_getElem (by omega)] at this ⊢
      exact this
    rcases hJ with hJ | ⟨k, hk1, hk2, hk3, hk4⟩
    · have hTn : T = l.length := by
        rcases Nat.lt_or_ge T l.length with h | h
        · have h1 := hJ.1 T (Nat.le_refl _) h
          rw [hall T h] at h1; cases h1
        · omega
      have h1 := hfull ls a w' hJ hs fun i hi => hgetD i (by omega)
      rw [hTn, List.drop_length] at h1
      exact h1
    · have : k = l.length := by
        rcases Nat.lt_or_ge k l.length with h | h
        · have h1 := hk3 k h
          rw [hall k h] at h1; simp at h1
        · omega
      rw [this, List.drop_length] at hk4
      exact hk4
  · intro ls a w' h; simpa using h.1
  · intro ls a w' i ⟨hs, hJ⟩ hi
    obtain ⟨hi1, hi2, hi3⟩ := mem_ready.1 hi
    have hil : i < l.length := by simpa using hi1
    have hget : l.toArray[i]? = some l[i] := by simp [hil]
    have hedge : ∀ j, hasEdge l.toArray i j = true → ls.getD j false = true := by
      intro j hj
      rw [hasEdge, hget] at hj
      simp only [← Array.any_toList, List.any_eq_true, Bool.and_eq_true] at hj
      obtain ⟨e, he, hb, hon⟩ := hj
      have := hi3 _ hget e (Array.mem_toList_iff.1 he) hb
      rwa [Nat.eq_of_beq_eq_true hon] at this
    have hset : ∀ (j : Nat) (b : Bool), (ls.setIfInBounds i true).getD j b = if j = i then true else ls.getD j b := by
      intro j b
      rw [Array.getD_eq_getD_getElem?, Array.getD_eq_getD_getElem?, Array.getElem?_setIfInBounds]
      by_cases h : j = i
      · subst h; simp [hs, hil]
      · rw [if_neg (by omega), if_neg h]
    have hlist : ∀ j b, j < l.length → ls.getD j b = ls.getD j true := by
      intro j b hj
      rw [Array.getD_eq_getD_getElem?, Array.getD_eq_getD_getElem?, Array.getElem?_eq_getElem (by omega)]
      rfl
    have toTail : ∀ (k : Nat), T ≤ k → k < l.length → i = k → (∀ j, j < l.length → ls.getD j true = decide (j < k)) → wpListIn (FR r) md P l.toArray (lift N Q) (l.drop k) a w' → wpOpIn (FR r) md P l.toArray (lift N Q) i (fun a w' => (ls.setIfInBounds i true).size = l.length ∧ (Main (ls.setIfInBounds i true) a w' ∨ Tail (ls.setIfInBounds i true) a w')) a w' := by
      intro k hk1 hk2 hik hk3 hk4
      subst hik
      rw [List.drop_eq_getElem_cons hk2] at hk4
      refine wpOpIn_of_list hget hk4 fun a w' h => ⟨by simpa using hs, .inr ⟨i + 1, by omega, by omega, fun j hj => ?_, h⟩⟩
      rw [hset, hk3 j hj]
      by_cases h2 : j = i
      · simp [h2]
      · rw [if_neg h2]; congr 1; exact propext ⟨fun _ => by omega, fun _ => by omega⟩
    rcases hJ with hJ | ⟨k, hk1, hk2, hk3, hk4⟩
    · rcases Nat.lt_or_ge i T with hiT | hiT
      · obtain ⟨hA, hB, σ', H', X, h1, h2, h3, h4, h4b, h5⟩ := hJ
        obtain ⟨p, hp⟩ : ∃ p, V[i]? = some p := ⟨V[i]'(by omega), List.getElem?_eq_getElem (by omega)⟩
        have hot : (l.take T)[i]? = some l[i] := by rw [List.getElem?_take_of_lt hiT]; exact List.getElem?_eq_getElem hil
        have hvc := OpsVG.get (l.take T) V 0 hop i l[i] p hot hp
        rw [Nat.zero_add] at hvc
        have hiF : ls.getD i false = false := by rw [hlist i false hil, hi2]
        -- what is eaten, and the rest
        obtain ⟨E, R, hER, hE0, hE1, hXR⟩ : ∃ E R, Mem w0 H0 w' H' (E ++ (R ++ L)) ∧ (eat i = none → E = []) ∧ (∀ j d, eat i = some j → dstOf l.toArray j = some d → gV V j H' (σ' d) E) ∧ ∃ X', (∀ E', (flatX (setX X' i E') T).Perm (E' ++ R)) ∧ X' i = [] ∧ ∀ j, X' j = if eat i = some j then [] else X j := by
          cases he : eat i with
          | none =>
            refine ⟨[], flatX X T, h3, fun _ => rfl, (fun j d hj _ => by cases hj), X, fun E' => ?_, h4b i hiT hiF, fun j => by simp⟩
            have hp1 := flatX_perm X hiT E'
            have e : setX X i [] = X := by
              funext j
              unfold setX
              split
              · rename_i hj; subst hj; exact (h4b j hiT hiF).symm
              · rfl
            rwa [e] at hp1
          | some j =>
            obtain ⟨hjT, hej, huniq⟩ := heat' i j hiT he
            have hjl := hedge j hej
            obtain ⟨dj, hdj⟩ := Option.isSome_iff_exists.1 (hdst j hjT)
            obtain ⟨E, hE, hXj⟩ := h4 j dj hjT hjl hdj
            have hXj' : X j = E := by
              rcases hXj with ⟨h, _⟩ | ⟨_, k, hk, hlk, hek⟩
              · exact h
              · have := huniq k hk hek
                subst this
                rw [hiF] at hlk; cases hlk
            have hne : i ≠ j := by
              intro e
              subst e
              rw [hiF] at hjl; cases hjl
            refine ⟨E, flatX (setX X j []) T, ?_, (fun h => by cases h), fun j' d hj' hd' => ?_, setX X j [], fun E' => ?_, ?_, fun k => ?_⟩
            · have hp1 := flatX_perm X hjT E
              have e : setX X j E = X := by
                funext k
                unfold setX
                split
                · rename_i hk; subst hk; exact hXj'.symm
                · rfl
              rw [e] at hp1
              have := h3.perm (hp1.append_right L)
              rwa [List.append_assoc] at this
            · cases hj'
              rw [hdj] at hd'
              cases hd'
              exact hE
            · have hp1 := flatX_perm (setX X j []) hiT E'
              have e : setX (setX X j []) i [] = setX X j [] := by
                funext k
                unfold setX
                split
                · rename_i hk; subst hk
                  rw [if_neg hne]; exact (h4b k hiT hiF).symm
                · rfl
              rwa [e] at hp1
            · unfold setX; rw [if_neg hne]; exact h4b i hiT hiF
            · unfold setX
              by_cases hk : k = j
              · subst hk; simp
              · rw [if_neg hk, if_neg (by simp; omega)]
        obtain ⟨X', hperm, hX'i, hX'⟩ := hXR
        have hrun := hvc H' σ' w' R E h2 hER hE0 hE1 (fun j d hj hd => by
            have hjT : j < T := by
              rcases Nat.lt_or_ge j T with h | h
              · exact h
              · have hjl := hedge j hj
                have : j < i := by
                  have h1' := hback i (by simpa using hil)
                  rw [hget] at h1'
                  simp only [Bool.and_eq_true] at h1'
                  rw [hasEdge, hget] at hj
                  simp only [← Array.any_toList, List.any_eq_true, Bool.and_eq_true] at hj
                  obtain ⟨e, he, hb, hon⟩ := hj
                  have h2' := (Array.all_eq_true_iff_forall_mem.1 h1'.1) e (Array.mem_toList_iff.1 he)
                  have : e.on < i := by simpa [Nat.blt_eq] using h2'
                  rwa [Nat.eq_of_beq_eq_true hon] at this
                omega
            obtain ⟨E', hE', _⟩ := h4 j d hjT (hedge j hj) hd
            exact ⟨E', hE'⟩) (fun t ht => by
          refine h5 t fun j hj hlj hdj => ?_
          have h6 := (List.all_eq_true.1 ht) j (List.mem_range.2 hj)
          have h7 : isDst l.toArray j t = true := by simp [isDst, hdj, Nat.beq_refl]
          simp only [h7, Bool.not_true, Bool.or_false, Bool.or_eq_true] at h6
          rcases h6 with h6 | h6
          · have := Nat.eq_of_beq_eq_true h6
            subst this
            rw [hiF] at hlj; cases hlj
          · have := hB j i (by omega) (by rw [← hlist j false (by omega)]; exact hlj) h6
            rw [hiF] at this; cases this) a h1
        refine wpOpIn_of_list1 hget hrun (fun a' w'' hq => ?_) (fun c a' w'' hq => ?_) (fun hq => ?_)
        · obtain ⟨D', σ'', hr1, _, rfl, v, rfl, H'', E', hle, hM'', hpv⟩ := hq
          refine ⟨by simpa using hs, .inl ⟨fun j hj hjl => ?_, fun j k hj hlj hek => ?_, _, H'', setX X' i E', hr1, h2.trans hle, ?_, fun j d hj hlj hd => ?_, fun j hj hlj => ?_, fun t ht => ?_⟩⟩
          · rw [hset, if_neg (by omega)]; exact hA j hj hjl
          · rw [hset] at hlj ⊢
            by_cases hk : k = i
            · simp [hk]
            · rw [if_neg hk]
              by_cases hji : j = i
              · subst hji; exact hedge k hek
              · rw [if_neg hji] at hlj; exact hB j k hj hlj hek
          · have := hM''.perm (L' := flatX (setX X' i E') T ++ L) (by
              have := ((hperm E').symm).append_right L
              rwa [List.append_assoc] at this)
            exact this
          · by_cases hji : j = i
            · subst hji
              have hd2 : l[j].dst = some d := by simpa [dstOf, hget] using hd
              refine ⟨E', ⟨p, hp, ?_⟩, .inl ⟨by simp [setX], fun k hk hlk hek => ?_⟩⟩
              · rw [hd2]
                show p H'' (bif Nat.beq d d then v else σ' d) E'
                rw [Nat.beq_refl]
                exact hpv
              · rw [hset] at hlk
                obtain ⟨_, hekj, _⟩ := heat' k j hk hek
                by_cases hkj : k = j
                · subst hkj
                  have := hedge k hekj
                  rw [hiF] at this; cases this
                · rw [if_neg hkj] at hlk
                  have := hB k j (by omega) (by rw [← hlist k false (by omega)]; exact hlk) hekj
                  rw [hiF] at this; cases this
            · rw [hset, if_neg hji] at hlj
              obtain ⟨Ej, hEj, hXj⟩ := h4 j d hj hlj hd
              have hne : l[i].dst ≠ some d := by
                intro e
                have h6 := hdist i (by omega) j hj
                have hdi : dstOf l.toArray i = some d := by rw [dstOf, hget]; exact e
                have h7 : sameB l.toArray i j = true := by
                  rw [sameB, hdi]
                  show isDst l.toArray j d = true
                  rw [isDst, hd]
                  exact Nat.beq_refl d
                simp only [h7, Bool.not_true, Bool.or_false] at h6
                exact hji (Nat.eq_of_beq_eq_true h6).symm
              have hsame : upd σ' l[i].dst v d = σ' d := by
                cases hx : l[i].dst with
                | none => rfl
                | some d' =>
                  have : d ≠ d' := by rintro rfl; exact hne hx
                  show (bif Nat.beq d d' then v else σ' d) = σ' d
                  cases hb : Nat.beq d d' with
                  | true => exact absurd (Nat.eq_of_beq_eq_true hb) this
                  | false => rfl
              refine ⟨Ej, by rw [hsame]; exact gmono j _ _ _ _ hle hEj, ?_⟩
              have hs2 : setX X' i E' j = X' j := by unfold setX; rw [if_neg hji]
              rw [hs2, hX' j]
              by_cases hej : eat i = some j
              · rw [if_pos hej]
                exact .inr ⟨rfl, i, hiT, by rw [hset, if_pos rfl], hej⟩
              · rw [if_neg hej]
                rcases hXj with ⟨h6, h7⟩ | ⟨h6, k, hk, hlk, hek⟩
                · refine .inl ⟨h6, fun k hk hlk => ?_⟩
                  rw [hset] at hlk
                  by_cases hki : k = i
                  · subst hki; exact hej
                  · rw [if_neg hki] at hlk; exact h7 k hk hlk
                · refine .inr ⟨h6, k, hk, ?_, hek⟩
                  rw [hset]; split
                  · rfl
                  · exact hlk
          · rw [hset] at hlj
            by_cases hji : j = i
            · rw [if_pos hji] at hlj; cases hlj
            · rw [if_neg hji] at hlj
              have hs2 : setX X' i E' j = X' j := by unfold setX; rw [if_neg hji]
              rw [hs2, hX' j]
              split
              · rfl
              · exact h4b j hj hlj
          · have hne : l[i].dst ≠ some t := by
              have := ht i hiT (by rw [hset, if_pos rfl])
              simpa [dstOf, hget] using this
            have hsame : upd σ' l[i].dst v t = σ' t := by
              cases hx : l[i].dst with
              | none => rfl
              | some d' =>
                have : t ≠ d' := by rintro rfl; exact hne hx
                show (bif Nat.beq t d' then v else σ' t) = σ' t
                cases hb : Nat.beq t d' with
                | true => exact absurd (Nat.eq_of_beq_eq_true hb) this
                | false => rfl
            rw [hsame]
            refine h5 t fun j hj hlj => ht j hj ?_
            rw [hset]
            split
            · rfl
            · exact hlj
        · obtain ⟨_, _, _, hn, _⟩ := hq
          cases hn
        · obtain ⟨_, _, _, _, _, hn, _⟩ := hq
          cases hn
      · have h6 := htl i (by simpa using hil)
        have h7 : Nat.blt i T = false := by
          cases hb : Nat.blt i T with
          | true => exact absurd (show i < T by simpa [Nat.blt_eq] using hb) (by omega)
          | false => rfl
        rw [h7, Bool.false_or, List.all_eq_true] at h6
        have hiT2 : i = T := by
          rcases Nat.lt_or_ge T i with h | h
          · have h8 := hedge T (h6 T (List.mem_range.2 h))
            have h9 := hJ.1 T (Nat.le_refl _) (by omega)
            rw [hlist T false (by omega), h9] at h8; cases h8
          · omega
        have hall : ∀ j, j < T → ls.getD j false = true := fun j hj => hedge j (h6 j (List.mem_range.2 (by omega)))
        refine toTail T (Nat.le_refl _) (by omega) hiT2 (fun j hj => ?_) (hfull ls a w' hJ hs hall)
        by_cases h8 : j < T
        · rw [← hlist j false hj, hall j h8]; simp [h8]
        · rw [hJ.1 j (by omega) hj]; simp [h8]
    · have hik : i = k := by
        rcases Nat.lt_or_ge i k with h | h
        · have h1 := hk3 i hil
          rw [hi2] at h1; simp at h1; omega
        · rcases Nat.lt_or_ge k i with h2 | h2
          · have h6 := htl i (by simpa using hil)
            have h7 : Nat.blt i T = false := by
              cases hb : Nat.blt i T with
              | true => exact absurd (show i < T by simpa [Nat.blt_eq] using hb) (by omega)
              | false => rfl
            rw [h7, Bool.false_or, List.all_eq_true] at h6
            have h8 := hedge k (h6 k (List.mem_range.2 h2))
            rw [hlist k false (by omega), hk3 k (by omega)] at h8
            simp at h8
          · omega
      exact toTail k hk1 (by omega) hik hk3 hk4
  · have hg : ∀ i (b : Bool), i < l.length → (Array.replicate l.toArray.size false).getD i b = false := by
      intro i b hi
      rw [Array.getD_eq_getD_getElem?]
      simp [hi]
    have hg2 : ∀ i, (Array.replicate l.toArray.size false).getD i false = false := by
      intro i
      rw [Array.getD_eq_getD_getElem?]
      simp only [Array.getElem?_replicate]
      split <;> rfl
    have hnil : ∀ T, flatX (fun _ => []) T = [] := by
      intro T; unfold flatX; simp
    refine ⟨by simp, .inl ⟨fun i _ hi => hg i true hi, (fun i j hi h => by rw [hg i true hi] at h; cases h), σ, H, fun _ => [], ha, Hp.le.refl _, ?_, (fun i d _ h => by rw [hg2] at h; cases h), fun _ _ _ => rfl, fun t _ => rfl⟩⟩
    rw [hnil]
    exact hM.drew
  · unfold unlisted
    exact Nat.le_trans (List.length_filter_le _ _) (by simp)
end
end Go.Proofs.YtackllehpecfgaaDoor
