/- A statement whose order Go leaves open, of which the last operations are not in one forced order: each order is walked. -/
import Derived.Test.YtackllehpecfgaaDoorMore
namespace Go.Proofs.YtackllehpecfgaaDoor
open Go.RowKit

def reachB (ops : Array Oper) : Nat → Nat → Nat → Bool
  | 0, _, _ => false
  | f + 1, i, j => hasEdge ops i j || (List.range ops.size).any fun k => hasEdge ops i k && reachB ops f k j
def drawAB (ops : Array Oper) (T N : Nat) : Bool :=
  Nat.ble T ops.size &&
  ((List.range ops.size).all fun i => match ops[i]? with
    | some o => (o.after.all fun e => !(Region.binds .any e) || Nat.blt e.on i) && dstOk o.dst N
    | none => true) &&
  ((List.range T).all fun i => (List.range T).all fun j => Nat.beq i j || !(sameB ops i j)) &&
  ((List.range ops.size).all fun i => Nat.blt i T || (List.range T).all fun j => reachB ops 40 i j)
def lsT (n T : Nat) : Array Bool := ((List.range n).map fun i => Nat.blt i T).toArray

section
variable {r : Option Nat} {md : Nat} {P : Program} {N : Nat} {Q : Exit → List Deferred → (Nat → Value) → World → Prop} {D : List Deferred} {σ : Nat → Value} {w w0 : World} {H0 H : Hp} {L : List Ent}

/-- What is left of such a statement, when those of ls are done. -/
def RA (r : Option Nat) (md : Nat) (P : Program) (N : Nat) (ops : Array Oper) (Q : Exit → List Deferred → (Nat → Value) → World → Prop) (D : List Deferred) (σ : Nat → Value) (w : World) (f : Nat) (ls : Array Bool) : Prop :=
  ∀ a, Rep N D σ a → wpAnyIn (FR r) md P .any ops (lift N Q) f ls a w
def raQ (r : Option Nat) (md : Nat) (P : Program) (N : Nat) (ops : Array Oper) (Q : Exit → List Deferred → (Nat → Value) → World → Prop) (f : Nat) (ls : Array Bool) (e : Exit) (D : List Deferred) (σ : Nat → Value) (w : World) : Prop :=
  e = .normal ∧ RA r md P N ops Q D σ w f ls
def RAs (r : Option Nat) (md : Nat) (P : Program) (N : Nat) (ops : Array Oper) (Q : Exit → List Deferred → (Nat → Value) → World → Prop) (D : List Deferred) (σ : Nat → Value) (w : World) (f : Nat) (ls : Array Bool) : List Nat → Prop
  | [] => True
  | i :: is => (∃ o, ops[i]? = some o ∧ RW r md P N ops [o] (raQ r md P N ops Q f (ls.setIfInBounds i true)) D σ w) ∧ RAs r md P N ops Q D σ w f ls is
theorem RAs.get {ops : Array Oper} {f : Nat} {ls : Array Bool} : ∀ {is : List Nat}, RAs r md P N ops Q D σ w f ls is → ∀ i ∈ is, ∃ o, ops[i]? = some o ∧ RW r md P N ops [o] (raQ r md P N ops Q f (ls.setIfInBounds i true)) D σ w
  | _ :: _, h, i, hi => by
    rcases List.mem_cons.1 hi with rfl | hi
    · exact h.1
    · exact RAs.get h.2 i hi
theorem RA.step {ops : Array Oper} {f : Nat} {ls : Array Bool} (is : List Nat) (hr : Region.ready .any ops ls = is) (hne : is.isEmpty = false) (h : RAs r md P N ops Q D σ w f ls is) : RA r md P N ops Q D σ w (f + 1) ls := by
  intro a ha
  refine ⟨fun h2 => (by rw [hr] at h2; subst h2; cases hne), fun i hi => ?_⟩
  rw [hr] at hi
  obtain ⟨o, ho, hRW⟩ := RAs.get h i hi
  refine wpOpIn_of_list1 ho (hRW a ha) (fun a' w'' hq => ?_) (fun c a' w'' hq => ?_) (fun hq => ?_)
  · obtain ⟨D', σ', hr1, _, hq⟩ := hq
    exact hq a' hr1
  · obtain ⟨_, _, _, hn, _⟩ := hq
    cases hn
  · obtain ⟨_, _, _, _, _, hn, _⟩ := hq
    cases hn
theorem RA.done {ops : Array Oper} {f : Nat} {ls : Array Bool} (hr : Region.ready .any ops ls = []) (hQ : Q .normal D σ w) : RA r md P N ops Q D σ w f ls := by
  intro a ha
  cases f with
  | zero => exact ⟨hr, D, σ, ha, hQ⟩
  | succ f => exact ⟨fun _ => ⟨D, σ, ha, hQ⟩, fun i hi => by rw [hr] at hi; simp at hi⟩

theorem CW.drawA {id : Nat} {l : List Oper} (T : Nat) (V : List (Hp → Value → Prop)) (hm : P.follows .mixedOrders = true) (hM : Mem w0 H0 w H L) (hchk : drawAB l.toArray T N = true) (hlen : V.length = T)
    (hV : ∀ p ∈ V, ∀ A B v, Hp.le A B → p A v → p B v)
    (hop : OpsVC r md P N D σ w0 H0 H L l.toArray T V 0 (l.take T) V)
    (htail : ∀ H' σ' w', H.le H' → Mem w0 H0 w' H' L → (∀ i d p, dstOf l.toArray i = some d → V[i]? = some p → p H' (σ' d)) → (∀ t, ((List.range T).all fun j => !(isDst l.toArray j t)) = true → σ' t = σ t) → RA r md P N l.toArray Q D σ' w' l.length (lsT l.length T)) :
    CW r md P N (.region id l.toArray true) Q D σ w := by
  intro a ha
  simp only [drawAB, Bool.and_eq_true, List.all_eq_true, List.mem_range] at hchk
  obtain ⟨⟨⟨hT, hback⟩, hdist⟩, htl⟩ := hchk
  have hT' : T ≤ l.length := by simpa using Nat.le_of_ble_eq_true hT
  have hsize : l.toArray.size = l.length := by simp
  -- the two phases
  let Main : Array Bool → Act → World → Prop := fun ls a w' => (∀ i, T ≤ i → i < l.length → ls.getD i true = false) ∧ (∀ i j, i < l.length → ls.getD i true = true → hasEdge l.toArray i j = true → ls.getD j false = true) ∧
    ∃ σ' H', Rep N D σ' a ∧ H.le H' ∧ Mem w0 H0 w' H' L ∧ (∀ i d p, i < T → ls.getD i false = true → dstOf l.toArray i = some d → V[i]? = some p → p H' (σ' d)) ∧ (∀ t, (∀ i, i < T → ls.getD i false = true → dstOf l.toArray i ≠ some t) → σ' t = σ t)
  let Tail : Array Bool → Act → World → Prop := fun ls a w' => ∃ f, unlisted ls ≤ f ∧ wpAnyIn (FR r) md P .any l.toArray (lift N Q) f ls a w'
  have hprog : ∀ ls : Array Bool, ls.size = l.length → Region.ready .any l.toArray ls = [] → ∀ i, i < l.length → ls.getD i true = true := by
    intro ls hs hr i
    induction i using Nat.strongRecOn with
    | _ i ih =>
      intro hi
      cases hx : ls.getD i true with
      | true => rfl
      | false =>
        have : i ∈ Region.ready .any l.toArray ls := by
          refine mem_ready.2 ⟨by simpa using hi, hx, fun o ho e he hb => ?_⟩
          have h1 := hback i (by simpa using hi)
          rw [ho] at h1
          simp only [Bool.and_eq_true] at h1
          have h2 := (Array.all_eq_true_iff_forall_mem.1 h1.1) e he
          have h3 : e.on < i := by
            rw [hb, Bool.not_true, Bool.false_or] at h2
            simpa [Nat.blt_eq] using h2
          have h4 := ih e.on h3 (by omega)
          rw [Array.getD_eq_getD_getElem?] at h4 ⊢
          rw [Array.getElem?_eq_getElem (by omega)] at h4 ⊢
          exact h4
        rw [hr] at this
        simp at this
  have hlsT : ∀ ls : Array Bool, ls.size = l.length → (∀ i, i < T → ls.getD i false = true) → (∀ i, T ≤ i → i < l.length → ls.getD i true = false) → ls = lsT l.length T := by
    intro ls hs h1 h2
    apply Array.ext
    · simp [lsT, hs]
    · intro i hi hi'
      have e : ls[i] = ls.getD i false := by rw [Array.getD_eq_getD_getElem?, Array.getElem?_eq_getElem hi]; rfl
      have e2 : ls[i] = ls.getD i true := by rw [Array.getD_eq_getD_getElem?, Array.getElem?_eq_getElem hi]; rfl
      have hil : i < l.length := by omega
      have e3 : (lsT l.length T)[i]? = some (Nat.blt i T) := by simp [lsT, hil]
      have e4 : ls[i] = Nat.blt i T := by
        by_cases h : i < T
        · have hb : Nat.blt i T = true := by simpa [Nat.blt_eq] using h
          rw [e, h1 i h, hb]
        · have hb : Nat.blt i T = false := by
            cases hx : Nat.blt i T with
            | true => exact absurd (show i < T by simpa [Nat.blt_eq] using hx) h
            | false => rfl
          rw [e2, h2 i (Nat.le_of_not_lt h) hil, hb]
      rw [e4]
      have := (Array.getElem?_eq_some_iff.1 e3).2
      exact this.symm
  have hfull : ∀ (ls : Array Bool) (a : Act) (w' : World), Main ls a w' → ls.size = l.length → (∀ i, i < T → ls.getD i false = true) → wpAnyIn (FR r) md P .any l.toArray (lift N Q) l.length ls a w' := by
    intro ls a w' ⟨hA, _, σ', H', h1, h2, h3, h4, h5⟩ hs hall
    rw [hlsT ls hs hall hA]
    refine htail H' σ' w' h2 h3 (fun i d p hd hp => ?_) (fun t ht => ?_) a h1
    · have hi : i < T := by rw [← hlen]; exact (List.getElem?_eq_some_iff.1 hp).1
      exact h4 i d p hi (hall i hi) hd hp
    · refine h5 t fun i hi _ hd => ?_
      have := (List.all_eq_true.1 ht) i (List.mem_range.2 hi)
      simp [isDst, hd, Nat.beq_refl] at this
  have hdone : ∀ (f : Nat) (ls : Array Bool) (a : Act) (w' : World), wpAnyIn (FR r) md P .any l.toArray (lift N Q) f ls a w' → Region.ready .any l.toArray ls = [] → lift N Q .normal a w' := by
    intro f ls a w' h hr
    cases f with
    | zero => exact h.2
    | succ f => exact h.1 hr
  refine wpIn_region_any hm (wpAnyIn_inv (fun ls a w' => ls.size = l.length ∧ (Main ls a w' ∨ Tail ls a w')) ?_ ?_ ?_ _ _ _ _ ?_ ?_)
  · -- the end
    intro ls a w' ⟨hs, hJ⟩ hr
    have hall := hprog ls hs hr
    have hgetD : ∀ i, i < l.length → ls.getD i false = true := fun i hi => by
      have := hall i hi
      rw [Array.getD_eq_getD_getElem?, Array.getElem?_eq_getElem (by omega)] at this ⊢
      exact this
    rcases hJ with hJ | ⟨f, _, hf⟩
    · exact hdone _ _ _ _ (hfull ls a w' hJ hs fun i hi => hgetD i (by omega)) hr
    · exact hdone _ _ _ _ hf hr
  · intro ls a w' h; simpa using h.1
  · -- one operation
    intro ls a w' i ⟨hs, hJ⟩ hi
    obtain ⟨hi1, hi2, hi3⟩ := mem_ready.1 hi
    have hil : i < l.length := by simpa using hi1
    have hget : l.toArray[i]? = some l[i] := by simp [hil]
    have hedge : ∀ j, hasEdge l.toArray i j = true → ls.getD j false = true := by
      intro j hj
      rw [hasEdge, hget] at hj
      simp only [← Array.any_toList, List.any_eq_true, Bool.and_eq_true] at hj
      obtain ⟨e, he, hb, hon⟩ := hj
      have := hi3 _ hget e (Array.mem_toList_iff.1 he) hb
      rwa [Nat.eq_of_beq_eq_true hon] at this
    have hset : ∀ (j : Nat) (b : Bool), (ls.setIfInBounds i true).getD j b = if j = i then true else ls.getD j b := by
      intro j b
      rw [Array.getD_eq_getD_getElem?, Array.getD_eq_getD_getElem?, Array.getElem?_setIfInBounds]
      by_cases h : j = i
      · subst h; simp [hs, hil]
      · rw [if_neg (by omega), if_neg h]
    have hlist : ∀ j b, j < l.length → ls.getD j b = ls.getD j true := by
      intro j b hj
      rw [Array.getD_eq_getD_getElem?, Array.getD_eq_getD_getElem?, Array.getElem?_eq_getElem (by omega)]
      rfl
    have toTail : ∀ f, unlisted ls ≤ f → wpAnyIn (FR r) md P .any l.toArray (lift N Q) f ls a w' → wpOpIn (FR r) md P l.toArray (lift N Q) i (fun a w' => (ls.setIfInBounds i true).size = l.length ∧ (Main (ls.setIfInBounds i true) a w' ∨ Tail (ls.setIfInBounds i true) a w')) a w' := by
      intro f hu hf
      have hlt := unlisted_set (by rw [hs]; exact hil) hi2
      cases f with
      | zero => omega
      | succ f => exact wpOpIn_mono (fun a w h => ⟨by simpa using hs, .inr ⟨f, by omega, h⟩⟩) (hf.2 i hi)
    rcases hJ with hJ | ⟨f, hu, hf⟩
    · rcases Nat.lt_or_ge i T with hiT | hiT
      · -- a free one
        have hJ' := hJ
        obtain ⟨hA, hB, σ', H', h1, h2, h3, h4, h5⟩ := hJ
        obtain ⟨p, hp⟩ : ∃ p, V[i]? = some p := ⟨V[i]'(by omega), List.getElem?_eq_getElem (by omega)⟩
        have hot : (l.take T)[i]? = some l[i] := by rw [List.getElem?_take_of_lt hiT]; exact List.getElem?_eq_getElem hil
        have hvc := OpsVC.get (l.take T) V 0 hop i l[i] p hot hp
        rw [Nat.zero_add] at hvc
        have hlt : ∀ j q, V[j]? = some q → j < T := fun j q hq => by rw [← hlen]; exact (List.getElem?_eq_some_iff.1 hq).1
        have hrun := hvc H' σ' w' h2 h3 (fun j d q hj hd hq => h4 j d q (hlt j q hq) (hedge j hj) hd hq) (fun t ht => by
          refine h5 t fun j hj hlj hdj => ?_
          have h6 := (List.all_eq_true.1 ht) j (List.mem_range.2 hj)
          have h7 : isDst l.toArray j t = true := by simp [isDst, hdj, Nat.beq_refl]
          simp only [h7, Bool.not_true, Bool.or_false, Bool.or_eq_true] at h6
          rcases h6 with h6 | h6
          · have := Nat.eq_of_beq_eq_true h6
            subst this
            rw [hlist j false hil] at hlj
            rw [hlj] at hi2; cases hi2
          · have := hB j i (by omega) (by rw [← hlist j false (by omega)]; exact hlj) h6
            rw [hlist i false hil, hi2] at this; cases this) a h1
        refine wpOpIn_of_list1 hget hrun (fun a' w'' hq => ?_) (fun c a' w'' hq => ?_) (fun hq => ?_)
        · obtain ⟨D', σ'', hr1, _, rfl, v, rfl, H'', hle, hM'', hpv⟩ := hq
          refine ⟨by simpa using hs, .inl ⟨fun j hj hjl => ?_, fun j k hj hlj hek => ?_, _, H'', hr1, h2.trans hle, hM'', fun j d q hj hlj hd hq => ?_, fun t ht => ?_⟩⟩
          · rw [hset, if_neg (by omega)]; exact hA j hj hjl
          · rw [hset] at hlj ⊢
            by_cases hk : k = i
            · simp [hk]
            · rw [if_neg hk]
              by_cases hji : j = i
              · subst hji; exact hedge k hek
              · rw [if_neg hji] at hlj; exact hB j k hj hlj hek
          · by_cases hji : j = i
            · subst hji
              have : q = p := by rw [hp] at hq; exact (Option.some.inj hq).symm
              subst this
              have hd2 : l[j].dst = some d := by simpa [dstOf, hget] using hd
              rw [hd2]
              show q H'' (bif Nat.beq d d then v else σ' d)
              rw [Nat.beq_refl]
              exact hpv
            · rw [hset, if_neg hji] at hlj
              have hq2 := h4 j d q hj hlj hd hq
              have hne : l[i].dst ≠ some d := by
                intro e
                have h6 := hdist i (by omega) j hj
                have hdi : dstOf l.toArray i = some d := by rw [dstOf, hget]; exact e
                have h7 : sameB l.toArray i j = true := by
                  rw [sameB, hdi]
                  show isDst l.toArray j d = true
                  rw [isDst, hd]
                  exact Nat.beq_refl d
                simp only [h7, Bool.not_true, Bool.or_false] at h6
                exact hji (Nat.eq_of_beq_eq_true h6).symm
              have hsame : upd σ' l[i].dst v d = σ' d := by
                cases hx : l[i].dst with
                | none => rfl
                | some d' =>
                  have : d ≠ d' := by rintro rfl; exact hne hx
                  show (bif Nat.beq d d' then v else σ' d) = σ' d
                  cases hb : Nat.beq d d' with
                  | true => exact absurd (Nat.eq_of_beq_eq_true hb) this
                  | false => rfl
              rw [hsame]
              exact hV q (List.mem_of_getElem? hq) _ _ _ hle hq2
          · have hne : l[i].dst ≠ some t := by
              have := ht i hiT (by rw [hset, if_pos rfl])
              simpa [dstOf, hget] using this
            have hsame : upd σ' l[i].dst v t = σ' t := by
              cases hx : l[i].dst with
              | none => rfl
              | some d' =>
                have : t ≠ d' := by rintro rfl; exact hne hx
                show (bif Nat.beq t d' then v else σ' t) = σ' t
                cases hb : Nat.beq t d' with
                | true => exact absurd (Nat.eq_of_beq_eq_true hb) this
                | false => rfl
            rw [hsame]
            refine h5 t fun j hj hlj => ht j hj ?_
            rw [hset]
            split
            · rfl
            · exact hlj
        · obtain ⟨_, _, _, hn, _⟩ := hq
          cases hn
        · obtain ⟨_, _, _, _, _, hn, _⟩ := hq
          cases hn
      · -- one behind the free ones
        have hreach : ∀ (f j : Nat) (k : Nat), (∀ m, hasEdge l.toArray k m = true → ls.getD m false = true) → reachB l.toArray f k j = true → ls.getD j false = true := by
          intro f
          induction f with
          | zero => intro j k _ h; cases h
          | succ f ih =>
            intro j k hk h
            unfold reachB at h
            rw [Bool.or_eq_true, List.any_eq_true] at h
            rcases h with h | ⟨m, hm2, h⟩
            · exact hk j h
            · rw [Bool.and_eq_true] at h
              have hml : m < l.length := by simpa using hm2
              refine ih j m (fun q hq => ?_) h.2
              have hm3 := hk m h.1
              rw [hlist m false hml] at hm3
              have := hJ.2.1 m q hml hm3 hq
              cases hx : ls[q]? with
              | some b =>
                rw [Array.getD_eq_getD_getElem?, hx] at this ⊢
                exact this
              | none =>
                exfalso
                have hql : l.length ≤ q := by rw [← hs]; exact Array.getElem?_eq_none_iff.1 hx
                have h1 := hback m (by simpa using hml)
                have hgm : l.toArray[m]? = some l[m] := by simp [hml]
                rw [hasEdge, hgm] at hq
                simp only [← Array.any_toList, List.any_eq_true, Bool.and_eq_true] at hq
                obtain ⟨e, he, hb, hon⟩ := hq
                rw [hgm] at h1
                simp only [Bool.and_eq_true] at h1
                have h2 := (Array.all_eq_true_iff_forall_mem.1 h1.1) e (Array.mem_toList_iff.1 he)
                rw [hb, Bool.not_true, Bool.false_or] at h2
                have h3 : e.on < m := by simpa [Nat.blt_eq] using h2
                have := Nat.eq_of_beq_eq_true hon
                omega
        have h6 := htl i (by simpa using hil)
        have h7 : Nat.blt i T = false := by
          cases hb : Nat.blt i T with
          | true => exact absurd (show i < T by simpa [Nat.blt_eq] using hb) (by omega)
          | false => rfl
        rw [h7, Bool.false_or, List.all_eq_true] at h6
        have hall : ∀ j, j < T → ls.getD j false = true := fun j hj => hreach 40 j i hedge (h6 j (List.mem_range.2 hj))
        exact toTail l.length (by unfold unlisted; exact Nat.le_trans (List.length_filter_le _ _) (by simp [hs])) (hfull ls a w' hJ hs hall)
    · exact toTail f hu hf
  · -- the start
    have hg : ∀ i (b : Bool), i < l.length → (Array.replicate l.toArray.size false).getD i b = false := by
      intro i b hi
      rw [Array.getD_eq_getD_getElem?]
      simp [hi]
    have hg2 : ∀ i, (Array.replicate l.toArray.size false).getD i false = false := by
      intro i
      rw [Array.getD_eq_getD_getElem?]
      simp only [Array.getElem?_replicate]
      split <;> rfl
    refine ⟨by simp, .inl ⟨fun i _ hi => hg i true hi, (fun i j hi h => by rw [hg i true hi] at h; cases h), σ, H, ha, Hp.le.refl _, hM.drew, fun i d p _ h => ?_, fun t _ => rfl⟩⟩
    rw [hg2] at h; cases h
  · unfold unlisted
    exact Nat.le_trans (List.length_filter_le _ _) (by simp)

theorem CW.drawAE {id : Nat} {l : List Oper} (T : Nat) (vs : List Value) (ids : List (List (Nat × Option Nat))) (idT : List (Nat × Option Nat)) (hm : P.follows .mixedOrders = true) (hM : Mem w0 H0 w H L)
    (hchk : (drawAB l.toArray T N && knsB l.toArray T 0 ids && knT l.toArray T idT && Nat.beq vs.length T && Nat.beq ids.length T) = true)
    (hop : Ones r md P N D σ w0 H0 H L l.toArray vs (l.take T) vs ids)
    (htail : ∀ τ w, Mem w0 H0 w H L → RA r md P N l.toArray Q D (sl (kvs vs σ idT) τ) w l.length (lsT l.length T)) : CW r md P N (.region id l.toArray true) Q D σ w := by
  simp only [Bool.and_eq_true] at hchk
  obtain ⟨⟨⟨⟨h1, h2⟩, h3⟩, h4⟩, h5⟩ := hchk
  have hl : vs.length = T := Nat.eq_of_beq_eq_true h4
  have hl2 : ids.length = T := Nat.eq_of_beq_eq_true h5
  refine CW.drawA T (eqs vs) hm hM h1 (by simp [eqs, hl]) ?_ (opsVC_of hl _ _ ids 0 (by omega) h2 hop hM.old) ?_
  · intro p hp A B v hle h
    obtain ⟨x, _, rfl⟩ := List.mem_map.1 hp
    exact h
  · intro H' σ' w' hle hM' hp hf
    have hall := allSl_kvsT (σ := σ) (vs := vs) (fun j d u hd hu => hp j d (fun _ x => x = u) hd (by simp [eqs, hu])) hf hl idT h3
    obtain ⟨τ, rfl⟩ := sl_canon hall
    exact htail τ w' (hM'.lower hM.old hle)
end
end Go.Proofs.YtackllehpecfgaaDoor
