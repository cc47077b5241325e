/- Part 5 of the proof of the statement TrackerReturnsCardSaid: lemmas. No condition of its own. -/
import Derived.SevenTiedAt
import Derived.Test.YtgojhiknicmopaaGreatDoorRows
import Derived.Test.YtgojhiknicmopaaGreatDoorTie
import Derived.Test.YtgojhiknicmopaaGreatDoorCards
import Derived.Test.YtgojhiknicmopaaGreatDoorProg
import Derived.CallsIn
import Derived.Test.YtgojhiknicmopaaGreatDoorM4
namespace Go.Proofs.YtgojhiknicmopaaGreatDoor
open Go.RowKit
section
section
variable {F : Fence} {n : Nat} {P : Program} {ops : Array Oper} {Q : Exit → Act → World → Prop}
theorem wpList_cons1 {Q1 : Exit → Act → World → Prop} {o : Oper} {l : List Oper} {a : Act} {w : World} (h : wpListIn F n P ops Q1 [o] a w) (hK : ∀ a w, Q1 .normal a w → wpListIn F n P ops Q l a w) (hp : ∀ c a w, ¬ Q1 (.panic c) a w) (hl : ¬ LetsOut Q1) : wpListIn F n P ops Q (o :: l) a w := by
  unfold wpListIn at h ⊢
  split at h
  · rename_i hw
    rw [if_pos hw]
    refine ⟨h.1, ?_⟩
    have h2 := h.2
    generalize (o.semAt F.round a.eval).run P w = res at h2
    cases res with
    | ok nx w' =>
      cases nx with
      | value v => exact hK _ _ h2
      | skip => exact hK _ _ h2
      | defer d => exact hK _ _ h2
      | enter f args =>
        refine ⟨h2.1, h2.2.mono fun e w'' he => ?_⟩
        cases e with
        | returned v => exact hK _ _ he
        | panicked chain => exact absurd he (hp _ _ _)
        | outgrown => exact absurd he hl
      | row row args => exact ⟨h2.1, h2.2.mono fun v w'' he => hK _ _ he⟩
      | round l f tmps assign body =>
        refine ⟨h2.1, h2.2.mono fun e w'' he => ?_⟩
        cases e with
        | returned v => exact hK _ _ he
        | panicked chain => exact absurd he (hp _ _ _)
        | outgrown => exact absurd he hl
      | _ => exact h2
    | halt x w' =>
      cases x with
      | panic v => exact absurd h2 (hp _ _ _)
      | _ => exact h2
  · rename_i hw
    rw [if_neg hw]
    exact ⟨h.1, hK _ _ h.2⟩
end
theorem RW.cons1 {r : Option Nat} {md : Nat} {P : Program} {N : Nat} {ops : Array Oper} {o : Oper} {l : List Oper} {Q : Exit → List Deferred → (Nat → Value) → World → Prop} {Dd : List Deferred} {σ : Nat → Value} {w : World}
    (h : RW r md P N ops [o] (fun e D' σ' w' => e = .normal ∧ RW r md P N ops l Q D' σ' w') Dd σ w) : RW r md P N ops (o :: l) Q Dd σ w := by
  intro a ha
  refine wpList_cons1 (h a ha) (fun a' w' hq => ?_) (fun c a' w' hq => ?_) (fun hq => ?_)
  · obtain ⟨D', σ', h1, _, h2⟩ := hq
    exact h2 a' h1
  · obtain ⟨_, _, _, hn, _⟩ := hq
    cases hn
  · obtain ⟨_, _, _, _, _, hn, _⟩ := hq
    cases hn
def Yl {α : Type} (l : List α) (K : α → List α → Prop) : Prop := match l with
  | [] => False
  | x :: r => K x r
section
variable {D : Nat → Type} [∀ t, Dt (D t)]
def yieldE (st : St D) (op : Op) : Option (List Operand) := match op with
  | .call ⟨.value g, xs, _⟩ => match evO st.sl g with
    | some (.kp 0) => some xs.toList
    | _ => none
  | _ => none
omit [∀ t, Dt (D t)] in
theorem yieldE_ok {st : St D} {op : Op} {xs : List Operand} (h : yieldE st op = some xs) : ∃ g ys tys, op = .call ⟨.value g, ys, tys⟩ ∧ evO st.sl g = some (.kp 0) ∧ xs = ys.toList := by
  unfold yieldE at h
  split at h
  · split at h
    · rename_i hg
      cases h
      exact ⟨_, _, _, rfl, hg, rfl⟩
    · cases h
  · cases h
def memI (P : Program) (tb : Tb D) (st : St D) (fr : List (Nat × Blk D)) (op : Op) : Option (SV D × St D) := match op with
  | .alloc T => match alE P st.nx T with
    | some (_, v, ef) => some (v, st.eff ef)
    | none => none
  | .box T _ => match opVals st fr op with
    | some [a] => match bxE st.nx T a with
      | some (_, v, ef) => some (v, st.eff ef)
      | none => none
    | _ => none
  | .store T _ _ => match opVals st fr op with
    | some [.ptr id off, b] => match stE P tb (gtB st.bk) T (.ptr id off) b with
      | some (_, v, ef) => some (v, st.eff ef)
      | none => none
    | _ => none
  | _ => none
def isMemI : Op → Bool
  | .alloc _ => true
  | .box _ _ => true
  | .store _ _ _ => true
  | _ => false
def yOp (E : Env D) (fr : List (Nat × Blk D)) (ts : List Nat) (o : Oper) (sp : Bool) (st : St D) (rest : List (TupD D ts)) (K : Bool → St D → List (TupD D ts) → Prop) : Prop := match yieldE st o.op with
  | some xs => match sp with
    | true => False
    | false => Yl rest fun x r => match mapO (fun x => (evO st.sl x).map fun v => rsD (st.lk fr) (resD st.kn v)) xs with
      | some vs => match argsC E.P ts vs with
        | some ls => match ofTup E.tb ts ls with
          | some a => a = x ∧ K false ((⟨st.sl, [], st.kn, st.nx⟩ : St D).put o.dst (.k true)) r ∧ K true ((⟨st.sl, [], st.kn, st.nx⟩ : St D).put o.dst (.k false)) (x :: r)
          | none => False
        | none => False
      | none => False
  | none => match isMemI o.op with
    | true => match memI E.P E.tb st fr o.op with
      | some (v, st') => K sp (st'.put o.dst v) rest
      | none => False
    | false => stepD E fr o st fun v e _ _ => cdP e False (K sp (st.put o.dst v) rest)
def yFl (E : Env D) (fr : List (Nat × Blk D)) (ts : List Nat) (q : Bool) (o : Oper) (sp : Bool) (st : St D) (rest : List (TupD D ts)) (K : Bool → St D → List (TupD D ts) → Prop) : Prop := match q with
  | true => match quietE E fr o st with
    | some v => K sp (st.put o.dst v) rest
    | none => False
  | false => yOp E fr ts o sp st rest K
def runYF (E : Env D) (N : Nat) (fr : List (Nat × Blk D)) (ts : List Nat) (ops : Array Oper) (fl : List Nat) : List Nat → Bool → St D → List (TupD D ts) → (Bool → St D → List (TupD D ts) → Prop) → Prop
  | [], sp, st, rest, K => K sp st rest
  | i :: g, sp, st, rest, K => match ops[i]? with
    | none => False
    | some o => cdP (dstOk o.dst N) (match gdE ops st o.guard with
      | .yes => yFl E fr ts (fl.any (Nat.beq i)) o sp st rest fun sp' st' rest' => runYF E N fr ts ops fl g sp' st' rest' K
      | .no => runYF E N fr ts ops fl g sp (st.put o.dst (.c undef)) rest K
      | .ask t v want => askF v
          (cdP want (yFl E fr ts (fl.any (Nat.beq i)) o sp (st.know (.tmp t) true) rest fun sp' st' rest' => runYF E N fr ts ops fl g sp' st' rest' K) (runYF E N fr ts ops fl g sp ((st.know (.tmp t) true).put o.dst (.c undef)) rest K))
          (cdP want (runYF E N fr ts ops fl g sp ((st.know (.tmp t) false).put o.dst (.c undef)) rest K) (yFl E fr ts (fl.any (Nat.beq i)) o sp (st.know (.tmp t) false) rest fun sp' st' rest' => runYF E N fr ts ops fl g sp' st' rest' K))
      | .bad => False) False
def runY (E : Env D) (N : Nat) (fr : List (Nat × Blk D)) (ts : List Nat) (ops : Array Oper) : List Oper → Bool → St D → List (TupD D ts) → (Bool → St D → List (TupD D ts) → Prop) → Prop
  | [], sp, st, rest, K => K sp st rest
  | o :: l, sp, st, rest, K => cdP (dstOk o.dst N) (match gdE ops st o.guard with
    | .yes => yOp E fr ts o sp st rest fun sp' st' rest' => runY E N fr ts ops l sp' st' rest' K
    | .no => runY E N fr ts ops l sp (st.put o.dst (.c undef)) rest K
    | .ask t v want => askF v
        (cdP want (yOp E fr ts o sp (st.know (.tmp t) true) rest fun sp' st' rest' => runY E N fr ts ops l sp' st' rest' K) (runY E N fr ts ops l sp ((st.know (.tmp t) true).put o.dst (.c undef)) rest K))
        (cdP want (runY E N fr ts ops l sp ((st.know (.tmp t) false).put o.dst (.c undef)) rest K) (yOp E fr ts o sp (st.know (.tmp t) false) rest fun sp' st' rest' => runY E N fr ts ops l sp' st' rest' K))
    | .bad => False) False
def runI (E : Env D) (N : Nat) (fr : List (Nat × Blk D)) (ts : List Nat) : Code → List Nat → Bool → St D → List (TupD D ts) → (Exit → Bool → St D → List (TupD D ts) → Prop) → Prop
  | .skip, _, sp, st, rest, K => K .normal sp st rest
  | .ret, _, sp, st, rest, K => K .ret sp st rest
  | .exit id, _, sp, st, rest, K => K (.exit id) sp st rest
  | .region _ ops dr, pos, sp, st, rest, K => match dr with
    | false => runY E N fr ts ops ops.toList sp st rest (K .normal)
    | true => match findP pos E.plan with
      | some pe => match pe.tp.rw with
        | 0 :: 0 :: g => cdP (Region.noSelect ops && (Nat.beq g.length ops.size && flB ops (pe.tp.sl.map (·.1)) g (Array.replicate ops.size false))) (runYF E N fr ts ops (pe.tp.sl.map (·.1)) g sp st rest (K .normal)) False
        | _ => False
      | none => False
  | .cond c a b, pos, sp, st, rest, K => match (evO st.sl c).map (res st.kn) with
    | some (.k true) => runI E N fr ts a (2 :: pos) sp st rest K
    | some (.k false) => runI E N fr ts b (3 :: pos) sp st rest K
    | some s => askF s (runI E N fr ts a (2 :: pos) sp (st.know c true) rest K) (runI E N fr ts b (3 :: pos) sp (st.know c false) rest K)
    | none => False
  | .block id c, pos, sp, st, rest, K => runI E N fr ts c (4 :: pos) sp st rest fun e sp' st' rest' => match e with
    | .exit id' => cdP (Nat.beq id' id) (K .normal sp' st' rest') (K (.exit id') sp' st' rest')
    | e => K e sp' st' rest'
  | .seq a b, pos, sp, st, rest, K => runI E N fr ts a (0 :: pos) sp st rest fun e sp' st' rest' => match e with
    | .normal => runI E N fr ts b (1 :: pos) sp' st' rest' K
    | e => K e sp' st' rest'
  | .loop c, pos, sp, st, rest, K => match sp, findP pos E.plan with
    | false, some pe => match fillE pe.tp st.tag.nx st.tag fr with
      | some s0 => LoopW (fun (q : List (TupD D ts) × TupV D pe.tp.vts) rec => match makeE pe.tp st.tag.nx st.tag.kn q.2 with
        | some st2 => match st2.bk with
          | [] => runI E N fr ts c (5 :: pos) false st2 q.1 fun e sp' st' rest' => match e with
            | .normal => match sp' with
              | false => match fillE pe.tp st.tag.nx st' fr with
                | some s' => rec (rest', s')
                | none => False
              | true => False
            | e => K e sp' st' rest'
          | _ :: _ => False
        | none => False) (rest, s0)
      | none => False
    | _, _ => False
  | _, _, _, _, _, _ => False
def JS {α : Type} (J Jx : Nat → World → Prop) (all : List α) (sp : Bool) (rest : List α) (w : World) : Prop := match sp with
  | false => ∃ k, k ≤ all.length ∧ J k w ∧ rest = all.drop k
  | true => ∃ k, k < all.length ∧ Jx k w
theorem JS.below {α : Type} {J Jx : Nat → World → Prop} (hJ : ∀ k A B, J k A → Below A.heap.size A B → J k B) (hJx : ∀ k A B, Jx k A → Below A.heap.size A B → Jx k B) {all rest : List α} {sp : Bool} {w w' : World} (h : JS J Jx all sp rest w) (hb : Below w.heap.size w w') : JS J Jx all sp rest w' := by
  cases sp with
  | false => obtain ⟨k, h0, h1, h2⟩ := h; exact ⟨k, h0, hJ _ _ _ h1 hb, h2⟩
  | true => obtain ⟨k, h1, h2⟩ := h; exact ⟨k, h1, hJx _ _ _ h2 hb⟩
variable {E : Env D} {N : Nat} {fr : List (Nat × Blk D)} {ts : List Nat} {H : Hp} {lp : Nat} {J Jx : Nat → World → Prop} {all : List (TupD D ts)}
def IS (J Jx : Nat → World → Prop) (all : List (TupD D ts)) (fr : List (Nat × Blk D)) (H : Hp) (ρ : RM) (sp : Bool) (rest : List (TupD D ts)) (st : St D) (σ : Nat → Value) (w : World) : Prop := ∃ wy L, Sat fr [] wy H [] H ρ L st σ w ∧ JS J Jx all sp rest wy
theorem IS.ag {ρ : RM} {sp : Bool} {rest : List (TupD D ts)} {st : St D} {σ : Nat → Value} {w : World} (h : IS J Jx all fr H ρ sp rest st σ w) : AgH H w := by
  obtain ⟨wy, L, hs, _⟩ := h
  exact hs.mem.agree
theorem IS.put {ρ : RM} {sp : Bool} {rest : List (TupD D ts)} {st : St D} {σ : Nat → Value} {w : World} (h : IS J Jx all fr H ρ sp rest st σ w) {x : Value} {v : SV D} (hv : Rv H ρ x v) (d : Option Nat) : IS J Jx all fr H ρ sp rest (st.put d v) (upd σ d x) w := by
  obtain ⟨wy, L, hs, hj⟩ := h
  exact ⟨wy, L, hs.put hv d, hj⟩
theorem IS.know {ρ : RM} {sp : Bool} {rest : List (TupD D ts)} {st : St D} {σ : Nat → Value} {w : World} (h : IS J Jx all fr H ρ sp rest st σ w) {c : Operand} {b : Bool} (hc : ev σ c = .bool b) : IS J Jx all fr H ρ sp rest (st.know c b) σ w := by
  obtain ⟨wy, L, hs, hj⟩ := h
  exact ⟨wy, L, hs.know hc, hj⟩
theorem IS.res {ρ : RM} {sp : Bool} {rest : List (TupD D ts)} {st : St D} {σ : Nat → Value} {w : World} (h : IS J Jx all fr H ρ sp rest st σ w) {x : Value} {v : SV D} (hv : Rv H ρ x v) : Rv H ρ x (Go.Proofs.YtgojhiknicmopaaGreatDoor.res st.kn v) := by
  obtain ⟨wy, L, hs, _⟩ := h
  exact hs.res hv
theorem IS.slr {ρ : RM} {sp : Bool} {rest : List (TupD D ts)} {st : St D} {σ : Nat → Value} {w : World} (h : IS J Jx all fr H ρ sp rest st σ w) : SlR H ρ st.sl σ := by
  obtain ⟨wy, L, hs, _⟩ := h
  exact hs.sl
def YOk (P : Program) (ts : List Nat) (H : Hp) (lp : Nat) (J Jx : Nat → World → Prop) (all : List (TupD D ts)) : Prop := ∀ k A0 vs, k < all.length → (∃ y, all[k]? = some y ∧ ArgsR P H ts y vs) → J k A0 → (∀ b o, H b = some o → A0.heap[b]? = some o) → Yield P lp vs A0 fun v B => (∀ b o, H b = some o → B.heap[b]? = some o) ∧ ((v = .bool true ∧ J (k + 1) B) ∨ (v = .bool false ∧ Jx k B))
def GoesI (fr : List (Nat × Blk D)) (H : Hp) (J Jx : Nat → World → Prop) (all : List (TupD D ts)) (ρ : RM) (K : Bool → St D → List (TupD D ts) → Prop) (T : (Nat → Value) → World → Prop) : Prop := ∀ sp' st' rest' σ' w' ρ', K sp' st' rest' → RM.le ρ ρ' → IS J Jx all fr H ρ' sp' rest' st' σ' w' → T σ' w'
theorem GoesI.mono {ρ ρ' : RM} {K : Bool → St D → List (TupD D ts) → Prop} {T : (Nat → Value) → World → Prop} (h : GoesI fr H J Jx all ρ K T) (hρ : RM.le ρ ρ') : GoesI fr H J Jx all ρ' K T := fun sp st rest σ w ρ2 hk h1 hs => h sp st rest σ w ρ2 hk (hρ.trans h1) hs
theorem memI_ok {P : Program} {tb : Tb D} {σ : Nat → Value} {ty : TypeId} {w w0 : World} {H0 : Hp} {ρ : RM} {R L F : List Ent} {st st' : St D} (hs : Sat fr F w0 H0 R H ρ L st σ w) {op : Op} {v : SV D} (h : memI P tb st fr op = some (v, st')) : Dn P σ op ty w fun x w' => ∃ ρ' L', RM.le ρ ρ' ∧ Sat fr F w0 H0 R H ρ' L' st' σ w' ∧ Rv H ρ' x v := by
  unfold memI at h
  split at h
  · rename_i T
    split at h
    · rename_i gs v' ef ha
      cases h
      unfold alE at ha
      split at ha
      · rename_i l hl
        cases ha
        obtain ⟨z, hz, hc⟩ := zcE_ok hl
        intro r md N ops l2 Q Dd d pos af gd hg hd k
        refine RW.alloc hs.mem hz z.cells.toList (by simp) hg hd fun b w' hM => k _ _ ?_
        obtain ⟨a1, a2⟩ := hs.new (q := .b b) (b := .box T l) (Hp.le.refl _) ⟨b, _, RM.put_same _ _ _, rfl, hc _ _⟩ hM
        exact ⟨_, _, a1, a2, b, RM.put_same _ _ _, rfl⟩
      · cases ha
    · cases h
  · rename_i T x
    split at h
    · rename_i a hvs
      split at h
      · rename_i gs v' ef ha
        cases h
        unfold bxE at ha
        obtain ⟨ho, ha⟩ := cif ha
        cases ha
        obtain ⟨y, e, h1⟩ := rv1 (opVals_ok hs hvs)
        cases e
        obtain ⟨us, g1, g2⟩ := cellsV_ok ho h1
        intro r md N ops l2 Q Dd d pos af gd hg hd k
        refine RW.box hs.mem _ us rfl g1 hg hd fun b w' hM => k _ _ ?_
        obtain ⟨a1, a2⟩ := hs.new (q := .b b) (b := .box T (cellsV a)) (Hp.le.refl _) ⟨b, us, RM.put_same _ _ _, rfl, g2.mono (Hp.le.refl _) (hs.fresh _)⟩ hM
        exact ⟨_, _, a1, a2, b, RM.put_same _ _ _, rfl⟩
      · cases h
    · cases h
  · rename_i T x y
    split at h
    · rename_i id off b hvs
      split at h
      · rename_i gs v' ef ha
        cases h
        obtain ⟨x', y', e, h1, h2⟩ := rv2 (opVals_ok hs hvs)
        cases e
        unfold stE at ha
        obtain ⟨ho, ha⟩ := cif ha
        rw [Bool.and_eq_true] at ho
        obtain ⟨ho, hsz⟩ := ho
        obtain ⟨us, g1, g2⟩ := cellsV_ok ho h2
        have hlen := RvL.length g2
        have hsz : ∃ i, P.info? T = some i ∧ i.size = us.length := by rw [hlen]; exact size_of hsz
        have h1c : ∀ u ∈ us, u.oneCell' = true := oneL_ok ho g2
        obtain ⟨bl, e1, e2⟩ := h1
        intro r md N ops l2 Q Dd d pos af gd hg hd k
        simp only at ha
        split at ha
        · rename_i T' cs hl
          obtain ⟨hle, ha⟩ := cif ha
          cases ha
          obtain ⟨L1, S, L2, ⟨b', vs, f1, rfl, f3⟩, hM, hK⟩ := hs.write hl
          rw [e1] at f1; cases f1
          refine RW.store hM L1.length _ us _ hsz e2 rfl g1 h1c (get_at _ _ _) (by rw [hlen, RvL.length f3]; exact Nat.le_of_ble_eq_true hle) rfl _ (set_at _ _ _ _) hg hd fun w' hM' => k _ _ ?_
          exact ⟨ρ, _, RM.le.refl _, hK (Hp.le.refl _) (RM.le.refl _) ⟨bl, _, e1, rfl, setC_ok f3 g2⟩ hM' hs.nx, rfl⟩
        · cases ha
      · cases h
    · cases h
  · cases h
theorem yOp_ok (hE : E.Ok) (hG : E.G H) (hJ : ∀ k A B, J k A → Below A.heap.size A B → J k B) (hY : YOk E.P ts H lp J Jx all) {r : Option Nat} {md : Nat} {ops : Array Oper} {Q : Exit → List Deferred → (Nat → Value) → World → Prop} {Dd : List Deferred} {K : Bool → St D → List (TupD D ts) → Prop} {ρ : RM} (h0 : ρ 0 = some (.v (.func (.yield lp) #[] #[]))) {o : Oper} {l : List Oper} {sp : Bool} {st : St D} {rest : List (TupD D ts)} {σ : Nat → Value} {w : World} (hs : IS J Jx all fr H ρ sp rest st σ w) (h : yOp E fr ts o sp st rest K) (hgd : gdOk ops σ o.guard = true) (hd : dstOk o.dst N = true)
    (hk : GoesI fr H J Jx all ρ K fun σ' w' => RW r md E.P N ops l Q Dd σ' w') : RW r md E.P N ops (o :: l) Q Dd σ w := by
  obtain ⟨wy, L, hs, hj⟩ := hs
  unfold yOp at h
  split at h
  · rename_i xs hy
    split at h
    · exact h.elim
    · cases rest with
      | nil => exact h.elim
      | cons x rr =>
      simp only [Yl] at h
      obtain ⟨k, _, hJk, hrest⟩ := hj
      have hkl : k < all.length := by
        rcases Nat.lt_or_ge k all.length with h1 | h1
        · exact h1
        · rw [List.drop_eq_nil_of_le h1] at hrest; cases hrest
      rw [List.drop_eq_getElem_cons hkl] at hrest
      obtain ⟨rfl, rfl⟩ := List.cons.inj hrest
      split at h
      · rename_i vs hvs
        split at h
        · rename_i ls hls
          split at h
          · rename_i a ha
            obtain ⟨hax, hT, hF⟩ := h
            have hA := argsC_ok hE.tb ts (opVals_ok hs hvs) hls ha
            rw [hax] at hA
            obtain ⟨d, op, ty, ps, af, gd⟩ := o
            obtain ⟨g, ys, tys, hop, hg, rfl⟩ := yieldE_ok (op := op) hy
            subst hop
            have hgv : ρ 0 = some (.v (ev σ g)) := evO_ok hs.sl hg
            rw [h0] at hgv
            have hgv : ev σ g = .func (.yield lp) #[] #[] := by
              have := Option.some.inj hgv
              injection this with this
              exact this.symm
            have fresh : ∀ {w' : World}, (∀ b o, H b = some o → w'.heap[b]? = some o) → Sat fr [] w' H [] H ρ [] (⟨st.sl, [], st.kn, st.nx⟩ : St D) σ w' := fun hag => ⟨Mem.start hag, hs.sl, rfl, hs.fr, hs.kn, hs.nx⟩
            refine RW.yield hgv rfl (hY k w _ hkl ⟨_, List.getElem?_eq_getElem hkl, hA⟩ (hJ _ _ _ hJk hs.mem.below) hs.mem.agree) hgd hd fun v w' ⟨hag, hv⟩ => ?_
            rcases hv with ⟨rfl, hv⟩ | ⟨rfl, hv⟩
            · exact hk _ _ _ _ _ _ hT (RM.le.refl _) ⟨w', [], (fresh hag).put (v := .k true) rfl d, (show JS J Jx all false _ _ from ⟨k + 1, hkl, hv, rfl⟩)⟩
            · exact hk _ _ _ _ _ _ hF (RM.le.refl _) ⟨w', [], (fresh hag).put (v := .k false) rfl d, (show JS J Jx all true _ _ from ⟨k, hkl, hv⟩)⟩
          · exact h.elim
        · exact h.elim
      · exact h.elim
  · split at h
    · split at h
      · rename_i v st' hm
        obtain ⟨d, op, ty, ps, af, gd⟩ := o
        refine memI_ok (ty := ty) hs hm hgd hd fun x w' ⟨ρ', L', a1, a2, a3⟩ => ?_
        exact hk _ _ _ _ _ _ h a1 ⟨wy, L', a2.put a3 d, hj⟩
      · exact h.elim
    · obtain ⟨v, e, nb, hi, h1, h2⟩ := stepD_ok (ops := ops) hE h
      cases e with
      | true => exact h1.elim
      | false =>
        rcases h2 [] none with ⟨_, _, hq⟩ | ⟨hq, _⟩
        · refine RW.cons1 (hq hG (show Sat fr [] wy H [] H ρ L ⟨st.sl, st.bk, st.kn, st.nx⟩ σ w from hs) hgd hd fun x w' hm hx => RW.nil ⟨rfl, ?_⟩)
          have hM := hm _ hs.mem
          exact hk _ _ _ _ _ _ h1 (RM.le.refl _) ⟨wy, L, (⟨hM, hs.sl, hs.bk, hs.fr, hs.kn, hs.nx⟩ : Sat fr [] wy H [] H ρ L st σ w').put hx o.dst, hj⟩
        · cases hq
theorem runY_ok (hE : E.Ok) (hG : E.G H) (hJ : ∀ k A B, J k A → Below A.heap.size A B → J k B) (hY : YOk E.P ts H lp J Jx all) {r : Option Nat} {md : Nat} {ops : Array Oper} {Q : Exit → List Deferred → (Nat → Value) → World → Prop} {Dd : List Deferred} {K : Bool → St D → List (TupD D ts) → Prop} : ∀ {l : List Oper} {ρ : RM} {sp : Bool} {st : St D} {rest : List (TupD D ts)} {σ : Nat → Value} {w : World}, ρ 0 = some (.v (.func (.yield lp) #[] #[])) → IS J Jx all fr H ρ sp rest st σ w → runY E N fr ts ops l sp st rest K → (GoesI fr H J Jx all ρ K fun σ' w' => Q .normal Dd σ' w') → RW r md E.P N ops l Q Dd σ w
  | [], ρ, sp, st, rest, σ, w, h0, hs, h, hk => RW.nil (hk _ _ _ _ _ _ h (RM.le.refl _) hs)
  | o :: l, ρ, sp, st, rest, σ, w, h0, hs, h, hk => by
    unfold runY at h
    obtain ⟨hd, h⟩ := cifP h
    have step : ∀ {st : St D}, IS J Jx all fr H ρ sp rest st σ w → gdOk ops σ o.guard = true → (yOp E fr ts o sp st rest fun sp' st' rest' => runY E N fr ts ops l sp' st' rest' K) → RW r md E.P N ops (o :: l) Q Dd σ w := fun hs hgt h => yOp_ok hE hG hJ hY h0 hs h hgt hd fun sp' st' rest' σ' w' ρ' h1 h2 h3 => runY_ok hE hG hJ hY (h2 _ _ h0) h3 h1 (hk.mono h2)
    have pass : ∀ {st : St D}, IS J Jx all fr H ρ sp rest st σ w → gdOk ops σ o.guard = false → runY E N fr ts ops l sp (st.put o.dst (.c undef)) rest K → RW r md E.P N ops (o :: l) Q Dd σ w := fun hs hgf h => by
      obtain ⟨d, op, ty, ps, af, gd⟩ := o
      exact RW.pass hgf hd (runY_ok hE hG hJ hY h0 (hs.put (v := .c undef) rfl d) h hk)
    have gok : ∀ {j want d} {x : Bool}, o.guard = some (j, want) → (ops[j]?).bind (·.dst) = some d → σ d = .bool x → gdOk ops σ o.guard = (x == want) := fun h1 h2 h3 => by
      unfold gdOk
      rw [h1]
      simp only [h2, h3]
    unfold gdE at h
    cases hgd : o.guard with
    | none =>
      simp only [hgd] at h
      exact step hs (by rw [hgd]; rfl) h
    | some jw =>
      obtain ⟨j, want⟩ := jw
      simp only [hgd] at h
      cases hj' : (ops[j]?).bind (·.dst) with
      | none =>
        simp only [hj'] at h
        refine pass hs ?_ h
        unfold gdOk
        rw [hgd]
        simp only [hj']
      | some d =>
        simp only [hj'] at h
        cases hsl : (getS st.sl d).map (Go.Proofs.YtgojhiknicmopaaGreatDoor.res st.kn) with
        | none => simp only [hsl] at h
        | some s =>
          obtain ⟨v0, hv0, hv1⟩ := Option.map_eq_some_iff.1 hsl
          have hv2 := hs.res (hs.slr _ _ hv0)
          rw [hv1] at hv2
          simp only [hsl] at h
          have ask : ∀ {v : SV D}, Rv H ρ (σ d) v → askF v (cdP want (yOp E fr ts o sp (st.know (.tmp d) true) rest fun sp' st' rest' => runY E N fr ts ops l sp' st' rest' K) (runY E N fr ts ops l sp ((st.know (.tmp d) true).put o.dst (.c undef)) rest K))
              (cdP want (runY E N fr ts ops l sp ((st.know (.tmp d) false).put o.dst (.c undef)) rest K) (yOp E fr ts o sp (st.know (.tmp d) false) rest fun sp' st' rest' => runY E N fr ts ops l sp' st' rest' K)) → RW r md E.P N ops (o :: l) Q Dd σ w := fun hv h => by
            rcases askF_ok hv h with ⟨e, h⟩ | ⟨e, h⟩
            · have hk := hs.know (c := .tmp d) (b := true) e
              have hgg := gok hgd hj' e
              cases want with
              | true => exact step hk hgg h
              | false => exact pass hk hgg h
            · have hk := hs.know (c := .tmp d) (b := false) e
              have hgg := gok hgd hj' e
              cases want with
              | true => exact pass hk hgg h
              | false => exact step hk hgg h
          cases s with
          | k b =>
            simp only at h
            have hgg := gok hgd hj' (show σ d = .bool b from hv2)
            cases hb : b == want with
            | true => rw [hb] at h; exact step hs (hgg.trans hb) h
            | false => rw [hb] at h; exact pass hs (hgg.trans hb) h
          | c v =>
            simp only at h
            cases hb : isBoolV v with
            | true => rw [hb] at h; exact h.elim
            | false =>
              rw [hb] at h
              refine pass hs ?_ h
              unfold gdOk
              rw [hgd]
              simp only [hj', show σ d = v from hv2]
              cases v <;> first | rfl | cases hb
          | b x => exact ask hv2 h
          | p p i => exact ask hv2 h
          | _ => exact h.elim
theorem runYF_ok (hE : E.Ok) (hG : E.G H) (hJ : ∀ k A B, J k A → Below A.heap.size A B → J k B) (hY : YOk E.P ts H lp J Jx all) {md : Nat} {ops : Array Oper} {fl : List Nat} {Dd : List Deferred} {K : Bool → St D → List (TupD D ts) → Prop} {Q : Exit → Act → World → Prop} (hQ : ∀ c a w, ¬ Q (.panic c) a w) (hsel : Region.noSelect ops = true) : ∀ {g : List Nat} {ls : Array Bool} {ρ : RM} {sp : Bool} {st : St D} {rest : List (TupD D ts)} {σ : Nat → Value} {w : World} {a : Act},
    ρ 0 = some (.v (.func (.yield lp) #[] #[])) → Rep N Dd σ a → IS J Jx all fr H ρ sp rest st σ w → runYF E N fr ts ops fl g sp st rest K → flB ops fl g ls = true → (GoesI fr H J Jx all ρ K fun σ' w' => ∀ a', Rep N Dd σ' a' → Q .normal a' w') → wpAnyG (FR none) md E.P ops Q (AgH H) g.length ls a w
  | [], ls, ρ, sp, st, rest, σ, w, a, h0, ha, hs, h, hf, k => ⟨List.isEmpty_iff.1 hf, k _ _ _ _ _ _ h (RM.le.refl _) hs a ha⟩
  | i :: g, ls, ρ, sp, st, rest, σ, w, a, h0, ha, hs, h, hf, k => by
    unfold runYF at h
    unfold flB at hf
    rw [Bool.and_eq_true, Bool.and_eq_true] at hf
    obtain ⟨⟨hr, hfr⟩, hf⟩ := hf
    have hr : i ∈ Region.ready .any ops ls := by simpa using hr
    cases ho : ops[i]? with
    | none => simp only [ho] at h
    | some o =>
      simp only [ho] at h
      obtain ⟨hd, h⟩ := cifP h
      have ag : AgH H w := hs.ag
      have hwt : Region.wanted o (yielded ops a.tmps) = gdOk ops σ o.guard := wanted_of ha
      have more : ∀ {st' : St D} {sp' : Bool} {rest' : List (TupD D ts)} {σ' : Nat → Value} {w' : World} {ρ' : RM} {a' : Act}, Rep N Dd σ' a' → runYF E N fr ts ops fl g sp' st' rest' K → RM.le ρ ρ' → IS J Jx all fr H ρ' sp' rest' st' σ' w' → wpAnyG (FR none) md E.P ops Q (AgH H) g.length (ls.setIfInBounds i true) a' w' := fun h1 h2 h3 h4 => runYF_ok hE hG hJ hY hQ hsel (h3 _ _ h0) h1 h4 h2 hf (k.mono h3)
      have quiet : fl.any (Nat.beq i) = true → isQuiet o = true := fun hq => by
        rw [hq, cond_true, ho, Bool.and_eq_true] at hfr
        exact hfr.1
      have first : ∀ {v : Value}, fl.any (Nat.beq i) = true → YG (AgH H) E.P ops o v a → wpAnyG (FR none) md E.P ops Q (AgH H) g.length (ls.setIfInBounds i true) (a.put o.dst v) w → wpAnyG (FR none) md E.P ops Q (AgH H) (g.length + 1) ls a w := fun hq hy hw => by
        rw [hq, cond_true, Bool.and_eq_true] at hfr
        exact wpAnyG_first rfl ho (Region.noSelect_spec hsel) (fun c a w hc => absurd hc (hQ _ _ _)) g.length ls a w ag (Region.free_spec ho hfr.2) hr hy hw
      have only : fl.any (Nat.beq i) = false → wpOpIn (FR none) md E.P ops Q i (fun a' w' => AgH H w' ∧ wpAnyG (FR none) md E.P ops Q (AgH H) g.length (ls.setIfInBounds i true) a' w') a w → wpAnyG (FR none) md E.P ops Q (AgH H) (g.length + 1) ls a w := fun hq hw => by
        rw [hq, cond_false] at hfr
        have e : Region.ready .any ops ls = [i] := eqL_ok hfr
        refine ⟨fun h => (by rw [e] at h; cases h), fun j hj => ?_⟩
        rw [e, List.mem_singleton] at hj
        subst hj; exact hw
      have noAbout : ∀ f, o.about E.P w a.eval = some f → (FR none).fn f := fun f _ => FR_fn _ f
      have pass : ∀ {st : St D}, IS J Jx all fr H ρ sp rest st σ w → gdOk ops σ o.guard = false → runYF E N fr ts ops fl g sp (st.put o.dst (.c undef)) rest K → wpAnyG (FR none) md E.P ops Q (AgH H) (g.length + 1) ls a w := fun hs hg h => by
        have hw := more (ha.put hd undef) h (RM.le.refl _) (hs.put (v := .c undef) rfl o.dst)
        cases hq : fl.any (Nat.beq i) with
        | false =>
          refine only hq ?_
          unfold wpOpIn
          rw [ho]
          simp only
          rw [hwt, hg]
          exact ⟨noAbout, ag, hw⟩
        | true => exact first hq ⟨.inr ⟨hwt.trans hg, rfl⟩, fun w => isQuiet_about (quiet hq) a w⟩ hw
      have step : ∀ {st : St D}, IS J Jx all fr H ρ sp rest st σ w → gdOk ops σ o.guard = true → yFl E fr ts (fl.any (Nat.beq i)) o sp st rest (fun sp' st' rest' => runYF E N fr ts ops fl g sp' st' rest' K) → wpAnyG (FR none) md E.P ops Q (AgH H) (g.length + 1) ls a w := fun {st} hs hg h => by
        unfold yFl at h
        cases hq : fl.any (Nat.beq i) with
        | true =>
          rw [hq] at h
          simp only at h
          split at h
          · rename_i v hv
            have hs0 := hs
            obtain ⟨wy, L, hs, hj⟩ := hs
            obtain ⟨⟨x, h1, h2⟩, h3⟩ := quietE_ok hs hv
            refine first hq ⟨.inl ⟨hwt.trans hg, fun w' hw' => ?_⟩, fun w => h3 a w⟩ (more (ha.put hd x) h (RM.le.refl _) (hs0.put h1 o.dst))
            rw [ha.eval]
            exact h2 w' hw' _ _ _ _
          · exact h.elim
        | false =>
          rw [hq] at h
          simp only at h
          refine only hq ?_
          let Q1 : Exit → List Deferred → (Nat → Value) → World → Prop := fun e D' σ' w' => match e with
            | .normal => D' = Dd ∧ AgH H w' ∧ ∀ a', Rep N Dd σ' a' → wpAnyG (FR none) md E.P ops Q (AgH H) g.length (ls.setIfInBounds i true) a' w'
            | _ => False
          have h1 : RW none md E.P N ops [o] Q1 Dd σ w := yOp_ok hE hG hJ hY h0 hs h hg hd fun sp' st' rest' σ' w' ρ' g1 g2 g3 => RW.nil ⟨rfl, g3.ag, fun a' ha' => more ha' g1 g2 g3⟩
          have h2 := h1 a ha
          unfold wpListIn at h2
          unfold wpOpIn
          rw [ho]
          simp only
          rw [hwt, hg] at h2 ⊢
          simp only [if_true] at h2 ⊢
          refine Oper.wpIn_QK (fun a' w' hk => ?_) (fun e a' w' hne hk => ?_) h2
          · obtain ⟨D', σ', g1, g2, g3, g4⟩ := (show lift N Q1 .normal a' w' from hk)
            subst g2
            exact ⟨g3, g4 a' g1⟩
          · obtain ⟨D', σ', g1, g2⟩ := hk
            cases e with
            | normal => exact absurd rfl hne
            | _ => exact g2.elim
      have gok : ∀ {j want d} {x : Bool}, o.guard = some (j, want) → (ops[j]?).bind (·.dst) = some d → σ d = .bool x → gdOk ops σ o.guard = (x == want) := fun h1 h2 h3 => by
        unfold gdOk
        rw [h1]
        simp only [h2, h3]
      unfold gdE at h
      cases hgd : o.guard with
      | none =>
        simp only [hgd] at h
        exact step hs (by rw [hgd]; rfl) h
      | some jw =>
        obtain ⟨j, want⟩ := jw
        simp only [hgd] at h
        cases hj : (ops[j]?).bind (·.dst) with
        | none =>
          simp only [hj] at h
          refine pass hs ?_ h
          unfold gdOk
          rw [hgd]
          simp only [hj]
        | some d =>
          simp only [hj] at h
          cases hsl : (getS st.sl d).map (Go.Proofs.YtgojhiknicmopaaGreatDoor.res st.kn) with
          | none => simp only [hsl] at h
          | some s =>
            obtain ⟨v0, hv0, hv1⟩ := Option.map_eq_some_iff.1 hsl
            have hv2 := hs.res (hs.slr _ _ hv0)
            rw [hv1] at hv2
            simp only [hsl] at h
            have ask : ∀ {v : SV D}, Rv H ρ (σ d) v → askF v (cdP want (yFl E fr ts (fl.any (Nat.beq i)) o sp (st.know (.tmp d) true) rest (fun sp' st' rest' => runYF E N fr ts ops fl g sp' st' rest' K)) (runYF E N fr ts ops fl g sp ((st.know (.tmp d) true).put o.dst (.c undef)) rest K))
                (cdP want (runYF E N fr ts ops fl g sp ((st.know (.tmp d) false).put o.dst (.c undef)) rest K) (yFl E fr ts (fl.any (Nat.beq i)) o sp (st.know (.tmp d) false) rest (fun sp' st' rest' => runYF E N fr ts ops fl g sp' st' rest' K))) → wpAnyG (FR none) md E.P ops Q (AgH H) (g.length + 1) ls a w := fun hv h => by
              rcases askF_ok hv h with ⟨e, h⟩ | ⟨e, h⟩
              · have hk := hs.know (c := .tmp d) (b := true) e
                have hgg := gok hgd hj e
                cases want with
                | true => exact step hk hgg h
                | false => exact pass hk hgg h
              · have hk := hs.know (c := .tmp d) (b := false) e
                have hgg := gok hgd hj e
                cases want with
                | true => exact pass hk hgg h
                | false => exact step hk hgg h
            cases s with
            | k b =>
              simp only at h
              have hgg := gok hgd hj (show σ d = .bool b from hv2)
              cases hb : b == want with
              | true => rw [hb] at h; exact step hs (hgg.trans hb) h
              | false => rw [hb] at h; exact pass hs (hgg.trans hb) h
            | c v =>
              simp only at h
              cases hb : isBoolV v with
              | true => rw [hb] at h; exact h.elim
              | false =>
                rw [hb] at h
                refine pass hs ?_ h
                unfold gdOk
                rw [hgd]
                simp only [hj, show σ d = v from hv2]
                cases v <;> first | rfl | cases hb
            | b x => exact ask hv2 h
            | p p i => exact ask hv2 h
            | _ => exact h.elim
theorem runI_ok (hE : E.Ok) (hG : E.G H) (hJ : ∀ k A B, J k A → Below A.heap.size A B → J k B) (hY : YOk E.P ts H lp J Jx all) : ∀ (c : Code) {pos : List Nat} {sp : Bool} {st : St D} {rest : List (TupD D ts)} {σ : Nat → Value} {w : World} {ρ : RM} {K : Exit → Bool → St D → List (TupD D ts) → Prop} {Q : Exit → List Deferred → (Nat → Value) → World → Prop} {md : Nat},
    ρ 0 = some (.v (.func (.yield lp) #[] #[])) → IS J Jx all fr H ρ sp rest st σ w → runI E N fr ts c pos sp st rest K → (∀ e, GoesI fr H J Jx all ρ (K e) fun σ' w' => Q e [] σ' w') → CW none md E.P N c Q [] σ w := by
  intro c
  induction c with
  | skip => intro pos sp st rest σ w ρ K Q md h0 hs h hk; exact CW.skip (hk _ _ _ _ _ _ _ h (RM.le.refl _) hs)
  | ret => intro pos sp st rest σ w ρ K Q md h0 hs h hk; exact CW.ret (hk _ _ _ _ _ _ _ h (RM.le.refl _) hs)
  | exit id => intro pos sp st rest σ w ρ K Q md h0 hs h hk; exact CW.exit (hk _ _ _ _ _ _ _ h (RM.le.refl _) hs)
  | region id ops draw =>
    intro pos sp st rest σ w ρ K Q md h0 hs h hk
    unfold runI at h
    cases draw with
    | false =>
      obtain ⟨l⟩ := ops
      exact CW.region (runY_ok hE hG hJ hY h0 hs h (hk .normal))
    | true =>
      simp only at h
      split at h
      · rename_i pe hpe
        split at h
        · rename_i g hrw
          intro a ha
          obtain ⟨hc, h⟩ := cifP h
          rw [Bool.and_eq_true, Bool.and_eq_true] at hc
          obtain ⟨hc1, hc2, hc3⟩ := hc
          let Q1 : Exit → Act → World → Prop := fun e a w => match e with
            | .normal => lift N Q .normal a w
            | _ => False
          have hs' : IS J Jx all fr H ρ sp rest st σ { w with drawn := w.drawn + 1 } := by
            obtain ⟨wy, L, hs, hj⟩ := hs
            exact ⟨wy, L, ⟨hs.mem.drew, hs.sl, hs.bk, hs.fr, hs.kn, hs.nx⟩, hj⟩
          have h1 := runYF_ok (Q := Q1) (md := md) (Dd := []) hE hG hJ hY (fun _ _ _ hq => hq) hc1 h0 ha hs' h hc3 fun sp' st' rest' σ' w' ρ' g1 g2 g3 a' ha' => ⟨[], σ', ha', hk _ _ _ _ _ _ _ g1 g2 g3⟩
          rw [Nat.eq_of_beq_eq_true hc2] at h1
          refine wpIn_mono (wpIn_region_any hE.mo h1.any) fun e a' w' hq => ?_
          cases e with
          | normal => exact hq
          | _ => exact hq.elim
        · exact h.elim
      · exact h.elim
  | cond c a b iha ihb =>
    intro pos sp st rest σ w ρ K Q md h0 hs h hk
    unfold runI at h
    cases hc : (evO st.sl c).map (Go.Proofs.YtgojhiknicmopaaGreatDoor.res st.kn) with
    | none => simp only [hc] at h
    | some s =>
      obtain ⟨v0, hv0, hv1⟩ := Option.map_eq_some_iff.1 hc
      have hv2 := hs.res (evO_ok hs.slr hv0)
      rw [hv1] at hv2
      simp only [hc] at h
      have ask : askF s (runI E N fr ts a (2 :: pos) sp (st.know c true) rest K) (runI E N fr ts b (3 :: pos) sp (st.know c false) rest K) → CW none md E.P N (.cond c a b) Q [] σ w := fun h => by
        rcases askF_ok hv2 h with ⟨e, h⟩ | ⟨e, h⟩
        · exact CW.cond_true e (iha h0 (hs.know e) h hk)
        · exact CW.cond_false e (ihb h0 (hs.know e) h hk)
      cases s with
      | k x =>
        cases x with
        | true => exact CW.cond_true hv2 (iha h0 hs h hk)
        | false => exact CW.cond_false hv2 (ihb h0 hs h hk)
      | _ => exact ask h
  | block id c ih =>
    intro pos sp st rest σ w ρ K Q md h0 hs h hk
    refine CW.block (ih h0 hs h fun e => ?_)
    intro sp' st' rest' σ' w' ρ' h1 h2 h3
    cases e with
    | exit id' =>
      show bif Nat.beq id' id then Q .normal [] σ' w' else Q (.exit id') [] σ' w'
      have h1 : cdP (Nat.beq id' id) (K .normal sp' st' rest') (K (.exit id') sp' st' rest') := h1
      cases hb : Nat.beq id' id with
      | true => rw [hb] at h1; exact hk _ _ _ _ _ _ _ h1 h2 h3
      | false => rw [hb] at h1; exact hk _ _ _ _ _ _ _ h1 h2 h3
    | _ => exact hk _ _ _ _ _ _ _ h1 h2 h3
  | seq a b iha ihb =>
    intro pos sp st rest σ w ρ K Q md h0 hs h hk
    unfold runI at h
    refine CW.seq (iha h0 hs h fun e => ?_)
    intro sp' st' rest' σ' w' ρ' h1 h2 h3
    cases e with
    | normal => exact ihb (h2 _ _ h0) h3 h1 fun e => (hk e).mono h2
    | _ => exact hk _ _ _ _ _ _ _ h1 h2 h3
  | loop c ih =>
    intro pos sp st rest σ w ρ K Q md h0 hs h hk
    unfold runI at h
    split at h
    · rename_i pe hpe
      obtain ⟨wy, L, hs, hj⟩ := hs
      obtain ⟨ρ1, g1, g2⟩ := hs.tag
      split at h
      · rename_i s0 hs0
        obtain ⟨m, hm⟩ := h
        generalize hstep : (fun (q : List (TupD D ts) × TupV D pe.tp.vts) (rec : List (TupD D ts) × TupV D pe.tp.vts → Prop) => _) = step at hm
        obtain ⟨ρ2, L2, st2, e1, e2, e3⟩ := fillE_ok (kn := st.tag.kn) g2.nx (Hp.le.refl _) (RM.le.refl _) g2.kn g2.fr g2 hs0
        refine CW.loop (β := Nat) (fun n σ w => ∃ rest s ρ' st', RM.le ρ1 ρ' ∧ makeE pe.tp st.tag.nx st.tag.kn s = some st' ∧ IS J Jx all fr H ρ' false rest st' σ w ∧ LoopN step n (rest, s)) (fun n => n) m ⟨rest, s0, ρ2, st2, e2, e1, ⟨wy, L2, e3, hj⟩, hm⟩ ?_
        rintro n σ w ⟨rest, s, ρ', st', f1, f2, f3, f8⟩
        cases n with
        | zero => exact f8.elim
        | succ n =>
          have f8 : step (rest, s) (LoopN step n) := f8
          rw [← hstep] at f8
          simp only [f2] at f8
          split at f8
          · refine ih (f1 _ _ (g1 _ _ h0)) f3 f8 fun e => ?_
            intro sp3 st3 rest3 σ3 w3 ρ3 h1 h2 h3
            cases e with
            | normal =>
              show [] = [] ∧ _
              refine ⟨rfl, ?_⟩
              simp only at h1
              cases sp3 with
              | true => exact h1.elim
              | false =>
                simp only at h1
                split at h1
                · rename_i s' hfill
                  obtain ⟨wy3, L3, hs3, hj3⟩ := h3
                  obtain ⟨ρ4, L4, st4, i1, i2, i3⟩ := fillE_ok (kn := st.tag.kn) g2.nx (Hp.le.refl _) (f1.trans h2) g2.kn g2.fr hs3 hfill
                  exact ⟨n, ⟨rest3, s', ρ4, st4, i2, i1, ⟨wy3, L4, i3, hj3⟩, by rw [hstep] at h1; exact h1⟩, Nat.lt_succ_self _⟩
                · exact h1.elim
            | _ => exact hk _ _ _ _ _ _ _ h1 ((g1.trans f1).trans h2) h3
          · exact f8.elim
      · exact h.elim
    · exact h.elim
  | rangeFunc f ps a b _ _ => intro pos sp st rest σ w ρ K Q md h0 hs h hk; exact h.elim
  | scope c _ => intro pos sp st rest σ w ρ K Q md h0 hs h hk; exact h.elim
  | label l => intro pos sp st rest σ w ρ K Q md h0 hs h hk; exact h.elim
  | goto l => intro pos sp st rest σ w ρ K Q md h0 hs h hk; exact h.elim
  | refuse s => intro pos sp st rest σ w ρ K Q md h0 hs h hk; exact h.elim
def ptrsE : Nat → List Nat → List (SV D)
  | _, [] => []
  | n, _ :: r => .ptr n 0 :: ptrsE (n + 1) r
def frE : Nat → List Nat → List (List (SV D)) → List (Nat × Blk D)
  | n, t :: r, c :: m => (n, .fbx t c) :: frE (n + 1) r m
  | _, _, _ => []
theorem caps_open {P : Program} {tb : Tb D} (htb : TbOk tb) : ∀ {cs : List Nat} {x : TupD D cs} {lb : List Value} {ls : List (List (SV D))} {n : Nat} {ρ0 : RM}, CapsR H cs x lb → tupC tb cs x = some ls → (∀ id, n ≤ id → ρ0 id = none) → ∃ ρ, RM.le ρ0 ρ ∧ (∀ id, n + cs.length ≤ id → ρ id = none) ∧ RvL H ρ lb (ptrsE (D := D) n cs) ∧ BkR H ρ (frE n cs ls) []
  | [], _, lb, ls, n, ρ0, h, hl, hn => by
    cases hl
    exact ⟨ρ0, RM.le.refl _, hn, h, rfl⟩
  | t :: r, x, lb, ls, n, ρ0, ⟨b, us, q, e, h1, h2, h3⟩, hl, hn => by
    rw [tupC] at hl
    cases ha : toC tb t x.1 with
    | none => simp only [ha] at hl; cases hl
    | some a =>
      cases hb : tupC tb r x.2 with
      | none => simp only [ha, hb] at hl; cases hl
      | some m =>
        simp only [ha, hb] at hl
        cases hl
        obtain ⟨f1, f2⟩ := fresh_put hn (.b b)
        obtain ⟨ρ, g1, g2, g3, g4⟩ := caps_open (P := P) htb h3 hb f2
        have hp : ρ n = some (.b b) := g1 _ _ (RM.put_same _ _ _)
        refine ⟨ρ, f1.trans g1, fun id hid => g2 id (by rw [List.length_cons] at hid; omega), ⟨_, q, e, ⟨b, hp, rfl⟩, g3⟩, [], [], rfl, ⟨rfl, b, us, hp, h1, toC_ok htb ha h2⟩, g4⟩
def iterF (E : Env D) (f : Nat) (cs ts : List Nat) (x : TupD D cs) (l : List (TupD D ts)) : Prop := match tupC E.tb cs x with
  | some ls => match E.P.funcs[f]? with
    | some fn => match fn.body with
      | some c => match fn.results.toList with
        | [] => cdP (Nat.ble (cs.length + 1) fn.ntmps) (runI E fn.ntmps (frE 1 cs ls) ts c [] false ⟨slotsOf 0 (.kp 0 :: ptrsE 1 cs), [], [], 1 + cs.length⟩ l fun e sp _ rest => cdP (isEnd e) (match sp with
          | true => True
          | false => rest = []) False) False
        | _ :: _ => False
      | none => False
    | none => False
  | none => False
theorem It.lift (hE : E.Ok) (it : It D) (h : ∀ x l, it.W x l → iterF E it.f it.cs it.ts x l) : it.Ok E.P E.G := by
  intro x l hW H lb hG hC lp J Jx W hag hJ hJx hY hJ0
  have hF := h x l hW
  unfold iterF at hF
  split at hF
  · rename_i ls hls
    split at hF
    · rename_i fn hfn
      split at hF
      · rename_i c hc
        split at hF
        · rename_i hres
          obtain ⟨hN, hF⟩ := cifP hF
          obtain ⟨f1, f2⟩ := fresh_put (ρ := fun _ => none) (nx := 0) (fun _ _ => rfl) (.v (.func (.yield lp) #[] #[]))
          obtain ⟨ρ, g1, g2, g3, g4⟩ := caps_open (P := E.P) hE.tb hC hls f2
          have h0 : ρ 0 = some (.v (.func (.yield lp) #[] #[])) := g1 _ _ (RM.put_same _ _ _)
          have hv : RvL H ρ (Value.func (.yield lp) #[] #[] :: lb) (.kp 0 :: ptrsE 1 it.cs) := ⟨_, lb, rfl, h0, g3⟩
          refine calls_of_code hfn hc (by
            have hlen := RvL.length g3
            have hp : ∀ (n : Nat) (cs : List Nat), (ptrsE (D := D) n cs).length = cs.length := fun n cs => by
              induction cs generalizing n with
              | nil => rfl
              | cons _ _ ih => simp [ptrsE, ih]
            have := Nat.le_of_ble_eq_true hN
            simp [hlen, hp]; exact this) ?_
          refine runI_ok (all := l) (J := J) (Jx := Jx) (sp := false) (rest := l) (H := H) (ρ := ρ) hE hG hJ (fun k A0 vs hk hvs hJk hA => hY k A0 vs hk hvs hJk hA) c h0 ⟨W, [], ⟨Mem.start hag, slotsOf_ok hv, (show BkR H ρ ([] : List (Nat × Blk D)) [] from rfl), g4, (fun _ _ h => by cases h), fun id hid => g2 id hid⟩, 0, Nat.zero_le _, hJ0, rfl⟩ hF fun e => ?_
          intro sp' st' rest' σ' w' ρ' h1 h2 h3
          obtain ⟨wy3, L3, h3, hj3⟩ := h3
          have h4 := hj3.below hJ hJx h3.mem.below
          obtain ⟨he, h1⟩ := cifP h1
          obtain ⟨ux, e1, e2⟩ := results_ok (vs := []) hE.tb h3 (by rw [hres]; rfl)
          refine ⟨isEnd_ok he, rfl, tupVal ux, e2, ?_⟩
          cases sp' with
          | true =>
            obtain ⟨k, hk, hx⟩ := h4
            exact .inr ⟨k, hk, hx⟩
          | false =>
            obtain ⟨k, hkn, hk, hr⟩ := h4
            have h1 : rest' = [] := h1
            rw [h1] at hr
            have hkl : l.length ≤ k := List.drop_eq_nil_iff.1 hr.symm
            rw [show k = l.length by omega] at hk
            exact .inl hk
        · exact hF.elim
      · exact hF.elim
    · exact hF.elim
  · exact hF.elim
end
end
end Go.Proofs.YtgojhiknicmopaaGreatDoor
namespace Go.Proofs.YtgojhiknicmopaaGreatDoor
def insZ (x : Int) : List Int → List Int
  | [] => [x]
  | y :: r => if x ≤ y then x :: y :: r else y :: insZ x r
def sortZ : List Int → List Int
  | [] => []
  | x :: r => insZ x (sortZ r)
theorem insZ_perm (x : Int) : ∀ l : List Int, (insZ x l).Perm (x :: l)
  | [] => List.Perm.refl _
  | y :: r => by
    unfold insZ
    split
    · exact List.Perm.refl _
    · exact ((insZ_perm x r).cons y).trans (List.Perm.swap x y r)
theorem sortZ_self : ∀ l : List Int, (sortZ l).Perm l
  | [] => List.Perm.refl _
  | x :: r => (insZ_perm x (sortZ r)).trans ((sortZ_self r).cons x)
theorem insZ_sorted (x : Int) : ∀ l : List Int, l.Pairwise (fun a b => a ≤ b) → (insZ x l).Pairwise (fun a b => a ≤ b)
  | [], _ => by simp [insZ]
  | y :: r, h => by
    have h1 := List.pairwise_cons.1 h
    unfold insZ
    split
    · rename_i hxy
      refine List.pairwise_cons.2 ⟨fun b hb => ?_, h⟩
      rcases List.mem_cons.1 hb with rfl | hb
      · exact hxy
      · exact Int.le_trans hxy (h1.1 b hb)
    · rename_i hxy
      refine List.pairwise_cons.2 ⟨fun b hb => ?_, insZ_sorted x r h1.2⟩
      rcases List.mem_cons.1 ((insZ_perm x r).mem_iff.1 hb) with rfl | hb
      · omega
      · exact h1.1 b hb
theorem sortZ_sorted : ∀ l : List Int, (sortZ l).Pairwise fun a b => a ≤ b
  | [] => List.Pairwise.nil
  | x :: r => insZ_sorted x _ (sortZ_sorted r)
end Go.Proofs.YtgojhiknicmopaaGreatDoor
namespace Go.Proofs.YtgojhiknicmopaaGreatDoor
open Go.RowKit
structure api_Bitmap where
  Size : Int
  Words : List (BitVec 64)
  deriving DecidableEq
instance dt_api_Bitmap : Dt api_Bitmap where
  default := ⟨0, []⟩
  sz := 2
  rd H cs x := ∃ A0 n0 c0 s0, cs = [.int .i64 (x.Size), .slice A0 n0 c0] ∧ Fz H A0 n0 c0 x.Words s0
  len := fun ⟨A0, n0, c0, s0, h, h0⟩ => by rw [h]; rfl
  mono := fun ⟨A0, n0, c0, s0, h, h0⟩ hle => ⟨A0, n0, c0, s0, h, h0.mono hle⟩
  one := fun ⟨A0, n0, c0, s0, h, h0⟩ => by rw [h]; exact oneAll ⟨rfl, rfl, trivial⟩
structure api_Peer where
  Site : Int
  Common : Int
  Dirty : List api_Bitmap
  deriving DecidableEq
instance dt_api_Peer : Dt api_Peer where
  default := ⟨0, 0, []⟩
  sz := 3
  rd H cs x := ∃ A0 n0 c0 s0, cs = [.int .i64 (x.Site), .int .i64 (x.Common), .slice A0 n0 c0] ∧ Fz H A0 n0 c0 x.Dirty s0
  len := fun ⟨A0, n0, c0, s0, h, h0⟩ => by rw [h]; rfl
  mono := fun ⟨A0, n0, c0, s0, h, h0⟩ hle => ⟨A0, n0, c0, s0, h, h0.mono hle⟩
  one := fun ⟨A0, n0, c0, s0, h, h0⟩ => by rw [h]; exact oneAll ⟨rfl, rfl, rfl, trivial⟩
structure api_Tracker where
  Sizes : List Int
  Peers : List api_Peer
  deriving DecidableEq
instance dt_api_Tracker : Dt api_Tracker where
  default := ⟨[], []⟩
  sz := 2
  rd H cs x := ∃ A0 n0 c0 s0, ∃ A1 n1 c1 s1, cs = [.slice A0 n0 c0, .slice A1 n1 c1] ∧ Fz H A0 n0 c0 x.Sizes s0 ∧ Fz H A1 n1 c1 x.Peers s1
  len := fun ⟨A0, n0, c0, s0, A1, n1, c1, s1, h, h0, h1⟩ => by rw [h]; rfl
  mono := fun ⟨A0, n0, c0, s0, A1, n1, c1, s1, h, h0, h1⟩ hle => ⟨A0, n0, c0, s0, A1, n1, c1, s1, h, h0.mono hle, h1.mono hle⟩
  one := fun ⟨A0, n0, c0, s0, A1, n1, c1, s1, h, h0, h1⟩ => by rw [h]; exact oneAll ⟨rfl, rfl, trivial⟩
structure api_Write where
  Volume : Int
  Start : Int
  Data : List Sec
  deriving DecidableEq
instance dt_api_Write : Dt api_Write where
  default := ⟨0, 0, []⟩
  sz := 3
  rd H cs x := ∃ A0 n0 c0 s0, cs = [.int .i64 (x.Volume), .int .i64 (x.Start), .slice A0 n0 c0] ∧ Fz H A0 n0 c0 x.Data s0
  len := fun ⟨A0, n0, c0, s0, h, h0⟩ => by rw [h]; rfl
  mono := fun ⟨A0, n0, c0, s0, h, h0⟩ hle => ⟨A0, n0, c0, s0, h, h0.mono hle⟩
  one := fun ⟨A0, n0, c0, s0, h, h0⟩ => by rw [h]; exact oneAll ⟨rfl, rfl, rfl, trivial⟩
structure api_Extent where
  Start : Int
  Count : Int
  deriving DecidableEq
instance dt_api_Extent : Dt api_Extent where
  default := ⟨0, 0⟩
  sz := 2
  rd H cs x := cs = [.int .i64 (x.Start), .int .i64 (x.Count)]
  len h := by rw [h]; rfl
  mono h _ := h
  one h := by rw [h]; exact oneAll ⟨rfl, rfl, trivial⟩
structure api_Cycle where
  Base : Int
  Number : Int
  Time : Int
  Positions : List Int
  Writes : List api_Write
  deriving DecidableEq
instance dt_api_Cycle : Dt api_Cycle where
  default := ⟨0, 0, 0, [], []⟩
  sz := 5
  rd H cs x := ∃ A0 n0 c0 s0, ∃ A1 n1 c1 s1, cs = [.int .i64 (x.Base), .int .i64 (x.Number), .int .i64 (x.Time), .slice A0 n0 c0, .slice A1 n1 c1] ∧ Fz H A0 n0 c0 x.Positions s0 ∧ Fz H A1 n1 c1 x.Writes s1
  len := fun ⟨A0, n0, c0, s0, A1, n1, c1, s1, h, h0, h1⟩ => by rw [h]; rfl
  mono := fun ⟨A0, n0, c0, s0, A1, n1, c1, s1, h, h0, h1⟩ hle => ⟨A0, n0, c0, s0, A1, n1, c1, s1, h, h0.mono hle, h1.mono hle⟩
  one := fun ⟨A0, n0, c0, s0, A1, n1, c1, s1, h, h0, h1⟩ => by rw [h]; exact oneAll ⟨rfl, rfl, rfl, rfl, rfl, trivial⟩
structure standbylaw43_Agreement where
  Site : Int
  Number : Int
  Later : List api_Cycle
  deriving DecidableEq
instance dt_standbylaw43_Agreement : Dt standbylaw43_Agreement where
  default := ⟨0, 0, []⟩
  sz := 3
  rd H cs x := ∃ A0 n0 c0 s0, cs = [.int .i64 (x.Site), .int .i64 (x.Number), .slice A0 n0 c0] ∧ Fz H A0 n0 c0 x.Later s0
  len := fun ⟨A0, n0, c0, s0, h, h0⟩ => by rw [h]; rfl
  mono := fun ⟨A0, n0, c0, s0, h, h0⟩ hle => ⟨A0, n0, c0, s0, h, h0.mono hle⟩
  one := fun ⟨A0, n0, c0, s0, h, h0⟩ => by rw [h]; exact oneAll ⟨rfl, rfl, rfl, trivial⟩
structure wire_cursor where
  left : List (BitVec 8)
  deriving DecidableEq
instance dt_wire_cursor : Dt wire_cursor where
  default := ⟨[]⟩
  sz := 1
  rd H cs x := ∃ A0 n0 c0 s0, cs = [.slice A0 n0 c0] ∧ Fz H A0 n0 c0 x.left s0
  len := fun ⟨A0, n0, c0, s0, h, h0⟩ => by rw [h]; rfl
  mono := fun ⟨A0, n0, c0, s0, h, h0⟩ hle => ⟨A0, n0, c0, s0, h, h0.mono hle⟩
  one := fun ⟨A0, n0, c0, s0, h, h0⟩ => by rw [h]; exact oneAll ⟨rfl, trivial⟩
structure standbylaw43_Step where
  Kind : BitVec 8
  Volume : BitVec 8
  Start : BitVec 8
  Count : BitVec 8
  First : BitVec 8
  deriving DecidableEq
instance dt_standbylaw43_Step : Dt standbylaw43_Step where
  default := ⟨0#8, 0#8, 0#8, 0#8, 0#8⟩
  sz := 5
  rd H cs x := cs = [u8 (x.Kind), u8 (x.Volume), u8 (x.Start), u8 (x.Count), u8 (x.First)]
  len h := by rw [h]; rfl
  mono h _ := h
  one h := by rw [h]; exact oneAll ⟨rfl, rfl, rfl, rfl, rfl, trivial⟩
structure Arr2_int where
  e0 : Int
  e1 : Int
  deriving DecidableEq
instance dt_Arr2_int : Dt Arr2_int where
  default := ⟨0, 0⟩
  sz := 2
  rd H cs x := cs = [.int .i64 (x.e0), .int .i64 (x.e1)]
  len h := by rw [h]; rfl
  mono h _ := h
  one h := by rw [h]; exact oneAll ⟨rfl, rfl, trivial⟩
structure standbylaw43_run where
  t : api_Tracker
  im : List (List Sec)
  images : List (List (List Sec))
  cycles : List api_Cycle
  open_ : List api_Write
  has : Arr2_int
  deriving DecidableEq
instance dt_standbylaw43_run : Dt standbylaw43_run where
  default := ⟨default, [], [], [], [], default⟩
  sz := 8
  rd H cs x := ∃ A0 n0 c0 s0, ∃ A1 n1 c1 s1, ∃ A2 n2 c2 s2, ∃ A3 n3 c3 s3, ∃ A4 n4 c4 s4, ∃ A5 n5 c5 s5, cs = [.slice A0 n0 c0, .slice A1 n1 c1, .slice A2 n2 c2, .slice A3 n3 c3, .slice A4 n4 c4, .slice A5 n5 c5, .int .i64 (x.has.e0), .int .i64 (x.has.e1)] ∧ Fz H A0 n0 c0 x.t.Sizes s0 ∧ Fz H A1 n1 c1 x.t.Peers s1 ∧ Fz H A2 n2 c2 x.im s2 ∧ Fz H A3 n3 c3 x.images s3 ∧ Fz H A4 n4 c4 x.cycles s4 ∧ Fz H A5 n5 c5 x.open_ s5
  len := fun ⟨A0, n0, c0, s0, A1, n1, c1, s1, A2, n2, c2, s2, A3, n3, c3, s3, A4, n4, c4, s4, A5, n5, c5, s5, h, h0, h1, h2, h3, h4, h5⟩ => by rw [h]; rfl
  mono := fun ⟨A0, n0, c0, s0, A1, n1, c1, s1, A2, n2, c2, s2, A3, n3, c3, s3, A4, n4, c4, s4, A5, n5, c5, s5, h, h0, h1, h2, h3, h4, h5⟩ hle => ⟨A0, n0, c0, s0, A1, n1, c1, s1, A2, n2, c2, s2, A3, n3, c3, s3, A4, n4, c4, s4, A5, n5, c5, s5, h, h0.mono hle, h1.mono hle, h2.mono hle, h3.mono hle, h4.mono hle, h5.mono hle⟩
  one := fun ⟨A0, n0, c0, s0, A1, n1, c1, s1, A2, n2, c2, s2, A3, n3, c3, s3, A4, n4, c4, s4, A5, n5, c5, s5, h, h0, h1, h2, h3, h4, h5⟩ => by rw [h]; exact oneAll ⟨rfl, rfl, rfl, rfl, rfl, rfl, rfl, rfl, trivial⟩
structure api_Capture where
  Number : Int
  Sizes : List Int
  Positions : List Int
  Nodes : List Int
  Writes : List api_Write
  deriving DecidableEq
instance dt_api_Capture : Dt api_Capture where
  default := ⟨0, [], [], [], []⟩
  sz := 5
  rd H cs x := ∃ A0 n0 c0 s0, ∃ A1 n1 c1 s1, ∃ A2 n2 c2 s2, ∃ A3 n3 c3 s3, cs = [.int .i64 (x.Number), .slice A0 n0 c0, .slice A1 n1 c1, .slice A2 n2 c2, .slice A3 n3 c3] ∧ Fz H A0 n0 c0 x.Sizes s0 ∧ Fz H A1 n1 c1 x.Positions s1 ∧ Fz H A2 n2 c2 x.Nodes s2 ∧ Fz H A3 n3 c3 x.Writes s3
  len := fun ⟨A0, n0, c0, s0, A1, n1, c1, s1, A2, n2, c2, s2, A3, n3, c3, s3, h, h0, h1, h2, h3⟩ => by rw [h]; rfl
  mono := fun ⟨A0, n0, c0, s0, A1, n1, c1, s1, A2, n2, c2, s2, A3, n3, c3, s3, h, h0, h1, h2, h3⟩ hle => ⟨A0, n0, c0, s0, A1, n1, c1, s1, A2, n2, c2, s2, A3, n3, c3, s3, h, h0.mono hle, h1.mono hle, h2.mono hle, h3.mono hle⟩
  one := fun ⟨A0, n0, c0, s0, A1, n1, c1, s1, A2, n2, c2, s2, A3, n3, c3, s3, h, h0, h1, h2, h3⟩ => by rw [h]; exact oneAll ⟨rfl, rfl, rfl, rfl, rfl, trivial⟩
structure cycle_division where
  c : api_Capture
  part : List Bool
  deriving DecidableEq
instance dt_cycle_division : Dt cycle_division where
  default := ⟨default, []⟩
  sz := 6
  rd H cs x := ∃ A0 n0 c0 s0, ∃ A1 n1 c1 s1, ∃ A2 n2 c2 s2, ∃ A3 n3 c3 s3, ∃ A4 n4 c4 s4, cs = [.int .i64 (x.c.Number), .slice A0 n0 c0, .slice A1 n1 c1, .slice A2 n2 c2, .slice A3 n3 c3, .slice A4 n4 c4] ∧ Fz H A0 n0 c0 x.c.Sizes s0 ∧ Fz H A1 n1 c1 x.c.Positions s1 ∧ Fz H A2 n2 c2 x.c.Nodes s2 ∧ Fz H A3 n3 c3 x.c.Writes s3 ∧ Fz H A4 n4 c4 x.part s4
  len := fun ⟨A0, n0, c0, s0, A1, n1, c1, s1, A2, n2, c2, s2, A3, n3, c3, s3, A4, n4, c4, s4, h, h0, h1, h2, h3, h4⟩ => by rw [h]; rfl
  mono := fun ⟨A0, n0, c0, s0, A1, n1, c1, s1, A2, n2, c2, s2, A3, n3, c3, s3, A4, n4, c4, s4, h, h0, h1, h2, h3, h4⟩ hle => ⟨A0, n0, c0, s0, A1, n1, c1, s1, A2, n2, c2, s2, A3, n3, c3, s3, A4, n4, c4, s4, h, h0.mono hle, h1.mono hle, h2.mono hle, h3.mono hle, h4.mono hle⟩
  one := fun ⟨A0, n0, c0, s0, A1, n1, c1, s1, A2, n2, c2, s2, A3, n3, c3, s3, A4, n4, c4, s4, h, h0, h1, h2, h3, h4⟩ => by rw [h]; exact oneAll ⟨rfl, rfl, rfl, rfl, rfl, rfl, trivial⟩
structure coalesce_place where
  volume : Int
  sector : Int
  deriving DecidableEq
instance dt_coalesce_place : Dt coalesce_place where
  default := ⟨0, 0⟩
  sz := 2
  rd H cs x := cs = [.int .i64 (x.volume), .int .i64 (x.sector)]
  len h := by rw [h]; rfl
  mono h _ := h
  one h := by rw [h]; exact oneAll ⟨rfl, rfl, trivial⟩
  ks := some ([.i .i64, .i .i64], fun x => [.i .i64 x.volume, .i .i64 x.sector])
  ksOk := fun _ _ h => by
    cases h
    refine ⟨fun _ _ _ => Iff.rfl, fun _ => rfl, fun a b h => ?_⟩
    obtain ⟨a_0, a_1⟩ := a
    obtain ⟨b_0, b_1⟩ := b
    simp only [List.cons.injEq, Sc.i.injEq, true_and, and_true] at h
    obtain ⟨e0, e1⟩ := h
    subst e0
    subst e1
    rfl
instance dtUnit : Dt Unit where
  default := ()
  sz := 0
  rd _ cs _ := cs = []
  len h := by rw [h]; rfl
  mono h _ := h
  one h := by rw [h]; intro u hu; cases hu
structure TyR where
  α : Type
  inst : Dt α
def tyOf (t : Nat) : TyR := bif Nat.beq t 4 then ⟨Bool, inferInstance⟩ else bif Nat.beq t 3 then ⟨Int, inferInstance⟩ else bif Nat.beq t 155 then ⟨BitVec 64, inferInstance⟩ else bif Nat.beq t 86 then ⟨api_Bitmap, inferInstance⟩ else bif Nat.beq t 89 then ⟨api_Peer, inferInstance⟩ else bif Nat.beq t 25 then ⟨api_Tracker, inferInstance⟩ else bif Nat.beq t 22 then ⟨List Int, inferInstance⟩ else bif Nat.beq t 52 then ⟨List api_Bitmap, inferInstance⟩ else bif Nat.beq t 28 then ⟨Int, inferInstance⟩ else bif Nat.beq t 82 then ⟨Sec, inferInstance⟩ else bif Nat.beq t 37 then ⟨List Sec, inferInstance⟩ else bif Nat.beq t 73 then ⟨List (List Sec), inferInstance⟩ else bif Nat.beq t 72 then ⟨List (List Sec), inferInstance⟩ else bif Nat.beq t 23 then ⟨List api_Peer, inferInstance⟩ else bif Nat.beq t 39 then ⟨api_Write, inferInstance⟩ else bif Nat.beq t 168 then ⟨List Bool, inferInstance⟩ else bif Nat.beq t 84 then ⟨List (BitVec 64), inferInstance⟩ else bif Nat.beq t 92 then ⟨api_Extent, inferInstance⟩ else bif Nat.beq t 49 then ⟨api_Cycle, inferInstance⟩ else bif Nat.beq t 43 then ⟨List api_Cycle, inferInstance⟩ else bif Nat.beq t 47 then ⟨List api_Write, inferInstance⟩ else bif Nat.beq t 93 then ⟨List api_Extent, inferInstance⟩ else bif Nat.beq t 156 then ⟨List (List api_Extent), inferInstance⟩ else bif Nat.beq t 5 then ⟨BitVec 8, inferInstance⟩ else bif Nat.beq t 64 then ⟨List (BitVec 8), inferInstance⟩ else bif Nat.beq t 45 then ⟨standbylaw43_Agreement, inferInstance⟩ else bif Nat.beq t 235 then ⟨wire_cursor, inferInstance⟩ else bif Nat.beq t 185 then ⟨Ptr wire_cursor, inferInstance⟩ else bif Nat.beq t 69 then ⟨BitVec 16, inferInstance⟩ else bif Nat.beq t 147 then ⟨standbylaw43_Step, inferInstance⟩ else bif Nat.beq t 71 then ⟨List standbylaw43_Step, inferInstance⟩ else bif Nat.beq t 77 then ⟨standbylaw43_run, inferInstance⟩ else bif Nat.beq t 143 then ⟨api_Capture, inferInstance⟩ else bif Nat.beq t 215 then ⟨cycle_division, inferInstance⟩ else bif Nat.beq t 269 then ⟨coalesce_place, inferInstance⟩ else ⟨Unit, dtUnit⟩
abbrev DD (t : Nat) : Type := (tyOf t).α
instance dtDD (t : Nat) : Dt (DD t) := (tyOf t).inst
def xI : SV DD → Option Int
 | .i .i64 n => some n
 | _ => none
def xW : SV DD → Option (BitVec 64)
 | .w x => some x
 | _ => none
def xY : SV DD → Option (BitVec 8)
 | .y x => some x
 | _ => none
def xT : SV DD → Option ByteArray
 | .st x => some x
 | _ => none
def xS (e : Nat) : SV DD → Option (List (DD e))
 | .fsl e' xs => castL e' e xs
 | .nil => some []
 | _ => none
def xH (_ : SV DD) : Option (BitVec 16) := none
theorem xH_cq {a : SV DD} {n : BitVec 16} (h : xH a = some n) : CQ a (.i .u16 (n.toNat : Int)) := by cases h
theorem xI_cq {a : SV DD} {n : Int} (h : xI a = some n) : CQ a (.i .i64 n) := by
  unfold xI at h
  split at h
  · cases h; exact .inr ⟨rfl, rfl, fun _ _ _ h => h⟩
  · cases h
theorem xW_cq {a : SV DD} {n : BitVec 64} (h : xW a = some n) : CQ a (.w n) := by
  unfold xW at h
  split at h
  · cases h; exact .inr ⟨rfl, rfl, fun _ _ _ h => h⟩
  · cases h
theorem xY_cq {a : SV DD} {n : BitVec 8} (h : xY a = some n) : CQ a (.y n) := by
  unfold xY at h
  split at h
  · cases h; exact .inr ⟨rfl, rfl, fun _ _ _ h => h⟩
  · cases h
theorem xB_cq {a : SV DD} {n : Bool} (h : boolOf a = some n) : CQ a (.b n) := by
  cases a <;> first | (cases h; exact .inr ⟨rfl, rfl, fun _ _ _ h => h⟩) | cases h
theorem xS_cq {e : Nat} {a : SV DD} {n : List (DD e)} (h : xS e a = some n) : CQ a (.fsl e n) := by
  unfold xS at h
  split at h
  · obtain ⟨he, h1⟩ := castL_ok h
    subst he
    subst h1
    exact .inl ⟨_, _, rfl, .inl rfl⟩
  · cases h; exact .inl ⟨_, _, rfl, .inr ⟨rfl, rfl⟩⟩
  · cases h
theorem bindS {α β : Type} {o : Option α} {f : α → Option β} {x : β} (h : o.bind f = some x) : ∃ v, o = some v ∧ f v = some x := Option.bind_eq_some_iff.1 h
def ofc4 : List (SV DD) → Option (DD 4)
 | [a0] => (boolOf a0).bind fun v0 => some v0
 | _ => none
def ce4 : CE DD := ⟨4, fun x => [.b (x)], ofc4, none⟩
theorem ceOk4 : ce4.Ok where
  rdi := @fun H ρ cs x => ⟨fun h => by
    obtain h := (show Dt.rd (α := Bool) H cs x from h)
    subst h
    exact ⟨_, _, rfl, rfl, rfl⟩, fun h => by
    obtain ⟨v0, r0, e0, p0, e⟩ := h
    have e : r0 = [] := e
    subst e
    subst e0
    have p0 : v0 = _ := p0
    subst p0
    exact (show Dt.rd (α := Bool) H _ x from rfl)⟩
  cq := @fun l x h => by
    change ofc4 l = some x at h
    unfold ofc4 at h
    split at h
    · obtain ⟨v0, h0, h⟩ := bindS h
      cases h
      exact ⟨_, _, rfl, xB_cq h0, rfl⟩
    · cases h
  eqc := fun d a b c1 c2 hd h1 h2 => by cases hd
def ofc3 : List (SV DD) → Option (DD 3)
 | [a0] => (xI a0).bind fun v0 => some v0
 | _ => none
def ce3 : CE DD := ⟨3, fun x => [.i .i64 (x)], ofc3, some (inferInstanceAs (DecidableEq Int))⟩
theorem sc3 (a b : Int) : (([.i .i64 (a)] : List Sc) = [.i .i64 (b)]) ↔ a = b := ⟨(Dt.ksOk (α := Int) _ _ rfl).2.2 a b, fun h => by rw [h]⟩
theorem ceOk3 : ce3.Ok where
  rdi := @fun H ρ cs x => ⟨fun h => by
    obtain h := (show Dt.rd (α := Int) H cs x from h)
    subst h
    exact ⟨_, _, rfl, rfl, rfl⟩, fun h => by
    obtain ⟨v0, r0, e0, p0, e⟩ := h
    have e : r0 = [] := e
    subst e
    subst e0
    have p0 : v0 = _ := p0
    subst p0
    exact (show Dt.rd (α := Int) H _ x from rfl)⟩
  cq := @fun l x h => by
    change ofc3 l = some x at h
    unfold ofc3 at h
    split at h
    · obtain ⟨v0, h0, h⟩ := bindS h
      cases h
      exact ⟨_, _, rfl, xI_cq h0, rfl⟩
    · cases h
  eqc := fun d a b c1 c2 hd h1 h2 => by
    cases h1; cases h2
    exact sc3 a b
def ofc155 : List (SV DD) → Option (DD 155)
 | [a0] => (xW a0).bind fun v0 => some v0
 | _ => none
def ce155 : CE DD := ⟨155, fun x => [.w (x)], ofc155, none⟩
theorem ceOk155 : ce155.Ok where
  rdi := @fun H ρ cs x => ⟨fun h => by
    obtain h := (show Dt.rd (α := BitVec 64) H cs x from h)
    subst h
    exact ⟨_, _, rfl, rfl, rfl⟩, fun h => by
    obtain ⟨v0, r0, e0, p0, e⟩ := h
    have e : r0 = [] := e
    subst e
    subst e0
    have p0 : v0 = _ := p0
    subst p0
    exact (show Dt.rd (α := BitVec 64) H _ x from rfl)⟩
  cq := @fun l x h => by
    change ofc155 l = some x at h
    unfold ofc155 at h
    split at h
    · obtain ⟨v0, h0, h⟩ := bindS h
      cases h
      exact ⟨_, _, rfl, xW_cq h0, rfl⟩
    · cases h
  eqc := fun d a b c1 c2 hd h1 h2 => by cases hd
def ofc86 : List (SV DD) → Option (DD 86)
 | [a0, a1] => (xI a0).bind fun v0 => (xS 155 a1).bind fun v1 => some ⟨v0, v1⟩
 | _ => none
def ce86 : CE DD := ⟨86, fun x => [.i .i64 (x.Size), .fsl 155 (x.Words)], ofc86, none⟩
theorem ceOk86 : ce86.Ok where
  rdi := @fun H ρ cs x => ⟨fun h => by
    obtain ⟨A0, n0, c0, s0, h, h0⟩ := (show Dt.rd (α := api_Bitmap) H cs x from h)
    subst h
    exact ⟨_, _, rfl, rfl, _, _, rfl, ⟨A0, n0, c0, s0, rfl, h0⟩, rfl⟩, fun h => by
    obtain ⟨v0, r0, e0, p0, v1, r1, e1, ⟨A0, n0, c0, s0, p1, h0⟩, e⟩ := h
    have e : r1 = [] := e
    subst e
    subst e1
    subst e0
    have p0 : v0 = _ := p0
    subst p0
    subst p1
    exact (show Dt.rd (α := api_Bitmap) H _ x from ⟨A0, n0, c0, s0, rfl, h0⟩)⟩
  cq := @fun l x h => by
    change ofc86 l = some x at h
    unfold ofc86 at h
    split at h
    · obtain ⟨v0, h0, h⟩ := bindS h
      obtain ⟨v1, h1, h⟩ := bindS h
      cases h
      exact ⟨_, _, rfl, xI_cq h0, _, _, rfl, xS_cq h1, rfl⟩
    · cases h
  eqc := fun d a b c1 c2 hd h1 h2 => by cases hd
def ofc89 : List (SV DD) → Option (DD 89)
 | [a0, a1, a2] => (xI a0).bind fun v0 => (xI a1).bind fun v1 => (xS 86 a2).bind fun v2 => some ⟨v0, v1, v2⟩
 | _ => none
def ce89 : CE DD := ⟨89, fun x => [.i .i64 (x.Site), .i .i64 (x.Common), .fsl 86 (x.Dirty)], ofc89, none⟩
theorem ceOk89 : ce89.Ok where
  rdi := @fun H ρ cs x => ⟨fun h => by
    obtain ⟨A0, n0, c0, s0, h, h0⟩ := (show Dt.rd (α := api_Peer) H cs x from h)
    subst h
    exact ⟨_, _, rfl, rfl, _, _, rfl, rfl, _, _, rfl, ⟨A0, n0, c0, s0, rfl, h0⟩, rfl⟩, fun h => by
    obtain ⟨v0, r0, e0, p0, v1, r1, e1, p1, v2, r2, e2, ⟨A0, n0, c0, s0, p2, h0⟩, e⟩ := h
    have e : r2 = [] := e
    subst e
    subst e2
    subst e1
    subst e0
    have p0 : v0 = _ := p0
    subst p0
    have p1 : v1 = _ := p1
    subst p1
    subst p2
    exact (show Dt.rd (α := api_Peer) H _ x from ⟨A0, n0, c0, s0, rfl, h0⟩)⟩
  cq := @fun l x h => by
    change ofc89 l = some x at h
    unfold ofc89 at h
    split at h
    · obtain ⟨v0, h0, h⟩ := bindS h
      obtain ⟨v1, h1, h⟩ := bindS h
      obtain ⟨v2, h2, h⟩ := bindS h
      cases h
      exact ⟨_, _, rfl, xI_cq h0, _, _, rfl, xI_cq h1, _, _, rfl, xS_cq h2, rfl⟩
    · cases h
  eqc := fun d a b c1 c2 hd h1 h2 => by cases hd
def ofc25 : List (SV DD) → Option (DD 25)
 | [a0, a1] => (xS 3 a0).bind fun v0 => (xS 89 a1).bind fun v1 => some ⟨v0, v1⟩
 | _ => none
def ce25 : CE DD := ⟨25, fun x => [.fsl 3 (x.Sizes), .fsl 89 (x.Peers)], ofc25, none⟩
theorem ceOk25 : ce25.Ok where
  rdi := @fun H ρ cs x => ⟨fun h => by
    obtain ⟨A0, n0, c0, s0, A1, n1, c1, s1, h, h0, h1⟩ := (show Dt.rd (α := api_Tracker) H cs x from h)
    subst h
    exact ⟨_, _, rfl, ⟨A0, n0, c0, s0, rfl, h0⟩, _, _, rfl, ⟨A1, n1, c1, s1, rfl, h1⟩, rfl⟩, fun h => by
    obtain ⟨v0, r0, e0, ⟨A0, n0, c0, s0, p0, h0⟩, v1, r1, e1, ⟨A1, n1, c1, s1, p1, h1⟩, e⟩ := h
    have e : r1 = [] := e
    subst e
    subst e1
    subst e0
    subst p0
    subst p1
    exact (show Dt.rd (α := api_Tracker) H _ x from ⟨A0, n0, c0, s0, A1, n1, c1, s1, rfl, h0, h1⟩)⟩
  cq := @fun l x h => by
    change ofc25 l = some x at h
    unfold ofc25 at h
    split at h
    · obtain ⟨v0, h0, h⟩ := bindS h
      obtain ⟨v1, h1, h⟩ := bindS h
      cases h
      exact ⟨_, _, rfl, xS_cq h0, _, _, rfl, xS_cq h1, rfl⟩
    · cases h
  eqc := fun d a b c1 c2 hd h1 h2 => by cases hd
def ofc22 : List (SV DD) → Option (DD 22)
 | [a0] => (xS 3 a0).bind fun v0 => some v0
 | _ => none
def ce22 : CE DD := ⟨22, fun x => [.fsl 3 (x)], ofc22, none⟩
theorem ceOk22 : ce22.Ok where
  rdi := @fun H ρ cs x => ⟨fun h => by
    obtain ⟨A0, n0, c0, s0, h, h0⟩ := (show Dt.rd (α := List Int) H cs x from h)
    subst h
    exact ⟨_, _, rfl, ⟨A0, n0, c0, s0, rfl, h0⟩, rfl⟩, fun h => by
    obtain ⟨v0, r0, e0, ⟨A0, n0, c0, s0, p0, h0⟩, e⟩ := h
    have e : r0 = [] := e
    subst e
    subst e0
    subst p0
    exact (show Dt.rd (α := List Int) H _ x from ⟨A0, n0, c0, s0, rfl, h0⟩)⟩
  cq := @fun l x h => by
    change ofc22 l = some x at h
    unfold ofc22 at h
    split at h
    · obtain ⟨v0, h0, h⟩ := bindS h
      cases h
      exact ⟨_, _, rfl, xS_cq h0, rfl⟩
    · cases h
  eqc := fun d a b c1 c2 hd h1 h2 => by cases hd
def ofc52 : List (SV DD) → Option (DD 52)
 | [a0] => (xS 86 a0).bind fun v0 => some v0
 | _ => none
def ce52 : CE DD := ⟨52, fun x => [.fsl 86 (x)], ofc52, none⟩
theorem ceOk52 : ce52.Ok where
  rdi := @fun H ρ cs x => ⟨fun h => by
    obtain ⟨A0, n0, c0, s0, h, h0⟩ := (show Dt.rd (α := List api_Bitmap) H cs x from h)
    subst h
    exact ⟨_, _, rfl, ⟨A0, n0, c0, s0, rfl, h0⟩, rfl⟩, fun h => by
    obtain ⟨v0, r0, e0, ⟨A0, n0, c0, s0, p0, h0⟩, e⟩ := h
    have e : r0 = [] := e
    subst e
    subst e0
    subst p0
    exact (show Dt.rd (α := List api_Bitmap) H _ x from ⟨A0, n0, c0, s0, rfl, h0⟩)⟩
  cq := @fun l x h => by
    change ofc52 l = some x at h
    unfold ofc52 at h
    split at h
    · obtain ⟨v0, h0, h⟩ := bindS h
      cases h
      exact ⟨_, _, rfl, xS_cq h0, rfl⟩
    · cases h
  eqc := fun d a b c1 c2 hd h1 h2 => by cases hd
def ofc28 : List (SV DD) → Option (DD 28)
 | [a0] => (xI a0).bind fun v0 => some v0
 | _ => none
def ce28 : CE DD := ⟨28, fun x => [.i .i64 (x)], ofc28, none⟩
theorem ceOk28 : ce28.Ok where
  rdi := @fun H ρ cs x => ⟨fun h => by
    obtain h := (show Dt.rd (α := Int) H cs x from h)
    subst h
    exact ⟨_, _, rfl, rfl, rfl⟩, fun h => by
    obtain ⟨v0, r0, e0, p0, e⟩ := h
    have e : r0 = [] := e
    subst e
    subst e0
    have p0 : v0 = _ := p0
    subst p0
    exact (show Dt.rd (α := Int) H _ x from rfl)⟩
  cq := @fun l x h => by
    change ofc28 l = some x at h
    unfold ofc28 at h
    split at h
    · obtain ⟨v0, h0, h⟩ := bindS h
      cases h
      exact ⟨_, _, rfl, xI_cq h0, rfl⟩
    · cases h
  eqc := fun d a b c1 c2 hd h1 h2 => by cases hd
def ofc82 : List (SV DD) → Option (DD 82)
 | [a0, a1, a2, a3, a4, a5, a6, a7] => (xY a0).bind fun v0 => (xY a1).bind fun v1 => (xY a2).bind fun v2 => (xY a3).bind fun v3 => (xY a4).bind fun v4 => (xY a5).bind fun v5 => (xY a6).bind fun v6 => (xY a7).bind fun v7 => some ⟨v0, v1, v2, v3, v4, v5, v6, v7⟩
 | _ => none
def ce82 : CE DD := ⟨82, fun x => [.y (x.b0), .y (x.b1), .y (x.b2), .y (x.b3), .y (x.b4), .y (x.b5), .y (x.b6), .y (x.b7)], ofc82, some (inferInstanceAs (DecidableEq Sec))⟩
theorem sc82 (a b : Sec) : (([.i .u8 ((a.b0).toNat : Int), .i .u8 ((a.b1).toNat : Int), .i .u8 ((a.b2).toNat : Int), .i .u8 ((a.b3).toNat : Int), .i .u8 ((a.b4).toNat : Int), .i .u8 ((a.b5).toNat : Int), .i .u8 ((a.b6).toNat : Int), .i .u8 ((a.b7).toNat : Int)] : List Sc) = [.i .u8 ((b.b0).toNat : Int), .i .u8 ((b.b1).toNat : Int), .i .u8 ((b.b2).toNat : Int), .i .u8 ((b.b3).toNat : Int), .i .u8 ((b.b4).toNat : Int), .i .u8 ((b.b5).toNat : Int), .i .u8 ((b.b6).toNat : Int), .i .u8 ((b.b7).toNat : Int)]) ↔ a = b := by
  cases a; cases b; simp [← BitVec.toNat_inj]; omega
theorem ceOk82 : ce82.Ok where
  rdi := @fun H ρ cs x => ⟨fun h => by
    obtain h := (show Dt.rd (α := Sec) H cs x from h)
    subst h
    exact ⟨_, _, rfl, rfl, _, _, rfl, rfl, _, _, rfl, rfl, _, _, rfl, rfl, _, _, rfl, rfl, _, _, rfl, rfl, _, _, rfl, rfl, _, _, rfl, rfl, rfl⟩, fun h => by
    obtain ⟨v0, r0, e0, p0, v1, r1, e1, p1, v2, r2, e2, p2, v3, r3, e3, p3, v4, r4, e4, p4, v5, r5, e5, p5, v6, r6, e6, p6, v7, r7, e7, p7, e⟩ := h
    have e : r7 = [] := e
    subst e
    subst e7
    subst e6
    subst e5
    subst e4
    subst e3
    subst e2
    subst e1
    subst e0
    have p0 : v0 = _ := p0
    subst p0
    have p1 : v1 = _ := p1
    subst p1
    have p2 : v2 = _ := p2
    subst p2
    have p3 : v3 = _ := p3
    subst p3
    have p4 : v4 = _ := p4
    subst p4
    have p5 : v5 = _ := p5
    subst p5
    have p6 : v6 = _ := p6
    subst p6
    have p7 : v7 = _ := p7
    subst p7
    exact (show Dt.rd (α := Sec) H _ x from rfl)⟩
  cq := @fun l x h => by
    change ofc82 l = some x at h
    unfold ofc82 at h
    split at h
    · obtain ⟨v0, h0, h⟩ := bindS h
      obtain ⟨v1, h1, h⟩ := bindS h
      obtain ⟨v2, h2, h⟩ := bindS h
      obtain ⟨v3, h3, h⟩ := bindS h
      obtain ⟨v4, h4, h⟩ := bindS h
      obtain ⟨v5, h5, h⟩ := bindS h
      obtain ⟨v6, h6, h⟩ := bindS h
      obtain ⟨v7, h7, h⟩ := bindS h
      cases h
      exact ⟨_, _, rfl, xY_cq h0, _, _, rfl, xY_cq h1, _, _, rfl, xY_cq h2, _, _, rfl, xY_cq h3, _, _, rfl, xY_cq h4, _, _, rfl, xY_cq h5, _, _, rfl, xY_cq h6, _, _, rfl, xY_cq h7, rfl⟩
    · cases h
  eqc := fun d a b c1 c2 hd h1 h2 => by
    cases h1; cases h2
    exact sc82 a b
def ofc37 : List (SV DD) → Option (DD 37)
 | [a0] => (xS 82 a0).bind fun v0 => some v0
 | _ => none
def ce37 : CE DD := ⟨37, fun x => [.fsl 82 (x)], ofc37, none⟩
theorem ceOk37 : ce37.Ok where
  rdi := @fun H ρ cs x => ⟨fun h => by
    obtain ⟨A0, n0, c0, s0, h, h0⟩ := (show Dt.rd (α := List Sec) H cs x from h)
    subst h
    exact ⟨_, _, rfl, ⟨A0, n0, c0, s0, rfl, h0⟩, rfl⟩, fun h => by
    obtain ⟨v0, r0, e0, ⟨A0, n0, c0, s0, p0, h0⟩, e⟩ := h
    have e : r0 = [] := e
    subst e
    subst e0
    subst p0
    exact (show Dt.rd (α := List Sec) H _ x from ⟨A0, n0, c0, s0, rfl, h0⟩)⟩
  cq := @fun l x h => by
    change ofc37 l = some x at h
    unfold ofc37 at h
    split at h
    · obtain ⟨v0, h0, h⟩ := bindS h
      cases h
      exact ⟨_, _, rfl, xS_cq h0, rfl⟩
    · cases h
  eqc := fun d a b c1 c2 hd h1 h2 => by cases hd
def ofc73 : List (SV DD) → Option (DD 73)
 | [a0] => (xS 37 a0).bind fun v0 => some v0
 | _ => none
def ce73 : CE DD := ⟨73, fun x => [.fsl 37 (x)], ofc73, none⟩
theorem ceOk73 : ce73.Ok where
  rdi := @fun H ρ cs x => ⟨fun h => by
    obtain ⟨A0, n0, c0, s0, h, h0⟩ := (show Dt.rd (α := List (List Sec)) H cs x from h)
    subst h
    exact ⟨_, _, rfl, ⟨A0, n0, c0, s0, rfl, h0⟩, rfl⟩, fun h => by
    obtain ⟨v0, r0, e0, ⟨A0, n0, c0, s0, p0, h0⟩, e⟩ := h
    have e : r0 = [] := e
    subst e
    subst e0
    subst p0
    exact (show Dt.rd (α := List (List Sec)) H _ x from ⟨A0, n0, c0, s0, rfl, h0⟩)⟩
  cq := @fun l x h => by
    change ofc73 l = some x at h
    unfold ofc73 at h
    split at h
    · obtain ⟨v0, h0, h⟩ := bindS h
      cases h
      exact ⟨_, _, rfl, xS_cq h0, rfl⟩
    · cases h
  eqc := fun d a b c1 c2 hd h1 h2 => by cases hd
def ofc72 : List (SV DD) → Option (DD 72)
 | [a0] => (xS 37 a0).bind fun v0 => some v0
 | _ => none
def ce72 : CE DD := ⟨72, fun x => [.fsl 37 (x)], ofc72, none⟩
theorem ceOk72 : ce72.Ok where
  rdi := @fun H ρ cs x => ⟨fun h => by
    obtain ⟨A0, n0, c0, s0, h, h0⟩ := (show Dt.rd (α := List (List Sec)) H cs x from h)
    subst h
    exact ⟨_, _, rfl, ⟨A0, n0, c0, s0, rfl, h0⟩, rfl⟩, fun h => by
    obtain ⟨v0, r0, e0, ⟨A0, n0, c0, s0, p0, h0⟩, e⟩ := h
    have e : r0 = [] := e
    subst e
    subst e0
    subst p0
    exact (show Dt.rd (α := List (List Sec)) H _ x from ⟨A0, n0, c0, s0, rfl, h0⟩)⟩
  cq := @fun l x h => by
    change ofc72 l = some x at h
    unfold ofc72 at h
    split at h
    · obtain ⟨v0, h0, h⟩ := bindS h
      cases h
      exact ⟨_, _, rfl, xS_cq h0, rfl⟩
    · cases h
  eqc := fun d a b c1 c2 hd h1 h2 => by cases hd
def ofc23 : List (SV DD) → Option (DD 23)
 | [a0] => (xS 89 a0).bind fun v0 => some v0
 | _ => none
def ce23 : CE DD := ⟨23, fun x => [.fsl 89 (x)], ofc23, none⟩
theorem ceOk23 : ce23.Ok where
  rdi := @fun H ρ cs x => ⟨fun h => by
    obtain ⟨A0, n0, c0, s0, h, h0⟩ := (show Dt.rd (α := List api_Peer) H cs x from h)
    subst h
    exact ⟨_, _, rfl, ⟨A0, n0, c0, s0, rfl, h0⟩, rfl⟩, fun h => by
    obtain ⟨v0, r0, e0, ⟨A0, n0, c0, s0, p0, h0⟩, e⟩ := h
    have e : r0 = [] := e
    subst e
    subst e0
    subst p0
    exact (show Dt.rd (α := List api_Peer) H _ x from ⟨A0, n0, c0, s0, rfl, h0⟩)⟩
  cq := @fun l x h => by
    change ofc23 l = some x at h
    unfold ofc23 at h
    split at h
    · obtain ⟨v0, h0, h⟩ := bindS h
      cases h
      exact ⟨_, _, rfl, xS_cq h0, rfl⟩
    · cases h
  eqc := fun d a b c1 c2 hd h1 h2 => by cases hd
def ofc39 : List (SV DD) → Option (DD 39)
 | [a0, a1, a2] => (xI a0).bind fun v0 => (xI a1).bind fun v1 => (xS 82 a2).bind fun v2 => some ⟨v0, v1, v2⟩
 | _ => none
def ce39 : CE DD := ⟨39, fun x => [.i .i64 (x.Volume), .i .i64 (x.Start), .fsl 82 (x.Data)], ofc39, none⟩
theorem ceOk39 : ce39.Ok where
  rdi := @fun H ρ cs x => ⟨fun h => by
    obtain ⟨A0, n0, c0, s0, h, h0⟩ := (show Dt.rd (α := api_Write) H cs x from h)
    subst h
    exact ⟨_, _, rfl, rfl, _, _, rfl, rfl, _, _, rfl, ⟨A0, n0, c0, s0, rfl, h0⟩, rfl⟩, fun h => by
    obtain ⟨v0, r0, e0, p0, v1, r1, e1, p1, v2, r2, e2, ⟨A0, n0, c0, s0, p2, h0⟩, e⟩ := h
    have e : r2 = [] := e
    subst e
    subst e2
    subst e1
    subst e0
    have p0 : v0 = _ := p0
    subst p0
    have p1 : v1 = _ := p1
    subst p1
    subst p2
    exact (show Dt.rd (α := api_Write) H _ x from ⟨A0, n0, c0, s0, rfl, h0⟩)⟩
  cq := @fun l x h => by
    change ofc39 l = some x at h
    unfold ofc39 at h
    split at h
    · obtain ⟨v0, h0, h⟩ := bindS h
      obtain ⟨v1, h1, h⟩ := bindS h
      obtain ⟨v2, h2, h⟩ := bindS h
      cases h
      exact ⟨_, _, rfl, xI_cq h0, _, _, rfl, xI_cq h1, _, _, rfl, xS_cq h2, rfl⟩
    · cases h
  eqc := fun d a b c1 c2 hd h1 h2 => by cases hd
def ofc168 : List (SV DD) → Option (DD 168)
 | [a0] => (xS 4 a0).bind fun v0 => some v0
 | _ => none
def ce168 : CE DD := ⟨168, fun x => [.fsl 4 (x)], ofc168, none⟩
theorem ceOk168 : ce168.Ok where
  rdi := @fun H ρ cs x => ⟨fun h => by
    obtain ⟨A0, n0, c0, s0, h, h0⟩ := (show Dt.rd (α := List Bool) H cs x from h)
    subst h
    exact ⟨_, _, rfl, ⟨A0, n0, c0, s0, rfl, h0⟩, rfl⟩, fun h => by
    obtain ⟨v0, r0, e0, ⟨A0, n0, c0, s0, p0, h0⟩, e⟩ := h
    have e : r0 = [] := e
    subst e
    subst e0
    subst p0
    exact (show Dt.rd (α := List Bool) H _ x from ⟨A0, n0, c0, s0, rfl, h0⟩)⟩
  cq := @fun l x h => by
    change ofc168 l = some x at h
    unfold ofc168 at h
    split at h
    · obtain ⟨v0, h0, h⟩ := bindS h
      cases h
      exact ⟨_, _, rfl, xS_cq h0, rfl⟩
    · cases h
  eqc := fun d a b c1 c2 hd h1 h2 => by cases hd
def ofc84 : List (SV DD) → Option (DD 84)
 | [a0] => (xS 155 a0).bind fun v0 => some v0
 | _ => none
def ce84 : CE DD := ⟨84, fun x => [.fsl 155 (x)], ofc84, none⟩
theorem ceOk84 : ce84.Ok where
  rdi := @fun H ρ cs x => ⟨fun h => by
    obtain ⟨A0, n0, c0, s0, h, h0⟩ := (show Dt.rd (α := List (BitVec 64)) H cs x from h)
    subst h
    exact ⟨_, _, rfl, ⟨A0, n0, c0, s0, rfl, h0⟩, rfl⟩, fun h => by
    obtain ⟨v0, r0, e0, ⟨A0, n0, c0, s0, p0, h0⟩, e⟩ := h
    have e : r0 = [] := e
    subst e
    subst e0
    subst p0
    exact (show Dt.rd (α := List (BitVec 64)) H _ x from ⟨A0, n0, c0, s0, rfl, h0⟩)⟩
  cq := @fun l x h => by
    change ofc84 l = some x at h
    unfold ofc84 at h
    split at h
    · obtain ⟨v0, h0, h⟩ := bindS h
      cases h
      exact ⟨_, _, rfl, xS_cq h0, rfl⟩
    · cases h
  eqc := fun d a b c1 c2 hd h1 h2 => by cases hd
def ofc92 : List (SV DD) → Option (DD 92)
 | [a0, a1] => (xI a0).bind fun v0 => (xI a1).bind fun v1 => some ⟨v0, v1⟩
 | _ => none
def ce92 : CE DD := ⟨92, fun x => [.i .i64 (x.Start), .i .i64 (x.Count)], ofc92, some (inferInstanceAs (DecidableEq api_Extent))⟩
theorem sc92 (a b : api_Extent) : (([.i .i64 (a.Start), .i .i64 (a.Count)] : List Sc) = [.i .i64 (b.Start), .i .i64 (b.Count)]) ↔ a = b := by
  cases a; cases b; simp
theorem ceOk92 : ce92.Ok where
  rdi := @fun H ρ cs x => ⟨fun h => by
    obtain h := (show Dt.rd (α := api_Extent) H cs x from h)
    subst h
    exact ⟨_, _, rfl, rfl, _, _, rfl, rfl, rfl⟩, fun h => by
    obtain ⟨v0, r0, e0, p0, v1, r1, e1, p1, e⟩ := h
    have e : r1 = [] := e
    subst e
    subst e1
    subst e0
    have p0 : v0 = _ := p0
    subst p0
    have p1 : v1 = _ := p1
    subst p1
    exact (show Dt.rd (α := api_Extent) H _ x from rfl)⟩
  cq := @fun l x h => by
    change ofc92 l = some x at h
    unfold ofc92 at h
    split at h
    · obtain ⟨v0, h0, h⟩ := bindS h
      obtain ⟨v1, h1, h⟩ := bindS h
      cases h
      exact ⟨_, _, rfl, xI_cq h0, _, _, rfl, xI_cq h1, rfl⟩
    · cases h
  eqc := fun d a b c1 c2 hd h1 h2 => by
    cases h1; cases h2
    exact sc92 a b
def ofc49 : List (SV DD) → Option (DD 49)
 | [a0, a1, a2, a3, a4] => (xI a0).bind fun v0 => (xI a1).bind fun v1 => (xI a2).bind fun v2 => (xS 3 a3).bind fun v3 => (xS 39 a4).bind fun v4 => some ⟨v0, v1, v2, v3, v4⟩
 | _ => none
def ce49 : CE DD := ⟨49, fun x => [.i .i64 (x.Base), .i .i64 (x.Number), .i .i64 (x.Time), .fsl 3 (x.Positions), .fsl 39 (x.Writes)], ofc49, none⟩
theorem ceOk49 : ce49.Ok where
  rdi := @fun H ρ cs x => ⟨fun h => by
    obtain ⟨A0, n0, c0, s0, A1, n1, c1, s1, h, h0, h1⟩ := (show Dt.rd (α := api_Cycle) H cs x from h)
    subst h
    exact ⟨_, _, rfl, rfl, _, _, rfl, rfl, _, _, rfl, rfl, _, _, rfl, ⟨A0, n0, c0, s0, rfl, h0⟩, _, _, rfl, ⟨A1, n1, c1, s1, rfl, h1⟩, rfl⟩, fun h => by
    obtain ⟨v0, r0, e0, p0, v1, r1, e1, p1, v2, r2, e2, p2, v3, r3, e3, ⟨A0, n0, c0, s0, p3, h0⟩, v4, r4, e4, ⟨A1, n1, c1, s1, p4, h1⟩, e⟩ := h
    have e : r4 = [] := e
    subst e
    subst e4
    subst e3
    subst e2
    subst e1
    subst e0
    have p0 : v0 = _ := p0
    subst p0
    have p1 : v1 = _ := p1
    subst p1
    have p2 : v2 = _ := p2
    subst p2
    subst p3
    subst p4
    exact (show Dt.rd (α := api_Cycle) H _ x from ⟨A0, n0, c0, s0, A1, n1, c1, s1, rfl, h0, h1⟩)⟩
  cq := @fun l x h => by
    change ofc49 l = some x at h
    unfold ofc49 at h
    split at h
    · obtain ⟨v0, h0, h⟩ := bindS h
      obtain ⟨v1, h1, h⟩ := bindS h
      obtain ⟨v2, h2, h⟩ := bindS h
      obtain ⟨v3, h3, h⟩ := bindS h
      obtain ⟨v4, h4, h⟩ := bindS h
      cases h
      exact ⟨_, _, rfl, xI_cq h0, _, _, rfl, xI_cq h1, _, _, rfl, xI_cq h2, _, _, rfl, xS_cq h3, _, _, rfl, xS_cq h4, rfl⟩
    · cases h
  eqc := fun d a b c1 c2 hd h1 h2 => by cases hd
def ofc43 : List (SV DD) → Option (DD 43)
 | [a0] => (xS 49 a0).bind fun v0 => some v0
 | _ => none
def ce43 : CE DD := ⟨43, fun x => [.fsl 49 (x)], ofc43, none⟩
theorem ceOk43 : ce43.Ok where
  rdi := @fun H ρ cs x => ⟨fun h => by
    obtain ⟨A0, n0, c0, s0, h, h0⟩ := (show Dt.rd (α := List api_Cycle) H cs x from h)
    subst h
    exact ⟨_, _, rfl, ⟨A0, n0, c0, s0, rfl, h0⟩, rfl⟩, fun h => by
    obtain ⟨v0, r0, e0, ⟨A0, n0, c0, s0, p0, h0⟩, e⟩ := h
    have e : r0 = [] := e
    subst e
    subst e0
    subst p0
    exact (show Dt.rd (α := List api_Cycle) H _ x from ⟨A0, n0, c0, s0, rfl, h0⟩)⟩
  cq := @fun l x h => by
    change ofc43 l = some x at h
    unfold ofc43 at h
    split at h
    · obtain ⟨v0, h0, h⟩ := bindS h
      cases h
      exact ⟨_, _, rfl, xS_cq h0, rfl⟩
    · cases h
  eqc := fun d a b c1 c2 hd h1 h2 => by cases hd
def ofc47 : List (SV DD) → Option (DD 47)
 | [a0] => (xS 39 a0).bind fun v0 => some v0
 | _ => none
def ce47 : CE DD := ⟨47, fun x => [.fsl 39 (x)], ofc47, none⟩
theorem ceOk47 : ce47.Ok where
  rdi := @fun H ρ cs x => ⟨fun h => by
    obtain ⟨A0, n0, c0, s0, h, h0⟩ := (show Dt.rd (α := List api_Write) H cs x from h)
    subst h
    exact ⟨_, _, rfl, ⟨A0, n0, c0, s0, rfl, h0⟩, rfl⟩, fun h => by
    obtain ⟨v0, r0, e0, ⟨A0, n0, c0, s0, p0, h0⟩, e⟩ := h
    have e : r0 = [] := e
    subst e
    subst e0
    subst p0
    exact (show Dt.rd (α := List api_Write) H _ x from ⟨A0, n0, c0, s0, rfl, h0⟩)⟩
  cq := @fun l x h => by
    change ofc47 l = some x at h
    unfold ofc47 at h
    split at h
    · obtain ⟨v0, h0, h⟩ := bindS h
      cases h
      exact ⟨_, _, rfl, xS_cq h0, rfl⟩
    · cases h
  eqc := fun d a b c1 c2 hd h1 h2 => by cases hd
def ofc93 : List (SV DD) → Option (DD 93)
 | [a0] => (xS 92 a0).bind fun v0 => some v0
 | _ => none
def ce93 : CE DD := ⟨93, fun x => [.fsl 92 (x)], ofc93, none⟩
theorem ceOk93 : ce93.Ok where
  rdi := @fun H ρ cs x => ⟨fun h => by
    obtain ⟨A0, n0, c0, s0, h, h0⟩ := (show Dt.rd (α := List api_Extent) H cs x from h)
    subst h
    exact ⟨_, _, rfl, ⟨A0, n0, c0, s0, rfl, h0⟩, rfl⟩, fun h => by
    obtain ⟨v0, r0, e0, ⟨A0, n0, c0, s0, p0, h0⟩, e⟩ := h
    have e : r0 = [] := e
    subst e
    subst e0
    subst p0
    exact (show Dt.rd (α := List api_Extent) H _ x from ⟨A0, n0, c0, s0, rfl, h0⟩)⟩
  cq := @fun l x h => by
    change ofc93 l = some x at h
    unfold ofc93 at h
    split at h
    · obtain ⟨v0, h0, h⟩ := bindS h
      cases h
      exact ⟨_, _, rfl, xS_cq h0, rfl⟩
    · cases h
  eqc := fun d a b c1 c2 hd h1 h2 => by cases hd
def ofc156 : List (SV DD) → Option (DD 156)
 | [a0] => (xS 93 a0).bind fun v0 => some v0
 | _ => none
def ce156 : CE DD := ⟨156, fun x => [.fsl 93 (x)], ofc156, none⟩
theorem ceOk156 : ce156.Ok where
  rdi := @fun H ρ cs x => ⟨fun h => by
    obtain ⟨A0, n0, c0, s0, h, h0⟩ := (show Dt.rd (α := List (List api_Extent)) H cs x from h)
    subst h
    exact ⟨_, _, rfl, ⟨A0, n0, c0, s0, rfl, h0⟩, rfl⟩, fun h => by
    obtain ⟨v0, r0, e0, ⟨A0, n0, c0, s0, p0, h0⟩, e⟩ := h
    have e : r0 = [] := e
    subst e
    subst e0
    subst p0
    exact (show Dt.rd (α := List (List api_Extent)) H _ x from ⟨A0, n0, c0, s0, rfl, h0⟩)⟩
  cq := @fun l x h => by
    change ofc156 l = some x at h
    unfold ofc156 at h
    split at h
    · obtain ⟨v0, h0, h⟩ := bindS h
      cases h
      exact ⟨_, _, rfl, xS_cq h0, rfl⟩
    · cases h
  eqc := fun d a b c1 c2 hd h1 h2 => by cases hd
def ofc5 : List (SV DD) → Option (DD 5)
 | [a0] => (xY a0).bind fun v0 => some v0
 | _ => none
def ce5 : CE DD := ⟨5, fun x => [.y (x)], ofc5, none⟩
theorem ceOk5 : ce5.Ok where
  rdi := @fun H ρ cs x => ⟨fun h => by
    obtain h := (show Dt.rd (α := BitVec 8) H cs x from h)
    subst h
    exact ⟨_, _, rfl, rfl, rfl⟩, fun h => by
    obtain ⟨v0, r0, e0, p0, e⟩ := h
    have e : r0 = [] := e
    subst e
    subst e0
    have p0 : v0 = _ := p0
    subst p0
    exact (show Dt.rd (α := BitVec 8) H _ x from rfl)⟩
  cq := @fun l x h => by
    change ofc5 l = some x at h
    unfold ofc5 at h
    split at h
    · obtain ⟨v0, h0, h⟩ := bindS h
      cases h
      exact ⟨_, _, rfl, xY_cq h0, rfl⟩
    · cases h
  eqc := fun d a b c1 c2 hd h1 h2 => by cases hd
def ofc64 : List (SV DD) → Option (DD 64)
 | [a0] => (xS 5 a0).bind fun v0 => some v0
 | _ => none
def ce64 : CE DD := ⟨64, fun x => [.fsl 5 (x)], ofc64, none⟩
theorem ceOk64 : ce64.Ok where
  rdi := @fun H ρ cs x => ⟨fun h => by
    obtain ⟨A0, n0, c0, s0, h, h0⟩ := (show Dt.rd (α := List (BitVec 8)) H cs x from h)
    subst h
    exact ⟨_, _, rfl, ⟨A0, n0, c0, s0, rfl, h0⟩, rfl⟩, fun h => by
    obtain ⟨v0, r0, e0, ⟨A0, n0, c0, s0, p0, h0⟩, e⟩ := h
    have e : r0 = [] := e
    subst e
    subst e0
    subst p0
    exact (show Dt.rd (α := List (BitVec 8)) H _ x from ⟨A0, n0, c0, s0, rfl, h0⟩)⟩
  cq := @fun l x h => by
    change ofc64 l = some x at h
    unfold ofc64 at h
    split at h
    · obtain ⟨v0, h0, h⟩ := bindS h
      cases h
      exact ⟨_, _, rfl, xS_cq h0, rfl⟩
    · cases h
  eqc := fun d a b c1 c2 hd h1 h2 => by cases hd
def ofc45 : List (SV DD) → Option (DD 45)
 | [a0, a1, a2] => (xI a0).bind fun v0 => (xI a1).bind fun v1 => (xS 49 a2).bind fun v2 => some ⟨v0, v1, v2⟩
 | _ => none
def ce45 : CE DD := ⟨45, fun x => [.i .i64 (x.Site), .i .i64 (x.Number), .fsl 49 (x.Later)], ofc45, none⟩
theorem ceOk45 : ce45.Ok where
  rdi := @fun H ρ cs x => ⟨fun h => by
    obtain ⟨A0, n0, c0, s0, h, h0⟩ := (show Dt.rd (α := standbylaw43_Agreement) H cs x from h)
    subst h
    exact ⟨_, _, rfl, rfl, _, _, rfl, rfl, _, _, rfl, ⟨A0, n0, c0, s0, rfl, h0⟩, rfl⟩, fun h => by
    obtain ⟨v0, r0, e0, p0, v1, r1, e1, p1, v2, r2, e2, ⟨A0, n0, c0, s0, p2, h0⟩, e⟩ := h
    have e : r2 = [] := e
    subst e
    subst e2
    subst e1
    subst e0
    have p0 : v0 = _ := p0
    subst p0
    have p1 : v1 = _ := p1
    subst p1
    subst p2
    exact (show Dt.rd (α := standbylaw43_Agreement) H _ x from ⟨A0, n0, c0, s0, rfl, h0⟩)⟩
  cq := @fun l x h => by
    change ofc45 l = some x at h
    unfold ofc45 at h
    split at h
    · obtain ⟨v0, h0, h⟩ := bindS h
      obtain ⟨v1, h1, h⟩ := bindS h
      obtain ⟨v2, h2, h⟩ := bindS h
      cases h
      exact ⟨_, _, rfl, xI_cq h0, _, _, rfl, xI_cq h1, _, _, rfl, xS_cq h2, rfl⟩
    · cases h
  eqc := fun d a b c1 c2 hd h1 h2 => by cases hd
def ofc235 : List (SV DD) → Option (DD 235)
 | [a0] => (xS 5 a0).bind fun v0 => some ⟨v0⟩
 | _ => none
def ce235 : CE DD := ⟨235, fun x => [.fsl 5 (x.left)], ofc235, none⟩
theorem ceOk235 : ce235.Ok where
  rdi := @fun H ρ cs x => ⟨fun h => by
    obtain ⟨A0, n0, c0, s0, h, h0⟩ := (show Dt.rd (α := wire_cursor) H cs x from h)
    subst h
    exact ⟨_, _, rfl, ⟨A0, n0, c0, s0, rfl, h0⟩, rfl⟩, fun h => by
    obtain ⟨v0, r0, e0, ⟨A0, n0, c0, s0, p0, h0⟩, e⟩ := h
    have e : r0 = [] := e
    subst e
    subst e0
    subst p0
    exact (show Dt.rd (α := wire_cursor) H _ x from ⟨A0, n0, c0, s0, rfl, h0⟩)⟩
  cq := @fun l x h => by
    change ofc235 l = some x at h
    unfold ofc235 at h
    split at h
    · obtain ⟨v0, h0, h⟩ := bindS h
      cases h
      exact ⟨_, _, rfl, xS_cq h0, rfl⟩
    · cases h
  eqc := fun d a b c1 c2 hd h1 h2 => by cases hd
def ofc185 : List (SV DD) → Option (DD 185)
 | [.fel e xs i off] => match castL e 235 xs with
  | some [x] => bif decide (i = 0) && Nat.beq off 0 then some ⟨x⟩ else none
  | _ => none
 | _ => none
def ce185 : CE DD := ⟨185, fun x => [.fel 235 [x.val] 0 0], ofc185, none⟩
theorem ceOk185 : ce185.Ok where
  rdi := @fun H ρ cs x => ⟨fun h => by
    obtain ⟨A, n, c, s, h, h1⟩ := (show Dt.rd (α := Ptr wire_cursor) H cs x from h)
    exact ⟨_, [], h, ⟨A, n, c, s, rfl, h1, Int.le_refl _, by show (0 : Int) < ((1 : Nat) : Int); decide⟩, rfl⟩, fun h => by
    obtain ⟨v, r, e, ⟨A, n, c, s, h, h1, _⟩, e2⟩ := h
    have e2 : r = [] := e2
    subst e2
    subst e
    subst h
    exact (show Dt.rd (α := Ptr wire_cursor) H _ x from ⟨A, n, c, s, rfl, h1⟩)⟩
  cq := @fun l x h => by
    change ofc185 l = some x at h
    unfold ofc185 at h
    split at h
    · split at h
      · rename_i e xs i off y hc
        obtain ⟨hb, h⟩ := cif h
        cases h
        obtain ⟨he, h1⟩ := castL_ok hc
        subst he
        subst h1
        rw [Bool.and_eq_true] at hb
        obtain ⟨hb1, hb2⟩ := hb
        have hb1 := of_decide_eq_true hb1
        have hb2 := Nat.eq_of_beq_eq_true hb2
        subst hb1
        subst hb2
        exact ⟨_, _, rfl, .inr ⟨rfl, rfl, fun _ _ _ h => h⟩, rfl⟩
      · cases h
    · cases h
  eqc := fun d a b c1 c2 hd h1 h2 => by cases hd
def ofc69 : List (SV DD) → Option (DD 69)
 | [a0] => (xH a0).bind fun v0 => some v0
 | _ => none
def ce69 : CE DD := ⟨69, fun x => [.i .u16 ((x).toNat : Int)], ofc69, none⟩
theorem ceOk69 : ce69.Ok where
  rdi := @fun H ρ cs x => ⟨fun h => by
    obtain h := (show Dt.rd (α := BitVec 16) H cs x from h)
    subst h
    exact ⟨_, _, rfl, rfl, rfl⟩, fun h => by
    obtain ⟨v0, r0, e0, p0, e⟩ := h
    have e : r0 = [] := e
    subst e
    subst e0
    have p0 : v0 = _ := p0
    subst p0
    exact (show Dt.rd (α := BitVec 16) H _ x from rfl)⟩
  cq := @fun l x h => by
    change ofc69 l = some x at h
    unfold ofc69 at h
    split at h
    · obtain ⟨v0, h0, h⟩ := bindS h
      cases h
      exact ⟨_, _, rfl, xH_cq h0, rfl⟩
    · cases h
  eqc := fun d a b c1 c2 hd h1 h2 => by cases hd
def ofc147 : List (SV DD) → Option (DD 147)
 | [a0, a1, a2, a3, a4] => (xY a0).bind fun v0 => (xY a1).bind fun v1 => (xY a2).bind fun v2 => (xY a3).bind fun v3 => (xY a4).bind fun v4 => some ⟨v0, v1, v2, v3, v4⟩
 | _ => none
def ce147 : CE DD := ⟨147, fun x => [.y (x.Kind), .y (x.Volume), .y (x.Start), .y (x.Count), .y (x.First)], ofc147, some (inferInstanceAs (DecidableEq standbylaw43_Step))⟩
theorem sc147 (a b : standbylaw43_Step) : (([.i .u8 ((a.Kind).toNat : Int), .i .u8 ((a.Volume).toNat : Int), .i .u8 ((a.Start).toNat : Int), .i .u8 ((a.Count).toNat : Int), .i .u8 ((a.First).toNat : Int)] : List Sc) = [.i .u8 ((b.Kind).toNat : Int), .i .u8 ((b.Volume).toNat : Int), .i .u8 ((b.Start).toNat : Int), .i .u8 ((b.Count).toNat : Int), .i .u8 ((b.First).toNat : Int)]) ↔ a = b := by
  cases a; cases b; simp [← BitVec.toNat_inj]; omega
theorem ceOk147 : ce147.Ok where
  rdi := @fun H ρ cs x => ⟨fun h => by
    obtain h := (show Dt.rd (α := standbylaw43_Step) H cs x from h)
    subst h
    exact ⟨_, _, rfl, rfl, _, _, rfl, rfl, _, _, rfl, rfl, _, _, rfl, rfl, _, _, rfl, rfl, rfl⟩, fun h => by
    obtain ⟨v0, r0, e0, p0, v1, r1, e1, p1, v2, r2, e2, p2, v3, r3, e3, p3, v4, r4, e4, p4, e⟩ := h
    have e : r4 = [] := e
    subst e
    subst e4
    subst e3
    subst e2
    subst e1
    subst e0
    have p0 : v0 = _ := p0
    subst p0
    have p1 : v1 = _ := p1
    subst p1
    have p2 : v2 = _ := p2
    subst p2
    have p3 : v3 = _ := p3
    subst p3
    have p4 : v4 = _ := p4
    subst p4
    exact (show Dt.rd (α := standbylaw43_Step) H _ x from rfl)⟩
  cq := @fun l x h => by
    change ofc147 l = some x at h
    unfold ofc147 at h
    split at h
    · obtain ⟨v0, h0, h⟩ := bindS h
      obtain ⟨v1, h1, h⟩ := bindS h
      obtain ⟨v2, h2, h⟩ := bindS h
      obtain ⟨v3, h3, h⟩ := bindS h
      obtain ⟨v4, h4, h⟩ := bindS h
      cases h
      exact ⟨_, _, rfl, xY_cq h0, _, _, rfl, xY_cq h1, _, _, rfl, xY_cq h2, _, _, rfl, xY_cq h3, _, _, rfl, xY_cq h4, rfl⟩
    · cases h
  eqc := fun d a b c1 c2 hd h1 h2 => by
    cases h1; cases h2
    exact sc147 a b
def ofc71 : List (SV DD) → Option (DD 71)
 | [a0] => (xS 147 a0).bind fun v0 => some v0
 | _ => none
def ce71 : CE DD := ⟨71, fun x => [.fsl 147 (x)], ofc71, none⟩
theorem ceOk71 : ce71.Ok where
  rdi := @fun H ρ cs x => ⟨fun h => by
    obtain ⟨A0, n0, c0, s0, h, h0⟩ := (show Dt.rd (α := List standbylaw43_Step) H cs x from h)
    subst h
    exact ⟨_, _, rfl, ⟨A0, n0, c0, s0, rfl, h0⟩, rfl⟩, fun h => by
    obtain ⟨v0, r0, e0, ⟨A0, n0, c0, s0, p0, h0⟩, e⟩ := h
    have e : r0 = [] := e
    subst e
    subst e0
    subst p0
    exact (show Dt.rd (α := List standbylaw43_Step) H _ x from ⟨A0, n0, c0, s0, rfl, h0⟩)⟩
  cq := @fun l x h => by
    change ofc71 l = some x at h
    unfold ofc71 at h
    split at h
    · obtain ⟨v0, h0, h⟩ := bindS h
      cases h
      exact ⟨_, _, rfl, xS_cq h0, rfl⟩
    · cases h
  eqc := fun d a b c1 c2 hd h1 h2 => by cases hd
def ofc77 : List (SV DD) → Option (DD 77)
 | [a0, a1, a2, a3, a4, a5, a6, a7] => (xS 3 a0).bind fun v0 => (xS 89 a1).bind fun v1 => (xS 37 a2).bind fun v2 => (xS 73 a3).bind fun v3 => (xS 49 a4).bind fun v4 => (xS 39 a5).bind fun v5 => (xI a6).bind fun v6 => (xI a7).bind fun v7 => some ⟨⟨v0, v1⟩, v2, v3, v4, v5, ⟨v6, v7⟩⟩
 | _ => none
def ce77 : CE DD := ⟨77, fun x => [.fsl 3 (x.t.Sizes), .fsl 89 (x.t.Peers), .fsl 37 (x.im), .fsl 73 (x.images), .fsl 49 (x.cycles), .fsl 39 (x.open_), .i .i64 (x.has.e0), .i .i64 (x.has.e1)], ofc77, none⟩
theorem ceOk77 : ce77.Ok where
  rdi := @fun H ρ cs x => ⟨fun h => by
    obtain ⟨A0, n0, c0, s0, A1, n1, c1, s1, A2, n2, c2, s2, A3, n3, c3, s3, A4, n4, c4, s4, A5, n5, c5, s5, h, h0, h1, h2, h3, h4, h5⟩ := (show Dt.rd (α := standbylaw43_run) H cs x from h)
    subst h
    exact ⟨_, _, rfl, ⟨A0, n0, c0, s0, rfl, h0⟩, _, _, rfl, ⟨A1, n1, c1, s1, rfl, h1⟩, _, _, rfl, ⟨A2, n2, c2, s2, rfl, h2⟩, _, _, rfl, ⟨A3, n3, c3, s3, rfl, h3⟩, _, _, rfl, ⟨A4, n4, c4, s4, rfl, h4⟩, _, _, rfl, ⟨A5, n5, c5, s5, rfl, h5⟩, _, _, rfl, rfl, _, _, rfl, rfl, rfl⟩, fun h => by
    obtain ⟨v0, r0, e0, ⟨A0, n0, c0, s0, p0, h0⟩, v1, r1, e1, ⟨A1, n1, c1, s1, p1, h1⟩, v2, r2, e2, ⟨A2, n2, c2, s2, p2, h2⟩, v3, r3, e3, ⟨A3, n3, c3, s3, p3, h3⟩, v4, r4, e4, ⟨A4, n4, c4, s4, p4, h4⟩, v5, r5, e5, ⟨A5, n5, c5, s5, p5, h5⟩, v6, r6, e6, p6, v7, r7, e7, p7, e⟩ := h
    have e : r7 = [] := e
    subst e
    subst e7
    subst e6
    subst e5
    subst e4
    subst e3
    subst e2
    subst e1
    subst e0
    subst p0
    subst p1
    subst p2
    subst p3
    subst p4
    subst p5
    have p6 : v6 = _ := p6
    subst p6
    have p7 : v7 = _ := p7
    subst p7
    exact (show Dt.rd (α := standbylaw43_run) H _ x from ⟨A0, n0, c0, s0, A1, n1, c1, s1, A2, n2, c2, s2, A3, n3, c3, s3, A4, n4, c4, s4, A5, n5, c5, s5, rfl, h0, h1, h2, h3, h4, h5⟩)⟩
  cq := @fun l x h => by
    change ofc77 l = some x at h
    unfold ofc77 at h
    split at h
    · obtain ⟨v0, h0, h⟩ := bindS h
      obtain ⟨v1, h1, h⟩ := bindS h
      obtain ⟨v2, h2, h⟩ := bindS h
      obtain ⟨v3, h3, h⟩ := bindS h
      obtain ⟨v4, h4, h⟩ := bindS h
      obtain ⟨v5, h5, h⟩ := bindS h
      obtain ⟨v6, h6, h⟩ := bindS h
      obtain ⟨v7, h7, h⟩ := bindS h
      cases h
      exact ⟨_, _, rfl, xS_cq h0, _, _, rfl, xS_cq h1, _, _, rfl, xS_cq h2, _, _, rfl, xS_cq h3, _, _, rfl, xS_cq h4, _, _, rfl, xS_cq h5, _, _, rfl, xI_cq h6, _, _, rfl, xI_cq h7, rfl⟩
    · cases h
  eqc := fun d a b c1 c2 hd h1 h2 => by cases hd
def ofc143 : List (SV DD) → Option (DD 143)
 | [a0, a1, a2, a3, a4] => (xI a0).bind fun v0 => (xS 3 a1).bind fun v1 => (xS 3 a2).bind fun v2 => (xS 3 a3).bind fun v3 => (xS 39 a4).bind fun v4 => some ⟨v0, v1, v2, v3, v4⟩
 | _ => none
def ce143 : CE DD := ⟨143, fun x => [.i .i64 (x.Number), .fsl 3 (x.Sizes), .fsl 3 (x.Positions), .fsl 3 (x.Nodes), .fsl 39 (x.Writes)], ofc143, none⟩
theorem ceOk143 : ce143.Ok where
  rdi := @fun H ρ cs x => ⟨fun h => by
    obtain ⟨A0, n0, c0, s0, A1, n1, c1, s1, A2, n2, c2, s2, A3, n3, c3, s3, h, h0, h1, h2, h3⟩ := (show Dt.rd (α := api_Capture) H cs x from h)
    subst h
    exact ⟨_, _, rfl, rfl, _, _, rfl, ⟨A0, n0, c0, s0, rfl, h0⟩, _, _, rfl, ⟨A1, n1, c1, s1, rfl, h1⟩, _, _, rfl, ⟨A2, n2, c2, s2, rfl, h2⟩, _, _, rfl, ⟨A3, n3, c3, s3, rfl, h3⟩, rfl⟩, fun h => by
    obtain ⟨v0, r0, e0, p0, v1, r1, e1, ⟨A0, n0, c0, s0, p1, h0⟩, v2, r2, e2, ⟨A1, n1, c1, s1, p2, h1⟩, v3, r3, e3, ⟨A2, n2, c2, s2, p3, h2⟩, v4, r4, e4, ⟨A3, n3, c3, s3, p4, h3⟩, e⟩ := h
    have e : r4 = [] := e
    subst e
    subst e4
    subst e3
    subst e2
    subst e1
    subst e0
    have p0 : v0 = _ := p0
    subst p0
    subst p1
    subst p2
    subst p3
    subst p4
    exact (show Dt.rd (α := api_Capture) H _ x from ⟨A0, n0, c0, s0, A1, n1, c1, s1, A2, n2, c2, s2, A3, n3, c3, s3, rfl, h0, h1, h2, h3⟩)⟩
  cq := @fun l x h => by
    change ofc143 l = some x at h
    unfold ofc143 at h
    split at h
    · obtain ⟨v0, h0, h⟩ := bindS h
      obtain ⟨v1, h1, h⟩ := bindS h
      obtain ⟨v2, h2, h⟩ := bindS h
      obtain ⟨v3, h3, h⟩ := bindS h
      obtain ⟨v4, h4, h⟩ := bindS h
      cases h
      exact ⟨_, _, rfl, xI_cq h0, _, _, rfl, xS_cq h1, _, _, rfl, xS_cq h2, _, _, rfl, xS_cq h3, _, _, rfl, xS_cq h4, rfl⟩
    · cases h
  eqc := fun d a b c1 c2 hd h1 h2 => by cases hd
def ofc215 : List (SV DD) → Option (DD 215)
 | [a0, a1, a2, a3, a4, a5] => (xI a0).bind fun v0 => (xS 3 a1).bind fun v1 => (xS 3 a2).bind fun v2 => (xS 3 a3).bind fun v3 => (xS 39 a4).bind fun v4 => (xS 4 a5).bind fun v5 => some ⟨⟨v0, v1, v2, v3, v4⟩, v5⟩
 | _ => none
def ce215 : CE DD := ⟨215, fun x => [.i .i64 (x.c.Number), .fsl 3 (x.c.Sizes), .fsl 3 (x.c.Positions), .fsl 3 (x.c.Nodes), .fsl 39 (x.c.Writes), .fsl 4 (x.part)], ofc215, none⟩
theorem ceOk215 : ce215.Ok where
  rdi := @fun H ρ cs x => ⟨fun h => by
    obtain ⟨A0, n0, c0, s0, A1, n1, c1, s1, A2, n2, c2, s2, A3, n3, c3, s3, A4, n4, c4, s4, h, h0, h1, h2, h3, h4⟩ := (show Dt.rd (α := cycle_division) H cs x from h)
    subst h
    exact ⟨_, _, rfl, rfl, _, _, rfl, ⟨A0, n0, c0, s0, rfl, h0⟩, _, _, rfl, ⟨A1, n1, c1, s1, rfl, h1⟩, _, _, rfl, ⟨A2, n2, c2, s2, rfl, h2⟩, _, _, rfl, ⟨A3, n3, c3, s3, rfl, h3⟩, _, _, rfl, ⟨A4, n4, c4, s4, rfl, h4⟩, rfl⟩, fun h => by
    obtain ⟨v0, r0, e0, p0, v1, r1, e1, ⟨A0, n0, c0, s0, p1, h0⟩, v2, r2, e2, ⟨A1, n1, c1, s1, p2, h1⟩, v3, r3, e3, ⟨A2, n2, c2, s2, p3, h2⟩, v4, r4, e4, ⟨A3, n3, c3, s3, p4, h3⟩, v5, r5, e5, ⟨A4, n4, c4, s4, p5, h4⟩, e⟩ := h
    have e : r5 = [] := e
    subst e
    subst e5
    subst e4
    subst e3
    subst e2
    subst e1
    subst e0
    have p0 : v0 = _ := p0
    subst p0
    subst p1
    subst p2
    subst p3
    subst p4
    subst p5
    exact (show Dt.rd (α := cycle_division) H _ x from ⟨A0, n0, c0, s0, A1, n1, c1, s1, A2, n2, c2, s2, A3, n3, c3, s3, A4, n4, c4, s4, rfl, h0, h1, h2, h3, h4⟩)⟩
  cq := @fun l x h => by
    change ofc215 l = some x at h
    unfold ofc215 at h
    split at h
    · obtain ⟨v0, h0, h⟩ := bindS h
      obtain ⟨v1, h1, h⟩ := bindS h
      obtain ⟨v2, h2, h⟩ := bindS h
      obtain ⟨v3, h3, h⟩ := bindS h
      obtain ⟨v4, h4, h⟩ := bindS h
      obtain ⟨v5, h5, h⟩ := bindS h
      cases h
      exact ⟨_, _, rfl, xI_cq h0, _, _, rfl, xS_cq h1, _, _, rfl, xS_cq h2, _, _, rfl, xS_cq h3, _, _, rfl, xS_cq h4, _, _, rfl, xS_cq h5, rfl⟩
    · cases h
  eqc := fun d a b c1 c2 hd h1 h2 => by cases hd
def ofc269 : List (SV DD) → Option (DD 269)
 | [a0, a1] => (xI a0).bind fun v0 => (xI a1).bind fun v1 => some ⟨v0, v1⟩
 | _ => none
def ce269 : CE DD := ⟨269, fun x => [.i .i64 (x.volume), .i .i64 (x.sector)], ofc269, some (inferInstanceAs (DecidableEq coalesce_place))⟩
theorem sc269 (a b : coalesce_place) : (([.i .i64 (a.volume), .i .i64 (a.sector)] : List Sc) = [.i .i64 (b.volume), .i .i64 (b.sector)]) ↔ a = b := by
  cases a; cases b; simp
theorem ceOk269 : ce269.Ok where
  rdi := @fun H ρ cs x => ⟨fun h => by
    obtain h := (show Dt.rd (α := coalesce_place) H cs x from h)
    subst h
    exact ⟨_, _, rfl, rfl, _, _, rfl, rfl, rfl⟩, fun h => by
    obtain ⟨v0, r0, e0, p0, v1, r1, e1, p1, e⟩ := h
    have e : r1 = [] := e
    subst e
    subst e1
    subst e0
    have p0 : v0 = _ := p0
    subst p0
    have p1 : v1 = _ := p1
    subst p1
    exact (show Dt.rd (α := coalesce_place) H _ x from rfl)⟩
  cq := @fun l x h => by
    change ofc269 l = some x at h
    unfold ofc269 at h
    split at h
    · obtain ⟨v0, h0, h⟩ := bindS h
      obtain ⟨v1, h1, h⟩ := bindS h
      cases h
      exact ⟨_, _, rfl, xI_cq h0, _, _, rfl, xI_cq h1, rfl⟩
    · cases h
  eqc := fun d a b c1 c2 hd h1 h2 => by
    cases h1; cases h2
    exact sc269 a b
def tab : Tb DD := [ce4, ce3, ce155, ce86, ce89, ce25, ce22, ce52, ce28, ce82, ce37, ce73, ce72, ce23, ce39, ce168, ce84, ce92, ce49, ce43, ce47, ce93, ce156, ce5, ce64, ce45, ce235, ce185, ce69, ce147, ce71, ce77, ce143, ce215, ce269]
theorem tabOk : TbOk tab := ⟨ceOk4, ceOk3, ceOk155, ceOk86, ceOk89, ceOk25, ceOk22, ceOk52, ceOk28, ceOk82, ceOk37, ceOk73, ceOk72, ceOk23, ceOk39, ceOk168, ceOk84, ceOk92, ceOk49, ceOk43, ceOk47, ceOk93, ceOk156, ceOk5, ceOk64, ceOk45, ceOk235, ceOk185, ceOk69, ceOk147, ceOk71, ceOk77, ceOk143, ceOk215, ceOk269, trivial⟩
def strK1 : ByteArray := { data := #[1, 4, 1, 2, 5, 1, 0, 2] }
theorem rd3 : ReadsD Tryz.prog 3 (Int) := ReadsD.int Tryz.underlying3 (by kernel_rfl)
theorem rd22 : ReadsD Tryz.prog 22 (List Int) := ReadsD.slice Tryz.underlying22 (by kernel_rfl) rd3 (by decide)
theorem rd155 : ReadsD Tryz.prog 155 (BitVec 64) := ReadsD.w64 Tryz.underlying155 (by kernel_rfl)
theorem rd84 : ReadsD Tryz.prog 84 (List (BitVec 64)) := ReadsD.slice Tryz.underlying84 (by kernel_rfl) rd155 (by decide)
instance rg_api_Bitmap : Rg api_Bitmap := ⟨fun x => Rg.rg x.Size ∧ Rg.rg x.Words⟩
theorem rd86 : ReadsD Tryz.prog 86 (api_Bitmap) := (@Reads.struct Tryz.prog 86 _ (Int × List (BitVec 64) × Unit) (@datProd _ _ (datD (Int)) (@datProd _ _ (datD (List (BitVec 64))) datUnit)) Tryz.underlying86 (by kernel_rfl) (@Fields.cons _ _ _ _ _ _ (datD (Int)) _ rfl rd3 (@Fields.cons _ _ _ _ _ _ (datD (List (BitVec 64))) _ rfl rd84 (.nil _)))).map rfl fun {H cs a} h => by
  obtain ⟨a0, a1, _⟩ := a
  obtain ⟨_, _, rfl, ⟨rfl, r0⟩, _, _, rfl, ⟨⟨A2, n2, c2, s2, rfl, hF2⟩, r1⟩, hz⟩ := h
  cases hz
  exact ⟨⟨a0, a1⟩, ⟨A2, n2, c2, s2, rfl, hF2⟩, r0, r1⟩
theorem rd52 : ReadsD Tryz.prog 52 (List api_Bitmap) := ReadsD.slice Tryz.underlying52 (by kernel_rfl) rd86 (by decide)
instance rg_api_Peer : Rg api_Peer := ⟨fun x => Rg.rg x.Site ∧ Rg.rg x.Common ∧ Rg.rg x.Dirty⟩
theorem rd89 : ReadsD Tryz.prog 89 (api_Peer) := (@Reads.struct Tryz.prog 89 _ (Int × Int × List api_Bitmap × Unit) (@datProd _ _ (datD (Int)) (@datProd _ _ (datD (Int)) (@datProd _ _ (datD (List api_Bitmap)) datUnit))) Tryz.underlying89 (by kernel_rfl) (@Fields.cons _ _ _ _ _ _ (datD (Int)) _ rfl rd3 (@Fields.cons _ _ _ _ _ _ (datD (Int)) _ rfl rd3 (@Fields.cons _ _ _ _ _ _ (datD (List api_Bitmap)) _ rfl rd52 (.nil _))))).map rfl fun {H cs a} h => by
  obtain ⟨a0, a1, a2, _⟩ := a
  obtain ⟨_, _, rfl, ⟨rfl, r0⟩, _, _, rfl, ⟨rfl, r1⟩, _, _, rfl, ⟨⟨A6, n6, c6, s6, rfl, hF6⟩, r2⟩, hz⟩ := h
  cases hz
  exact ⟨⟨a0, a1, a2⟩, ⟨A6, n6, c6, s6, rfl, hF6⟩, r0, r1, r2⟩
theorem rd23 : ReadsD Tryz.prog 23 (List api_Peer) := ReadsD.slice Tryz.underlying23 (by kernel_rfl) rd89 (by decide)
instance rg_api_Tracker : Rg api_Tracker := ⟨fun x => Rg.rg x.Sizes ∧ Rg.rg x.Peers⟩
theorem rd25 : ReadsD Tryz.prog 25 (api_Tracker) := (@Reads.struct Tryz.prog 25 _ (List Int × List api_Peer × Unit) (@datProd _ _ (datD (List Int)) (@datProd _ _ (datD (List api_Peer)) datUnit)) Tryz.underlying25 (by kernel_rfl) (@Fields.cons _ _ _ _ _ _ (datD (List Int)) _ rfl rd22 (@Fields.cons _ _ _ _ _ _ (datD (List api_Peer)) _ rfl rd23 (.nil _)))).map rfl fun {H cs a} h => by
  obtain ⟨a0, a1, _⟩ := a
  obtain ⟨_, _, rfl, ⟨⟨A8, n8, c8, s8, rfl, hF8⟩, r0⟩, _, _, rfl, ⟨⟨A10, n10, c10, s10, rfl, hF10⟩, r1⟩, hz⟩ := h
  cases hz
  exact ⟨⟨a0, a1⟩, ⟨A8, n8, c8, s8, A10, n10, c10, s10, rfl, hF8, hF10⟩, r0, r1⟩
instance rg_api_Write : Rg api_Write := ⟨fun x => Rg.rg x.Volume ∧ Rg.rg x.Start ∧ Rg.rg x.Data⟩
instance rg_api_Cycle : Rg api_Cycle := ⟨fun x => Rg.rg x.Base ∧ Rg.rg x.Number ∧ Rg.rg x.Time ∧ Rg.rg x.Positions ∧ Rg.rg x.Writes⟩
instance rg_standbylaw43_Agreement : Rg standbylaw43_Agreement := ⟨fun x => Rg.rg x.Site ∧ Rg.rg x.Number ∧ Rg.rg x.Later⟩
end Go.Proofs.YtgojhiknicmopaaGreatDoor
namespace Go.Proofs.YtgojhiknicmopaaGreatDoor
open Go.RowKit Go.ChangeShapes Go.WideShapes Go.ChangeAt
theorem Tryz.own : ownKnob Tryz.prog.godebug = none := by kernel_rfl
theorem Tryz.laidOut : laidOutB Tryz.prog = true := by kernel_rfl
theorem Tryz.doorMet (os : Os) (args : Array Value) : laidMetH Tryz.prog [("math/bits.deBruijn64tab", Rows.laid_math_bits_deBruijn64tab)] ((World.doorLaid Tryz.prog 14 os).forCall (fun _ _ => 0) ⟨#[], args, []⟩).memory :=
  laidMetH_of_parts3 (fuel := 8) (laidMet_of_run' 8 (by kernel_rfl) (by kernel_rfl)) (by kernel_rfl) (by kernel_rfl)
theorem tabHolds {W : World} (h : laidMetH Tryz.prog [("math/bits.deBruijn64tab", Rows.laid_math_bits_deBruijn64tab)] W) : TabH (HW W) 0 :=
  tab_of_laid (t := 267) (e := 5) (by kernel_rfl) (by kernel_rfl) Tryz.underlying267 Tryz.underlying5 (by kernel_rfl) (by kernel_rfl) rfl h
theorem lawRes (y : TupD DD [4]) (hy : y.1 = true) {H : Hp} {v : Value} {L : List Ent} (hr : ResR Tryz.prog tab [4] [[false]] y H v L) : ∃ z, z = true ∧ v = .bool z ∧ L = [] := by
  obtain ⟨ρ, _, _, _, _, h1, h2⟩ := hr 0 (fun _ => none) (fun _ _ => rfl) _ _ _ (show resE Tryz.prog tab _ _ y 0 = some (.b y.1, [], 0) by kernel_rfl)
  exact ⟨y.1, hy, h1, h2⟩
theorem pkw25 (v : Value) (cs : List Value) : PkR Tryz.prog 25 v cs = (v = .agg cs.toArray) := by kernel_rfl
theorem pkw69 (v : Value) (cs : List Value) : PkR Tryz.prog 69 v cs = (cs = [v]) := by kernel_rfl
end Go.Proofs.YtgojhiknicmopaaGreatDoor
namespace Go.Proofs.YtgojhiknicmopaaGreatDoor
open Go.RowKit
def Z0 (x0 : List api_Bitmap) (v1 : Int) (rec1 : (Int) → Prop) (Φ : Bool → Prop) : Bool → Prop
 | v2 =>
 (v2 = true →
 inX v1 x0.length ∧
 (200 < ((ix x0 v1).Size) →
 inX v1 x0.length ∧
 (((ix x0 v1).Size) ≤ 4096 →
 Φ false) ∧
 (¬ (((ix x0 v1).Size) ≤ 4096) →
 inX v1 x0.length ∧
 (100 < (((ix x0 v1).Words).length : Int) →
 Φ false) ∧
 (¬ (100 < (((ix x0 v1).Words).length : Int)) →
 inI (v1 + 1) ∧
 rec1 (v1 + 1)))) ∧
 (¬ (200 < ((ix x0 v1).Size)) →
 inX v1 x0.length ∧
 (100 < (((ix x0 v1).Words).length : Int) →
 Φ false) ∧
 (¬ (100 < (((ix x0 v1).Words).length : Int)) →
 inI (v1 + 1) ∧
 rec1 (v1 + 1)))) ∧
 (¬ (v2 = true) →
 Φ (decide ((x0.length : Int) ≤ 20)))
def Z1 (x0 : List api_Bitmap) (Φ : Bool → Prop) : (Int) → ((Int) → Prop) → Prop
 | v1, rec1 =>
 Join (Z0 x0 v1 rec1 Φ) fun J2 =>
 (v1 < (x0.length : Int) →
 J2 (decide (v1 < 20))) ∧
 (¬ (v1 < (x0.length : Int)) →
 J2 false)
def Z2 (x0 : List api_Bitmap) (Φ : Bool → Prop) : Prop :=
 LoopW (Z1 x0 Φ) 0
def ref43_Few_J4 (x0 : api_Tracker) (v4 : Int) (rec3 : (Int) → Prop) (Φ : Bool → Prop) : Bool → Prop
 | v5 =>
 (v5 = true →
 inX v4 x0.Sizes.length ∧
 (200 < (ix x0.Sizes v4) →
 inX v4 x0.Sizes.length ∧
 ((ix x0.Sizes v4) ≤ 4096 →
 Φ false) ∧
 (¬ ((ix x0.Sizes v4) ≤ 4096) →
 inI (v4 + 1) ∧
 rec3 (v4 + 1))) ∧
 (¬ (200 < (ix x0.Sizes v4)) →
 inI (v4 + 1) ∧
 rec3 (v4 + 1))) ∧
 (¬ (v5 = true) →
 ((x0.Peers.length : Int) ≤ 20 →
 Φ (decide ((x0.Sizes.length : Int) ≤ 20))) ∧
 (¬ ((x0.Peers.length : Int) ≤ 20) →
 Φ false))
def ref43_Few_L3 (x0 : api_Tracker) (Φ : Bool → Prop) : (Int) → ((Int) → Prop) → Prop
 | v4, rec3 =>
 Join (ref43_Few_J4 x0 v4 rec3 Φ) fun J4 =>
 (v4 < (x0.Sizes.length : Int) →
 J4 (decide (v4 < 20))) ∧
 (¬ (v4 < (x0.Sizes.length : Int)) →
 J4 false)
def ref43_Few_J2 (x0 : api_Tracker) (v1 : Int) (rec1 : (Int) → Prop) (Φ : Bool → Prop) : Bool → Prop
 | v2 =>
 (v2 = true →
 inX v1 x0.Peers.length ∧
 Z2 ((ix x0.Peers v1).Dirty) fun v3 =>
 (¬ (v3 = true) →
 Φ false) ∧
 (¬ (¬ (v3 = true)) →
 inI (v1 + 1) ∧
 rec1 (v1 + 1))) ∧
 (¬ (v2 = true) →
 LoopW (ref43_Few_L3 x0 Φ) 0)
def ref43_Few_L1 (x0 : api_Tracker) (Φ : Bool → Prop) : (Int) → ((Int) → Prop) → Prop
 | v1, rec1 =>
 Join (ref43_Few_J2 x0 v1 rec1 Φ) fun J2 =>
 (v1 < (x0.Peers.length : Int) →
 J2 (decide (v1 < 20))) ∧
 (¬ (v1 < (x0.Peers.length : Int)) →
 J2 false)
def ref43_Few_W (x0 : api_Tracker) (Φ : Bool → Prop) : Prop :=
 LoopW (ref43_Few_L1 x0 Φ) 0
def Z3 (x0 : Int) (Φ : Bool → Prop) : Prop :=
 (x0 < 1 →
 Φ true) ∧
 (¬ (x0 < 1) →
 Φ (decide (4096 < x0)))
def Z4 (x0 : List Int) (Φ : Int → Prop) : (Int) → ((Int) → Prop) → Prop
 | v1, rec1 =>
 (v1 < (x0.length : Int) →
 inX v1 x0.length ∧
 Z3 (ix x0 v1) fun v2 =>
 (v2 = true →
 (0 ≤ v1 →
 Φ 2) ∧
 (¬ (0 ≤ v1) →
 Φ 0)) ∧
 (¬ (v2 = true) →
 inI (v1 + 1) ∧
 rec1 (v1 + 1))) ∧
 (¬ (v1 < (x0.length : Int)) →
 (0 ≤ ((-1) : Int) →
 Φ 2) ∧
 (¬ (0 ≤ ((-1) : Int)) →
 Φ 0))
def Z5 (x0 : List Int) (Φ : Int → Prop) : Prop :=
 ((x0.length : Int) < 1 →
 Φ 6) ∧
 (¬ ((x0.length : Int) < 1) →
 (8 < (x0.length : Int) →
 Φ 6) ∧
 (¬ (8 < (x0.length : Int)) →
 LoopW (Z4 x0 Φ) 0))
def image_New_1_W (x0 : Int) (Φ : List Sec → Prop) : Prop :=
 0 ≤ x0 ∧
 lenOk x0.toNat 8 ∧
 Φ (List.replicate x0.toNat (sec0 : Sec))
def image_New_L1 (x0 : List Int) (Φ : List (List Sec) × Int → Prop) : (Int × List (List Sec)) → ((Int × List (List Sec)) → Prop) → Prop
 | (v2, v3), rec1 =>
 (v2 < (x0.length : Int) →
 inX v2 x0.length ∧
 image_New_1_W (ix x0 v2) fun v4 =>
 lenOk (v3 ++ ([v4] : List (List Sec))).length 24 ∧
 inI (v2 + 1) ∧
 rec1 ((v2 + 1), (v3 ++ ([v4] : List (List Sec))))) ∧
 (¬ (v2 < (x0.length : Int)) →
 Φ (v3, 0))
def image_New_W (x0 : List Int) (Φ : List (List Sec) × Int → Prop) : Prop :=
 Z5 x0 fun v1 =>
 (v1 ≠ 0 →
 Φ (([] : List (List Sec)), v1)) ∧
 (¬ (v1 ≠ 0) →
 0 ≤ (x0.length : Int) ∧
 lenOk (x0.length : Int).toNat 24 ∧
 LoopW (image_New_L1 x0 Φ) (0, ([] : List (List Sec))))
def Z6 (x0 : Int) (x1 : Int) (x2 : Int) (Φ : Bool → Prop) : Prop :=
 (x1 ≤ x0 →
 Φ (decide (x0 ≤ x2))) ∧
 (¬ (x1 ≤ x0) →
 Φ false)
def Z7 (x0 : Int) (Φ : Bool → Prop) : Prop :=
 Z6 x0 0 3 fun v1 =>
 Φ v1
def Z8 (x0 : Int) (Φ : Int → Prop) : Prop :=
 inI (x0 + 64) ∧
 inI ((x0 + 64) - 1) ∧
 (0 ≤ ((x0 + 64) - 1) ∧ inI ((x0 + 64) - 1) ∧ (0 : Int) < 64) ∧
 Φ (((x0 + 64) - 1) / 64)
def bitmap_New_J1 (x0 : Int) (Φ : api_Bitmap × Int → Prop) : Bool → Prop
 | v1 =>
 (v1 = true →
 Φ ((api_Bitmap.mk 0 ([] : List (BitVec 64))), 2)) ∧
 (¬ (v1 = true) →
 Z8 x0 fun v2 =>
 0 ≤ v2 ∧
 lenOk v2.toNat 8 ∧
 Φ ((api_Bitmap.mk x0 (List.replicate v2.toNat (0#64 : BitVec 64))), 0))
def bitmap_New_W (x0 : Int) (Φ : api_Bitmap × Int → Prop) : Prop :=
 Join (bitmap_New_J1 x0 Φ) fun J1 =>
 (x0 < 0 →
 J1 true) ∧
 (¬ (x0 < 0) →
 J1 (decide (4096 < x0)))
def Z9 (x0 : List Int) (Φ : List api_Bitmap × Int → Prop) : (Int × List api_Bitmap) → ((Int × List api_Bitmap) → Prop) → Prop
 | (v1, v2), rec1 =>
 (v1 < (x0.length : Int) →
 inX v1 x0.length ∧
 bitmap_New_W (ix x0 v1) fun v3 =>
 (v3.2 ≠ 0 →
 Φ (([] : List api_Bitmap), v3.2)) ∧
 (¬ (v3.2 ≠ 0) →
 lenOk (v2 ++ ([v3.1] : List api_Bitmap)).length 32 ∧
 inI (v1 + 1) ∧
 rec1 ((v1 + 1), (v2 ++ ([v3.1] : List api_Bitmap))))) ∧
 (¬ (v1 < (x0.length : Int)) →
 Φ (v2, 0))
def Z10 (x0 : List Int) (Φ : List api_Bitmap × Int → Prop) : Prop :=
 LoopW (Z9 x0 Φ) (0, ([] : List api_Bitmap))
def Z11 (x0 : List Int) (Φ : List Int → Prop) : Prop :=
 (x0 = [] →
 Φ ([] : List Int)) ∧
 (
 lenOk (([] : List Int) ++ x0).length 8 ∧
 Φ (([] : List Int) ++ x0))
def Z12 (v5 : List (Int × api_Peer)) (v8 : List Int) (Φ : api_Tracker × Int → Prop) : (Int × List api_Peer) → ((Int × List api_Peer) → Prop) → Prop
 | (v9, v10), rec3 =>
 (v9 < ((sortZ (v5.map fun p => p.1)).length : Int) →
 inX v9 (sortZ (v5.map fun p => p.1)).length ∧
 lenOk (v10 ++ ([(mget v5 (ix (sortZ (v5.map fun p => p.1)) v9) (api_Peer.mk 0 0 ([] : List api_Bitmap)))] : List api_Peer)).length 40 ∧
 inI (v9 + 1) ∧
 rec3 ((v9 + 1), (v10 ++ ([(mget v5 (ix (sortZ (v5.map fun p => p.1)) v9) (api_Peer.mk 0 0 ([] : List api_Bitmap)))] : List api_Peer)))) ∧
 (¬ (v9 < ((sortZ (v5.map fun p => p.1)).length : Int)) →
 Φ ((api_Tracker.mk v8 v10), 0))
def Z13 (x0 : List Int) (x1 : List Int) (x2 : Int) (Φ : api_Tracker × Int → Prop) : (Int × (List (Int × api_Peer))) → ((Int × (List (Int × api_Peer))) → Prop) → Prop
 | (v4, v5), rec2 =>
 (v4 < (x1.length : Int) →
 inX v4 x1.length ∧
 ((mhas v5 (ix x1 v4)) = true →
 Φ ((api_Tracker.mk ([] : List Int) ([] : List api_Peer)), 8)) ∧
 (¬ ((mhas v5 (ix x1 v4)) = true) →
 Z10 x0 fun v6 =>
 (v6.2 ≠ 0 →
 Φ ((api_Tracker.mk ([] : List Int) ([] : List api_Peer)), v6.2)) ∧
 (¬ (v6.2 ≠ 0) →
 inI (v4 + 1) ∧
 rec2 ((v4 + 1), (mput v5 (ix x1 v4) (api_Peer.mk (ix x1 v4) x2 v6.1)))))) ∧
 (¬ (v4 < (x1.length : Int)) →
 Z6 x2 0 1073741824 fun v7 =>
 (¬ (v7 = true) →
 Φ ((api_Tracker.mk ([] : List Int) ([] : List api_Peer)), 2)) ∧
 (¬ (¬ (v7 = true)) →
 Z11 x0 fun v8 =>
 (v5.map fun p => p.1).Nodup ∧
 (∀ p, p ∈ v5 → inI p.1) ∧
 lenOk v5.length 8 ∧
 LoopW (Z12 v5 v8 Φ) (0, ([] : List api_Peer))))
def Z14 (x0 : List Int) (x1 : List Int) (x2 : Int) (Φ : api_Tracker × Int → Prop) : (Int) → ((Int) → Prop) → Prop
 | v2, rec1 =>
 (v2 < (x1.length : Int) →
 inX v2 x1.length ∧
 Z7 (ix x1 v2) fun v3 =>
 (¬ (v3 = true) →
 Φ ((api_Tracker.mk ([] : List Int) ([] : List api_Peer)), 2)) ∧
 (¬ (¬ (v3 = true)) →
 inI (v2 + 1) ∧
 rec1 (v2 + 1))) ∧
 (¬ (v2 < (x1.length : Int)) →
 LoopW (Z13 x0 x1 x2 Φ) (0, ([] : List (Int × api_Peer))))
def tracker_New_W (x0 : List Int) (x1 : List Int) (x2 : Int) (Φ : api_Tracker × Int → Prop) : Prop :=
 image_New_W x0 fun v1 =>
 (v1.2 ≠ 0 →
 Φ ((api_Tracker.mk ([] : List Int) ([] : List api_Peer)), v1.2)) ∧
 (¬ (v1.2 ≠ 0) →
 (4 < (x1.length : Int) →
 Φ ((api_Tracker.mk ([] : List Int) ([] : List api_Peer)), 6)) ∧
 (¬ (4 < (x1.length : Int)) →
 LoopW (Z14 x0 x1 x2 Φ) 0))
def Z15 (x0 : api_Bitmap) (Φ : Int → Prop) : Prop :=
 (x0.Size < 0 →
 Φ 3) ∧
 (¬ (x0.Size < 0) →
 (4096 < x0.Size →
 Φ 3) ∧
 (¬ (4096 < x0.Size) →
 ∃ v1 : Int × Unit, Z8 x0.Size (fun z => (z, ()) = v1) ∧
 ((x0.Words.length : Int) ≠ v1.1 →
 Φ 3) ∧
 (¬ ((x0.Words.length : Int) ≠ v1.1) →
 (0 ≤ x0.Size ∧ 64 ≠ (0 : Int)) ∧
 (0 < (x0.Size % 64) →
 inI ((x0.Words.length : Int) - 1) ∧
 inX ((x0.Words.length : Int) - 1) x0.Words.length ∧
 0 ≤ (x0.Size % 64) ∧
 (((ix x0.Words ((x0.Words.length : Int) - 1)) >>> ((x0.Size % 64) : Int).toNat) ≠ (0#64) →
 Φ 3) ∧
 (¬ (((ix x0.Words ((x0.Words.length : Int) - 1)) >>> ((x0.Size % 64) : Int).toNat) ≠ (0#64)) →
 Φ 0)) ∧
 (¬ (0 < (x0.Size % 64)) →
 Φ 0))))
def Z16 (x0 : api_Bitmap) (x1 : Int) (Φ : Bool × Int → Prop) : Prop :=
 Z15 x0 fun v1 =>
 (v1 ≠ 0 →
 Φ (false, v1)) ∧
 (¬ (v1 ≠ 0) →
 (x0.Size ≠ x1 →
 Φ (false, 22)) ∧
 (¬ (x0.Size ≠ x1) →
 Φ (true, 0)))
def Z17 (x0 : List api_Bitmap) (x1 : List Int) (Φ : Int → Prop) : (Int × List Bool) → ((Int × List Bool) → Prop) → Prop
 | (v1, v2), rec1 =>
 (v1 < (x0.length : Int) →
 inX v1 x0.length ∧
 inX v1 x1.length ∧
 ∃ v3 : Bool × Int × Unit, Z16 (ix x0 v1) (ix x1 v1) (fun z => (z.1, z.2, ()) = v3) ∧
 (v3.2.1 ≠ 0 →
 Φ v3.2.1) ∧
 (¬ (v3.2.1 ≠ 0) →
 lenOk (v2 ++ ([v3.1] : List Bool)).length 1 ∧
 inI (v1 + 1) ∧
 rec1 ((v1 + 1), (v2 ++ ([v3.1] : List Bool))))) ∧
 (¬ (v1 < (x0.length : Int)) →
 Φ 0)
def Z18 (x0 : List api_Bitmap) (x1 : List Int) (Φ : Int → Prop) : Prop :=
 ((x0.length : Int) ≠ (x1.length : Int) →
 Φ 6) ∧
 (¬ ((x0.length : Int) ≠ (x1.length : Int)) →
 LoopW (Z17 x0 x1 Φ) (0, ([] : List Bool)))
def Z19 (x0 : api_Tracker) (Φ : Int → Prop) : (Int × Int) → ((Int × Int) → Prop) → Prop
 | (v2, v3), rec1 =>
 (v3 < (x0.Peers.length : Int) →
 inX v3 x0.Peers.length ∧
 Z7 ((ix x0.Peers v3).Site) fun v4 =>
 (¬ (v4 = true) →
 Φ 2) ∧
 (¬ (¬ (v4 = true)) →
 (((ix x0.Peers v3).Site) ≤ v2 →
 Φ 8) ∧
 (¬ (((ix x0.Peers v3).Site) ≤ v2) →
 Z6 ((ix x0.Peers v3).Common) 0 1073741824 fun v5 =>
 (¬ (v5 = true) →
 Φ 2) ∧
 (¬ (¬ (v5 = true)) →
 Z18 ((ix x0.Peers v3).Dirty) x0.Sizes fun v6 =>
 (v6 ≠ 0 →
 Φ v6) ∧
 (¬ (v6 ≠ 0) →
 inI (v3 + 1) ∧
 rec1 ((ix x0.Peers v3).Site, (v3 + 1))))))) ∧
 (¬ (v3 < (x0.Peers.length : Int)) →
 Φ 0)
def Z20 (x0 : api_Tracker) (Φ : Int → Prop) : Prop :=
 image_New_W x0.Sizes fun v1 =>
 (v1.2 ≠ 0 →
 Φ v1.2) ∧
 (¬ (v1.2 ≠ 0) →
 (4 < (x0.Peers.length : Int) →
 Φ 6) ∧
 (¬ (4 < (x0.Peers.length : Int)) →
 LoopW (Z19 x0 Φ) ((-1), 0)))
def Z21 (x0 : List Sec) (Φ : Int → Prop) : Prop :=
 Φ (x0.length : Int)
def Z22 (x0 : List (List Sec)) (Φ : List Int → Prop) : (Int × List Int) → ((Int × List Int) → Prop) → Prop
 | (v1, v2), rec1 =>
 (v1 < (x0.length : Int) →
 inX v1 x0.length ∧
 Z21 (ix x0 v1) fun v3 =>
 lenOk (v2 ++ ([v3] : List Int)).length 8 ∧
 inI (v1 + 1) ∧
 rec1 ((v1 + 1), (v2 ++ ([v3] : List Int)))) ∧
 (¬ (v1 < (x0.length : Int)) →
 Φ v2)
def image_sizes_W (x0 : List (List Sec)) (Φ : List Int → Prop) : Prop :=
 0 ≤ (x0.length : Int) ∧
 lenOk (x0.length : Int).toNat 8 ∧
 LoopW (Z22 x0 Φ) (0, ([] : List Int))
def image_Check_W (x0 : List (List Sec)) (Φ : Int → Prop) : Prop :=
 image_sizes_W x0 fun v1 =>
 Z5 v1 fun v2 =>
 Φ v2
def image_fits_J1 (x0 : List (List Sec)) (x1 : api_Write) (Φ : Int → Prop) : Bool → Prop
 | v1 =>
 (v1 = true →
 Φ 7) ∧
 (¬ (v1 = true) →
 ((x1.Data.length : Int) = 0 →
 Φ 1) ∧
 (¬ ((x1.Data.length : Int) = 0) →
 (x1.Start < 0 →
 Φ 2) ∧
 (¬ (x1.Start < 0) →
 inX x1.Volume x0.length ∧
 inI (((ix x0 x1.Volume).length : Int) - (x1.Data.length : Int)) ∧
 ((((ix x0 x1.Volume).length : Int) - (x1.Data.length : Int)) < x1.Start →
 Φ 2) ∧
 (¬ ((((ix x0 x1.Volume).length : Int) - (x1.Data.length : Int)) < x1.Start) →
 Φ 0))))
def image_fits_W (x0 : List (List Sec)) (x1 : api_Write) (Φ : Int → Prop) : Prop :=
 Join (image_fits_J1 x0 x1 Φ) fun J1 =>
 (x1.Volume < 0 →
 J1 true) ∧
 (¬ (x1.Volume < 0) →
 J1 (decide ((x0.length : Int) ≤ x1.Volume)))
def image_Fits_W (x0 : List (List Sec)) (x1 : api_Write) (Φ : Int → Prop) : Prop :=
 image_Check_W x0 fun v1 =>
 (v1 ≠ 0 →
 Φ v1) ∧
 (¬ (v1 ≠ 0) →
 image_fits_W x0 x1 fun v2 =>
 Φ v2)
def Z23 (x0 : List (BitVec 64)) (Φ : List (BitVec 64) → Prop) : Prop :=
 (x0 = [] →
 Φ ([] : List (BitVec 64))) ∧
 (
 lenOk (([] : List (BitVec 64)) ++ x0).length 8 ∧
 Φ (([] : List (BitVec 64)) ++ x0))
def tracker_own_W (x0 : api_Bitmap) (Φ : api_Bitmap → Prop) : Prop :=
 ∃ v1 : List (BitVec 64) × Unit, Z23 x0.Words (fun z => (z, ()) = v1) ∧
 Φ (api_Bitmap.mk x0.Size v1.1)
def Z24 (x0 : List api_Bitmap) (Φ : List api_Bitmap → Prop) : (Int × List api_Bitmap) → ((Int × List api_Bitmap) → Prop) → Prop
 | (v1, v2), rec1 =>
 (v1 < (x0.length : Int) →
 inX v1 x0.length ∧
 tracker_own_W (ix x0 v1) fun v3 =>
 lenOk (v2 ++ ([v3] : List api_Bitmap)).length 32 ∧
 inI (v1 + 1) ∧
 rec1 ((v1 + 1), (v2 ++ ([v3] : List api_Bitmap)))) ∧
 (¬ (v1 < (x0.length : Int)) →
 Φ v2)
def Z25 (x0 : List api_Bitmap) (Φ : List api_Bitmap → Prop) : Prop :=
 LoopW (Z24 x0 Φ) (0, ([] : List api_Bitmap))
def bitmap_fits_W (x0 : api_Extent) (x1 : Int) (Φ : Bool → Prop) : Prop :=
 (0 ≤ x0.Start →
 (0 ≤ x0.Count →
 (x0.Start ≤ x1 →
 inI (x1 - x0.Start) ∧
 Φ (decide (x0.Count ≤ (x1 - x0.Start)))) ∧
 (¬ (x0.Start ≤ x1) →
 Φ false)) ∧
 (¬ (0 ≤ x0.Count) →
 Φ false)) ∧
 (¬ (0 ≤ x0.Start) →
 Φ false)
def bitmap_mask_W (x0 : Int) (x1 : Int) (x2 : Int) (Φ : BitVec 64 → Prop) : Prop :=
 inI (x0 * 64) ∧
 inI (x1 - (x0 * 64)) ∧
 inI (x0 * 64) ∧
 inI (x2 - (x0 * 64)) ∧
 ((if 64 < (x2 - (x0 * 64)) then 64 else (x2 - (x0 * 64))) ≤ (if (x1 - (x0 * 64)) < 0 then 0 else (x1 - (x0 * 64))) →
 Φ (0#64)) ∧
 (¬ ((if 64 < (x2 - (x0 * 64)) then 64 else (x2 - (x0 * 64))) ≤ (if (x1 - (x0 * 64)) < 0 then 0 else (x1 - (x0 * 64)))) →
 inI ((if 64 < (x2 - (x0 * 64)) then 64 else (x2 - (x0 * 64))) - (if (x1 - (x0 * 64)) < 0 then 0 else (x1 - (x0 * 64)))) ∧
 inI (64 - ((if 64 < (x2 - (x0 * 64)) then 64 else (x2 - (x0 * 64))) - (if (x1 - (x0 * 64)) < 0 then 0 else (x1 - (x0 * 64))))) ∧
 0 ≤ (64 - ((if 64 < (x2 - (x0 * 64)) then 64 else (x2 - (x0 * 64))) - (if (x1 - (x0 * 64)) < 0 then 0 else (x1 - (x0 * 64))))) ∧
 0 ≤ (if (x1 - (x0 * 64)) < 0 then 0 else (x1 - (x0 * 64))) ∧
 Φ (((18446744073709551615#64) >>> ((64 - ((if 64 < (x2 - (x0 * 64)) then 64 else (x2 - (x0 * 64))) - (if (x1 - (x0 * 64)) < 0 then 0 else (x1 - (x0 * 64))))) : Int).toNat) <<< ((if (x1 - (x0 * 64)) < 0 then 0 else (x1 - (x0 * 64))) : Int).toNat))
def Z26 (x0 : BitVec 64) (x1 : BitVec 64) (Φ : BitVec 64 → Prop) : Prop :=
 Φ (x0 ||| x1)
def bitmap_Set_L1 (x0 : api_Bitmap) (x1 : api_Extent) (v3 : List (BitVec 64)) (Φ : api_Bitmap × Int → Prop) : (Int × List (BitVec 64)) → ((Int × List (BitVec 64)) → Prop) → Prop
 | (v4, v5), rec1 =>
 (v4 < (v3.length : Int) →
 inX v4 v5.length ∧
 inI (x1.Start + x1.Count) ∧
 ∃ v6 : BitVec 64 × Unit, bitmap_mask_W v4 x1.Start (x1.Start + x1.Count) (fun z => (z, ()) = v6) ∧
 ∃ v7 : BitVec 64 × Unit, Z26 (ix v5 v4) v6.1 (fun z => (z, ()) = v7) ∧
 inX v4 v5.length ∧
 inI (v4 + 1) ∧
 rec1 ((v4 + 1), (put v5 v4 v7.1))) ∧
 (¬ (v4 < (v3.length : Int)) →
 Φ ((api_Bitmap.mk x0.Size v5), 0))
def bitmap_Set_W (x0 : api_Bitmap) (x1 : api_Extent) (Φ : api_Bitmap × Int → Prop) : Prop :=
 Z15 x0 fun v1 =>
 (v1 ≠ 0 →
 Φ ((api_Bitmap.mk 0 ([] : List (BitVec 64))), v1)) ∧
 (¬ (v1 ≠ 0) →
 bitmap_fits_W x1 x0.Size fun v2 =>
 (¬ (v2 = true) →
 Φ ((api_Bitmap.mk 0 ([] : List (BitVec 64))), 2)) ∧
 (¬ (¬ (v2 = true)) →
 Z23 x0.Words fun v3 =>
 LoopW (bitmap_Set_L1 x0 x1 v3 Φ) (0, v3)))
def Z27 (v8 : List ((Int × api_Peer) × List api_Bitmap)) (v10 : List Int) (Φ : api_Tracker × Int → Prop) : (Int × List api_Peer) → ((Int × List api_Peer) → Prop) → Prop
 | (v11, v12), rec3 =>
 (v11 < ((sortZ ((v8.map fun p => (p.1.1, (api_Peer.mk p.1.2.Site p.1.2.Common p.2))).map fun p => p.1)).length : Int) →
 inX v11 (sortZ ((v8.map fun p => (p.1.1, (api_Peer.mk p.1.2.Site p.1.2.Common p.2))).map fun p => p.1)).length ∧
 lenOk (v12 ++ ([(mget (v8.map fun p => (p.1.1, (api_Peer.mk p.1.2.Site p.1.2.Common p.2))) (ix (sortZ ((v8.map fun p => (p.1.1, (api_Peer.mk p.1.2.Site p.1.2.Common p.2))).map fun p => p.1)) v11) (api_Peer.mk 0 0 ([] : List api_Bitmap)))] : List api_Peer)).length 40 ∧
 inI (v11 + 1) ∧
 rec3 ((v11 + 1), (v12 ++ ([(mget (v8.map fun p => (p.1.1, (api_Peer.mk p.1.2.Site p.1.2.Common p.2))) (ix (sortZ ((v8.map fun p => (p.1.1, (api_Peer.mk p.1.2.Site p.1.2.Common p.2))).map fun p => p.1)) v11) (api_Peer.mk 0 0 ([] : List api_Bitmap)))] : List api_Peer)))) ∧
 (¬ (v11 < ((sortZ ((v8.map fun p => (p.1.1, (api_Peer.mk p.1.2.Site p.1.2.Common p.2))).map fun p => p.1)).length : Int)) →
 Φ ((api_Tracker.mk v10 v12), 0))
def Z28 (x1 : api_Write) (v7 : (Nat × List Nat)) (v8 : List ((Int × api_Peer) × List api_Bitmap)) (rec2 : (((Nat × List Nat)) × (List ((Int × api_Peer) × List api_Bitmap))) → Prop) (i9 : Nat) (Φ : api_Tracker × Int → Prop) : (Int × List api_Bitmap) → ((Int × List api_Bitmap) → Prop) → Prop
 | (v13, v14), rec4 =>
 (v13 < (([x1] : List api_Write).length : Int) →
 inX v13 ([x1] : List api_Write).length ∧
 inX ((ix ([x1] : List api_Write) v13).Volume) v14.length ∧
 ∃ v15 : api_Bitmap × Int × Unit, bitmap_Set_W (ix v14 ((ix ([x1] : List api_Write) v13).Volume)) (api_Extent.mk ((ix ([x1] : List api_Write) v13).Start) (((ix ([x1] : List api_Write) v13).Data).length : Int)) (fun z => (z.1, z.2, ()) = v15) ∧
 (v15.2.1 ≠ 0 →
 (v15.2.1 ≠ 0 →
 Φ ((api_Tracker.mk ([] : List Int) ([] : List api_Peer)), v15.2.1)) ∧
 (¬ (v15.2.1 ≠ 0) →
 False)) ∧
 (¬ (v15.2.1 ≠ 0) →
 inX ((ix ([x1] : List api_Write) v13).Volume) v14.length ∧
 inI (v13 + 1) ∧
 rec4 ((v13 + 1), (put v14 ((ix ([x1] : List api_Write) v13).Volume) v15.1)))) ∧
 (¬ (v13 < (([x1] : List api_Write).length : Int)) →
 ((0 : Int) ≠ 0 →
 Φ ((api_Tracker.mk ([] : List Int) ([] : List api_Peer)), 0)) ∧
 (¬ ((0 : Int) ≠ 0) →
 i9 < v8.length ∧
 (entD v8 i9).1.1 = ((entD v8 i9).1.1) ∧
 (∀ i, i < i9 → (entD v8 i).1.1 ≠ ((entD v8 i9).1.1)) ∧
 rec2 ((v7.1, (i9 :: v7.2)), (v8.set i9 ((((entD v8 i9).1.1), (api_Peer.mk (((entD v8 i9).1.2).Site) (((entD v8 i9).1.2).Common) ([] : List api_Bitmap))), v14)))))
def Z29 (x0 : api_Tracker) (x1 : api_Write) (Φ : api_Tracker × Int → Prop) : (((Nat × List Nat)) × (List ((Int × api_Peer) × List api_Bitmap))) → ((((Nat × List Nat)) × (List ((Int × api_Peer) × List api_Bitmap))) → Prop) → Prop
 | (v7, v8), rec2 =>
 v8.length = v7.1 ∧ ((∀ i, i < v8.length → i ∈ v7.2) →
 Z11 x0.Sizes fun v10 =>
 (∀ p, p ∈ v8 → true = true) ∧
 ((v8.map fun p => (p.1.1, (api_Peer.mk p.1.2.Site p.1.2.Common p.2))).map fun p => p.1).Nodup ∧
 (∀ p, p ∈ (v8.map fun p => (p.1.1, (api_Peer.mk p.1.2.Site p.1.2.Common p.2))) → inI p.1) ∧
 lenOk (v8.map fun p => (p.1.1, (api_Peer.mk p.1.2.Site p.1.2.Common p.2))).length 8 ∧
 LoopW (Z27 v8 v10 Φ) (0, ([] : List api_Peer))) ∧
 ∀ i9, i9 < v8.length → i9 ∉ v7.2 →
 v8.length = v7.1 ∧
 i9 < v8.length ∧
 i9 = i9 ∧
 LoopW (Z28 x1 v7 v8 rec2 i9 Φ) (0, (entD v8 i9).2)
def Z30 (x0 : api_Tracker) (x1 : api_Write) (Φ : api_Tracker × Int → Prop) : (Int × (List ((Int × api_Peer) × List api_Bitmap))) → ((Int × (List ((Int × api_Peer) × List api_Bitmap))) → Prop) → Prop
 | (v4, v5), rec1 =>
 (v4 < (x0.Peers.length : Int) →
 inX v4 x0.Peers.length ∧
 Z25 ((ix x0.Peers v4).Dirty) fun v6 =>
 mhas (v5.map fun p => p.1) ((ix x0.Peers v4).Site) = false ∧
 inI (v4 + 1) ∧
 rec1 ((v4 + 1), (v5 ++ [((((ix x0.Peers v4).Site), (api_Peer.mk ((ix x0.Peers v4).Site) ((ix x0.Peers v4).Common) ([] : List api_Bitmap))), v6)]))) ∧
 (¬ (v4 < (x0.Peers.length : Int)) →
 LoopW (Z29 x0 x1 Φ) ((v5.length, []), v5))
def Z31 (x0 : api_Tracker) (x1 : api_Write) (Φ : api_Tracker × Int → Prop) : Prop :=
 Z20 x0 fun v1 =>
 (v1 ≠ 0 →
 Φ ((api_Tracker.mk ([] : List Int) ([] : List api_Peer)), v1)) ∧
 (¬ (v1 ≠ 0) →
 image_New_W x0.Sizes fun v2 =>
 (v2.2 ≠ 0 →
 Φ ((api_Tracker.mk ([] : List Int) ([] : List api_Peer)), v2.2)) ∧
 (¬ (v2.2 ≠ 0) →
 image_Fits_W v2.1 x1 fun v3 =>
 (v3 ≠ 0 →
 Φ ((api_Tracker.mk ([] : List Int) ([] : List api_Peer)), v3)) ∧
 (¬ (v3 ≠ 0) →
 LoopW (Z30 x0 x1 Φ) (0, ([] : List ((Int × api_Peer) × List api_Bitmap))))))
def Z32 (x0 : api_Tracker) (x1 : Int) (Φ : List api_Bitmap × Int × Int → Prop) : (Int × (List (Int × api_Peer))) → ((Int × (List (Int × api_Peer))) → Prop) → Prop
 | (v2, v3), rec1 =>
 (v2 < (x0.Peers.length : Int) →
 inX v2 x0.Peers.length ∧
 Z25 ((ix x0.Peers v2).Dirty) fun v4 =>
 inI (v2 + 1) ∧
 rec1 ((v2 + 1), (mput v3 ((ix x0.Peers v2).Site) (api_Peer.mk ((ix x0.Peers v2).Site) ((ix x0.Peers v2).Common) v4)))) ∧
 (¬ (v2 < (x0.Peers.length : Int)) →
 (¬ ((mhas v3 x1) = true) →
 Φ (([] : List api_Bitmap), 0, 7)) ∧
 (¬ (¬ ((mhas v3 x1) = true)) →
 Φ ((mget v3 x1 (api_Peer.mk 0 0 ([] : List api_Bitmap))).Dirty, (mget v3 x1 (api_Peer.mk 0 0 ([] : List api_Bitmap))).Common, 0)))
def Z33 (x0 : api_Tracker) (x1 : Int) (Φ : List api_Bitmap × Int × Int → Prop) : Prop :=
 Z20 x0 fun v1 =>
 (v1 ≠ 0 →
 Φ (([] : List api_Bitmap), 0, v1)) ∧
 (¬ (v1 ≠ 0) →
 LoopW (Z32 x0 x1 Φ) (0, ([] : List (Int × api_Peer))))
def cycle_in_W (x0 : Int) (x1 : Int) (x2 : Int) (Φ : Bool → Prop) : Prop :=
 (x1 ≤ x0 →
 Φ (decide (x0 ≤ x2))) ∧
 (¬ (x1 ≤ x0) →
 Φ false)
def Z34 (x0 : Int) (Φ : Bool → Prop) : Prop :=
 cycle_in_W x0 0 1073741824 fun v1 =>
 Φ (decide (¬ (v1 = true)))
def Z35 (x0 : List Int) (Φ : Int → Prop) : (Int) → ((Int) → Prop) → Prop
 | v2, rec1 =>
 (v2 < (x0.length : Int) →
 inX v2 x0.length ∧
 Z34 (ix x0 v2) fun v3 =>
 (v3 = true →
 (0 ≤ v2 →
 Φ 2) ∧
 (¬ (0 ≤ v2) →
 Φ 0)) ∧
 (¬ (v3 = true) →
 inI (v2 + 1) ∧
 rec1 (v2 + 1))) ∧
 (¬ (v2 < (x0.length : Int)) →
 (0 ≤ ((-1) : Int) →
 Φ 2) ∧
 (¬ (0 ≤ ((-1) : Int)) →
 Φ 0))
def Z36 (x0 : List Int) (x1 : Int) (Φ : Int → Prop) : Prop :=
 cycle_in_W (x0.length : Int) x1 8 fun v1 =>
 (¬ (v1 = true) →
 Φ 6) ∧
 (¬ (¬ (v1 = true)) →
 LoopW (Z35 x0 Φ) 0)
def Z37 (x0 : List api_Write) (v1 : List (List Sec) × Int) (Φ : Int → Prop) : (Int) → ((Int) → Prop) → Prop
 | v2, rec1 =>
 (v2 < (x0.length : Int) →
 inX v2 x0.length ∧
 image_Fits_W v1.1 (ix x0 v2) fun v3 =>
 (v3 ≠ 0 →
 Φ v3) ∧
 (¬ (v3 ≠ 0) →
 (v2 = 0 →
 inI (v2 + 1) ∧
 rec1 (v2 + 1)) ∧
 (¬ (v2 = 0) →
 inI (v2 - 1) ∧
 inX (v2 - 1) x0.length ∧
 (((ix x0 v2).Volume) < ((ix x0 (v2 - 1)).Volume) →
 Φ 3) ∧
 (¬ (((ix x0 v2).Volume) < ((ix x0 (v2 - 1)).Volume)) →
 (((ix x0 v2).Volume) = ((ix x0 (v2 - 1)).Volume) →
 inI (((ix x0 (v2 - 1)).Start) + (((ix x0 (v2 - 1)).Data).length : Int)) ∧
 (((ix x0 v2).Start) ≤ (((ix x0 (v2 - 1)).Start) + (((ix x0 (v2 - 1)).Data).length : Int)) →
 Φ 3) ∧
 (¬ (((ix x0 v2).Start) ≤ (((ix x0 (v2 - 1)).Start) + (((ix x0 (v2 - 1)).Data).length : Int))) →
 inI (v2 + 1) ∧
 rec1 (v2 + 1))) ∧
 (¬ (((ix x0 v2).Volume) = ((ix x0 (v2 - 1)).Volume)) →
 inI (v2 + 1) ∧
 rec1 (v2 + 1)))))) ∧
 (¬ (v2 < (x0.length : Int)) →
 Φ 0)
def Z38 (x0 : List api_Write) (x1 : List Int) (Φ : Int → Prop) : Prop :=
 image_New_W x1 fun v1 =>
 (v1.2 ≠ 0 →
 Φ v1.2) ∧
 (¬ (v1.2 ≠ 0) →
 LoopW (Z37 x0 v1 Φ) 0)
def Z39 (x0 : api_Cycle) (x1 : List Int) (Φ : Int → Prop) : Bool → Prop
 | v2 =>
 (v2 = true →
 Φ 2) ∧
 (¬ (v2 = true) →
 cycle_in_W x0.Time 0 1073741824 fun v3 =>
 (¬ (v3 = true) →
 Φ 24) ∧
 (¬ (¬ (v3 = true)) →
 Z36 x0.Positions 0 fun v4 =>
 (v4 ≠ 0 →
 Φ v4) ∧
 (¬ (v4 ≠ 0) →
 Z38 x0.Writes x1 fun v5 =>
 Φ v5)))
def cycle_Check_W (x0 : api_Cycle) (x1 : List Int) (Φ : Int → Prop) : Prop :=
 image_New_W x1 fun v1 =>
 (v1.2 ≠ 0 →
 Φ v1.2) ∧
 (¬ (v1.2 ≠ 0) →
 Join (Z39 x0 x1 Φ) fun J1 =>
 (x0.Base < 0 →
 J1 true) ∧
 (¬ (x0.Base < 0) →
 (x0.Number ≤ x0.Base →
 J1 true) ∧
 (¬ (x0.Number ≤ x0.Base) →
 J1 (decide (1073741824 < x0.Number)))))
def Z40 (x3 : List api_Cycle) (v8 : Int) (rec2 : (Int × Int × List api_Bitmap) → Prop) (Φ : api_Tracker × Int → Prop) : Int × List api_Bitmap → Prop
 | (v11, v12) =>
 (v11 ≠ 0 →
 Φ ((api_Tracker.mk ([] : List Int) ([] : List api_Peer)), v11)) ∧
 (¬ (v11 ≠ 0) →
 inI (v8 + 1) ∧
 rec2 ((ix x3 v8).Number, (v8 + 1), v12))
def Z41 (x3 : List api_Cycle) (v8 : Int) (J3 : (Int × List api_Bitmap) → Prop) (_ : api_Tracker × Int → Prop) : (Int × List api_Bitmap) → ((Int × List api_Bitmap) → Prop) → Prop
 | (v13, v14), rec4 =>
 (v13 < (((ix x3 v8).Writes).length : Int) →
 inX v13 ((ix x3 v8).Writes).length ∧
 inX ((ix ((ix x3 v8).Writes) v13).Volume) v14.length ∧
 ∃ v15 : api_Bitmap × Int × Unit, bitmap_Set_W (ix v14 ((ix ((ix x3 v8).Writes) v13).Volume)) (api_Extent.mk ((ix ((ix x3 v8).Writes) v13).Start) (((ix ((ix x3 v8).Writes) v13).Data).length : Int)) (fun z => (z.1, z.2, ()) = v15) ∧
 (v15.2.1 ≠ 0 →
 J3 (v15.2.1, ([] : List api_Bitmap))) ∧
 (¬ (v15.2.1 ≠ 0) →
 inX ((ix ((ix x3 v8).Writes) v13).Volume) v14.length ∧
 inI (v13 + 1) ∧
 rec4 ((v13 + 1), (put v14 ((ix ((ix x3 v8).Writes) v13).Volume) v15.1)))) ∧
 (¬ (v13 < (((ix x3 v8).Writes).length : Int)) →
 J3 (0, v14))
def Z42 (x1 : Int) (x2 : Int) (v3 : List (Int × api_Peer)) (v9 : List api_Bitmap) (v16 : List Int) (Φ : api_Tracker × Int → Prop) : (Int × List api_Peer) → ((Int × List api_Peer) → Prop) → Prop
 | (v17, v18), rec5 =>
 (v17 < ((sortZ ((mput v3 x1 (api_Peer.mk x1 x2 v9)).map fun p => p.1)).length : Int) →
 inX v17 (sortZ ((mput v3 x1 (api_Peer.mk x1 x2 v9)).map fun p => p.1)).length ∧
 lenOk (v18 ++ ([(mget (mput v3 x1 (api_Peer.mk x1 x2 v9)) (ix (sortZ ((mput v3 x1 (api_Peer.mk x1 x2 v9)).map fun p => p.1)) v17) (api_Peer.mk 0 0 ([] : List api_Bitmap)))] : List api_Peer)).length 40 ∧
 inI (v17 + 1) ∧
 rec5 ((v17 + 1), (v18 ++ ([(mget (mput v3 x1 (api_Peer.mk x1 x2 v9)) (ix (sortZ ((mput v3 x1 (api_Peer.mk x1 x2 v9)).map fun p => p.1)) v17) (api_Peer.mk 0 0 ([] : List api_Bitmap)))] : List api_Peer)))) ∧
 (¬ (v17 < ((sortZ ((mput v3 x1 (api_Peer.mk x1 x2 v9)).map fun p => p.1)).length : Int)) →
 Φ ((api_Tracker.mk v16 v18), 0))
def Z43 (x0 : api_Tracker) (x1 : Int) (x2 : Int) (x3 : List api_Cycle) (v3 : List (Int × api_Peer)) (Φ : api_Tracker × Int → Prop) : (Int × Int × List api_Bitmap) → ((Int × Int × List api_Bitmap) → Prop) → Prop
 | (v7, v8, v9), rec2 =>
 (v8 < (x3.length : Int) →
 inX v8 x3.length ∧
 cycle_Check_W (ix x3 v8) x0.Sizes fun v10 =>
 (v10 ≠ 0 →
 Φ ((api_Tracker.mk ([] : List Int) ([] : List api_Peer)), v10)) ∧
 (¬ (v10 ≠ 0) →
 (((ix x3 v8).Base) ≠ v7 →
 Φ ((api_Tracker.mk ([] : List Int) ([] : List api_Peer)), 15)) ∧
 (¬ (((ix x3 v8).Base) ≠ v7) →
 Join (Z40 x3 v8 rec2 Φ) fun J3 =>
 LoopW (Z41 x3 v8 J3 Φ) (0, v9)))) ∧
 (¬ (v8 < (x3.length : Int)) →
 Z11 x0.Sizes fun v16 =>
 ((mput v3 x1 (api_Peer.mk x1 x2 v9)).map fun p => p.1).Nodup ∧
 (∀ p, p ∈ (mput v3 x1 (api_Peer.mk x1 x2 v9)) → inI p.1) ∧
 lenOk (mput v3 x1 (api_Peer.mk x1 x2 v9)).length 8 ∧
 LoopW (Z42 x1 x2 v3 v9 v16 Φ) (0, ([] : List api_Peer)))
def Z44 (x0 : api_Tracker) (x1 : Int) (x2 : Int) (x3 : List api_Cycle) (Φ : api_Tracker × Int → Prop) : (Int × (List (Int × api_Peer))) → ((Int × (List (Int × api_Peer))) → Prop) → Prop
 | (v2, v3), rec1 =>
 (v2 < (x0.Peers.length : Int) →
 inX v2 x0.Peers.length ∧
 Z25 ((ix x0.Peers v2).Dirty) fun v4 =>
 inI (v2 + 1) ∧
 rec1 ((v2 + 1), (mput v3 ((ix x0.Peers v2).Site) (api_Peer.mk ((ix x0.Peers v2).Site) ((ix x0.Peers v2).Common) v4)))) ∧
 (¬ (v2 < (x0.Peers.length : Int)) →
 (¬ ((mhas v3 x1) = true) →
 Φ ((api_Tracker.mk ([] : List Int) ([] : List api_Peer)), 7)) ∧
 (¬ (¬ ((mhas v3 x1) = true)) →
 Z6 x2 0 1073741824 fun v5 =>
 (¬ (v5 = true) →
 Φ ((api_Tracker.mk ([] : List Int) ([] : List api_Peer)), 2)) ∧
 (¬ (¬ (v5 = true)) →
 (x2 < ((mget v3 x1 (api_Peer.mk 0 0 ([] : List api_Bitmap))).Common) →
 Φ ((api_Tracker.mk ([] : List Int) ([] : List api_Peer)), 8)) ∧
 (¬ (x2 < ((mget v3 x1 (api_Peer.mk 0 0 ([] : List api_Bitmap))).Common)) →
 Z10 x0.Sizes fun v6 =>
 (v6.2 ≠ 0 →
 Φ ((api_Tracker.mk ([] : List Int) ([] : List api_Peer)), v6.2)) ∧
 (¬ (v6.2 ≠ 0) →
 LoopW (Z43 x0 x1 x2 x3 v3 Φ) (x2, 0, v6.1))))))
def Z45 (x0 : api_Tracker) (x1 : Int) (x2 : Int) (x3 : List api_Cycle) (Φ : api_Tracker × Int → Prop) : Prop :=
 Z20 x0 fun v1 =>
 (v1 ≠ 0 →
 Φ ((api_Tracker.mk ([] : List Int) ([] : List api_Peer)), v1)) ∧
 (¬ (v1 ≠ 0) →
 LoopW (Z44 x0 x1 x2 x3 Φ) (0, ([] : List (Int × api_Peer))))
def Z46 (x0 : BitVec 64) (Φ : Int → Prop) : Prop := x0 ≠ 0#64 ∧ Φ (Lib.ctz 64 x0.toNat : Int)
def Z47 (v2 : Int) (rec1 : (List (Int × Unit) × Int) → Prop) : (List (Int × Unit) × BitVec 64) → ((List (Int × Unit) × BitVec 64) → Prop) → Prop
 | (l2, v4), rec2 =>
 (v4 ≠ (0#64) →
 inI (v2 * 64) ∧
 ∃ v5 : Int × Unit, Z46 v4 (fun z => (z, ()) = v5) ∧
 inI ((v2 * 64) + v5.1) ∧
 Yl l2 fun v6 r7 => (((v2 * 64) + v5.1), ()) = v6 ∧ (
 rec2 (r7, (v4 &&& (v4 - (1#64))))) ∧ (
 True)) ∧
 (¬ (v4 ≠ (0#64)) →
 inI (v2 + 1) ∧
 rec1 (l2, (v2 + 1)))
def Z48 (x0 : api_Bitmap) (x1 : Int) : (List (Int × Unit) × Int) → ((List (Int × Unit) × Int) → Prop) → Prop
 | (l1, v2), rec1 =>
 (v2 < (x0.Words.length : Int) →
 inX v2 x0.Words.length ∧
 ∃ v3 : BitVec 64 × Unit, bitmap_mask_W v2 x1 x0.Size (fun z => (z, ()) = v3) ∧
 LoopW (Z47 v2 rec1) (l1, ((ix x0.Words v2) &&& v3.1))) ∧
 (¬ (v2 < (x0.Words.length : Int)) →
 l1 = [])
def bitmap_elements_1_I (x0 : api_Bitmap) (x1 : Int) (l : List (Int × Unit)) : Prop :=
 ∃ v1 : Int × Unit, Z15 x0 (fun z => (z, ()) = v1) ∧
 (v1.1 ≠ 0 →
 l = []) ∧
 (¬ (v1.1 ≠ 0) →
 LoopW (Z48 x0 x1) (l, 0))
def Z49 (Φ : List api_Extent → Prop) : (List (Int × Unit) × List api_Extent) → ((List (Int × Unit) × List api_Extent) → Prop) → Prop
 | (lst, v1), rec1 =>
 match lst with
 | [] =>
 Φ v1
 | v2 :: r3 =>
 (0 < (v1.length : Int) →
 inI ((v1.length : Int) - 1) ∧
 inX ((v1.length : Int) - 1) v1.length ∧
 inI ((v1.length : Int) - 1) ∧
 inX ((v1.length : Int) - 1) v1.length ∧
 inI (((ix v1 ((v1.length : Int) - 1)).Start) + ((ix v1 ((v1.length : Int) - 1)).Count)) ∧
 ((((ix v1 ((v1.length : Int) - 1)).Start) + ((ix v1 ((v1.length : Int) - 1)).Count)) = v2.1 →
 inI ((v1.length : Int) - 1) ∧
 inX ((v1.length : Int) - 1) v1.length ∧
 inI (((ix v1 ((v1.length : Int) - 1)).Count) + 1) ∧
 inX ((v1.length : Int) - 1) v1.length ∧
 rec1 (r3, (put v1 ((v1.length : Int) - 1) (api_Extent.mk ((ix v1 ((v1.length : Int) - 1)).Start) (((ix v1 ((v1.length : Int) - 1)).Count) + 1))))) ∧
 (¬ ((((ix v1 ((v1.length : Int) - 1)).Start) + ((ix v1 ((v1.length : Int) - 1)).Count)) = v2.1) →
 lenOk (v1 ++ ([(api_Extent.mk v2.1 1)] : List api_Extent)).length 16 ∧
 rec1 (r3, (v1 ++ ([(api_Extent.mk v2.1 1)] : List api_Extent))))) ∧
 (¬ (0 < (v1.length : Int)) →
 lenOk (v1 ++ ([(api_Extent.mk v2.1 1)] : List api_Extent)).length 16 ∧
 rec1 (r3, (v1 ++ ([(api_Extent.mk v2.1 1)] : List api_Extent))))
def Z50 (x0 : api_Bitmap) (Φ : List api_Extent → Prop) : Prop :=
 ∃ l4 : List (Int × Unit), bitmap_elements_1_I x0 0 l4 ∧
 LoopW (Z49 Φ) (l4, ([] : List api_Extent))
def Z51 (x0 : List api_Extent) (x1 : List api_Extent) (Φ : Bool → Prop) : (Int) → ((Int) → Prop) → Prop
 | v1, rec1 =>
 (v1 < (x0.length : Int) →
 inX v1 x0.length ∧
 inX v1 x1.length ∧
 ((ix x0 v1) ≠ (ix x1 v1) →
 Φ false) ∧
 (¬ ((ix x0 v1) ≠ (ix x1 v1)) →
 inI (v1 + 1) ∧
 rec1 (v1 + 1))) ∧
 (¬ (v1 < (x0.length : Int)) →
 Φ true)
def Z52 (x0 : List api_Extent) (x1 : List api_Extent) (Φ : Bool → Prop) : Prop :=
 ((x0.length : Int) ≠ (x1.length : Int) →
 Φ false) ∧
 (¬ ((x0.length : Int) ≠ (x1.length : Int)) →
 LoopW (Z51 x0 x1 Φ) 0)
def Z53 (x0 : List api_Bitmap) (x1 : List (List api_Extent)) (Φ : Bool → Prop) : (Int) → ((Int) → Prop) → Prop
 | v1, rec1 =>
 (v1 < (x0.length : Int) →
 inX v1 x0.length ∧
 ∃ v2 : List api_Extent × Unit, Z50 (ix x0 v1) (fun z => (z, ()) = v2) ∧
 inX v1 x1.length ∧
 ∃ v3 : Bool × Unit, Z52 v2.1 (ix x1 v1) (fun z => (z, ()) = v3) ∧
 (¬ (v3.1 = true) →
 Φ false) ∧
 (¬ (¬ (v3.1 = true)) →
 inI (v1 + 1) ∧
 rec1 (v1 + 1))) ∧
 (¬ (v1 < (x0.length : Int)) →
 Φ true)
def Z54 (x0 : List api_Bitmap) (x1 : List (List api_Extent)) (Φ : Bool → Prop) : Prop :=
 ((x0.length : Int) ≠ (x1.length : Int) →
 Φ false) ∧
 (¬ ((x0.length : Int) ≠ (x1.length : Int)) →
 LoopW (Z53 x0 x1 Φ) 0)
def Z55 (x0 : List (BitVec 8)) (Φ : List (BitVec 8) → Prop) : Prop :=
 (x0 = [] →
 Φ ([] : List (BitVec 8))) ∧
 (
 lenOk (([] : List (BitVec 8)) ++ x0).length 1 ∧
 Φ (([] : List (BitVec 8)) ++ x0))
def Z56 (v5 : Int) (rec3 : (Int × List (BitVec 8)) → Prop) (_ : List (BitVec 8) → Prop) : (Int × List (BitVec 8)) → ((Int × List (BitVec 8)) → Prop) → Prop
 | (v8, v9), rec5 =>
 (128 ≤ v8 →
 (0 ≤ v8 ∧ 128 ≠ (0 : Int)) ∧
 lenOk (v9 ++ ([((BitVec.ofInt 8 (v8 % 128)) ||| (128#8))] : List (BitVec 8))).length 1 ∧
 (0 ≤ v8 ∧ inI v8 ∧ (0 : Int) < 128) ∧
 rec5 ((v8 / 128), (v9 ++ ([((BitVec.ofInt 8 (v8 % 128)) ||| (128#8))] : List (BitVec 8))))) ∧
 (¬ (128 ≤ v8) →
 lenOk (v9 ++ ([(BitVec.ofInt 8 v8)] : List (BitVec 8))).length 1 ∧
 inI (v5 + 1) ∧
 rec3 ((v5 + 1), (v9 ++ ([(BitVec.ofInt 8 v8)] : List (BitVec 8)))))
def Z57 (v5 : Int) (v6 : List (BitVec 8)) (rec3 : (Int × List (BitVec 8)) → Prop) (Φ : List (BitVec 8) → Prop) : Int → Prop
 | v7 =>
 LoopW (Z56 v5 rec3 Φ) (v7, v6)
def Z58 (x1 : List Int) (Φ : List (BitVec 8) → Prop) : (Int × List (BitVec 8)) → ((Int × List (BitVec 8)) → Prop) → Prop
 | (v5, v6), rec3 =>
 (v5 < (x1.length : Int) →
 inX v5 x1.length ∧
 Join (Z57 v5 v6 rec3 Φ) fun J4 =>
 ((ix x1 v5) < 0 →
 J4 0) ∧
 (¬ ((ix x1 v5) < 0) →
 (9007199254740991 < (ix x1 v5) →
 J4 0) ∧
 (¬ (9007199254740991 < (ix x1 v5)) →
 J4 (ix x1 v5)))) ∧
 (¬ (v5 < (x1.length : Int)) →
 Φ v6)
def Z59 (x1 : List Int) (Φ : List (BitVec 8) → Prop) : (Int × List (BitVec 8)) → ((Int × List (BitVec 8)) → Prop) → Prop
 | (v3, v4), rec2 =>
 (128 ≤ v3 →
 (0 ≤ v3 ∧ 128 ≠ (0 : Int)) ∧
 lenOk (v4 ++ ([((BitVec.ofInt 8 (v3 % 128)) ||| (128#8))] : List (BitVec 8))).length 1 ∧
 (0 ≤ v3 ∧ inI v3 ∧ (0 : Int) < 128) ∧
 rec2 ((v3 / 128), (v4 ++ ([((BitVec.ofInt 8 (v3 % 128)) ||| (128#8))] : List (BitVec 8))))) ∧
 (¬ (128 ≤ v3) →
 lenOk (v4 ++ ([(BitVec.ofInt 8 v3)] : List (BitVec 8))).length 1 ∧
 LoopW (Z58 x1 Φ) (0, (v4 ++ ([(BitVec.ofInt 8 v3)] : List (BitVec 8)))))
def Z60 (x1 : List Int) (v1 : List (BitVec 8)) (Φ : List (BitVec 8) → Prop) : Int → Prop
 | v2 =>
 LoopW (Z59 x1 Φ) (v2, v1)
def Z61 (x0 : List (BitVec 8)) (x1 : List Int) (Φ : List (BitVec 8) → Prop) : Prop :=
 Z55 x0 fun v1 =>
 Join (Z60 x1 v1 Φ) fun J1 =>
 ((x1.length : Int) < 0 →
 J1 0) ∧
 (¬ ((x1.length : Int) < 0) →
 (9007199254740991 < (x1.length : Int) →
 J1 0) ∧
 (¬ (9007199254740991 < (x1.length : Int)) →
 J1 (x1.length : Int)))
def Z62 (Φ : List (BitVec 8) → Prop) : (Int × List (BitVec 8)) → ((Int × List (BitVec 8)) → Prop) → Prop
 | (v3, v4), rec2 =>
 (128 ≤ v3 →
 (0 ≤ v3 ∧ 128 ≠ (0 : Int)) ∧
 lenOk (v4 ++ ([((BitVec.ofInt 8 (v3 % 128)) ||| (128#8))] : List (BitVec 8))).length 1 ∧
 (0 ≤ v3 ∧ inI v3 ∧ (0 : Int) < 128) ∧
 rec2 ((v3 / 128), (v4 ++ ([((BitVec.ofInt 8 (v3 % 128)) ||| (128#8))] : List (BitVec 8))))) ∧
 (¬ (128 ≤ v3) →
 lenOk (v4 ++ ([(BitVec.ofInt 8 v3)] : List (BitVec 8))).length 1 ∧
 Φ (v4 ++ ([(BitVec.ofInt 8 v3)] : List (BitVec 8))))
def Z63 (v1 : List (BitVec 8)) (Φ : List (BitVec 8) → Prop) : Int → Prop
 | v2 =>
 LoopW (Z62 Φ) (v2, v1)
def wire_PutInt_W (x0 : List (BitVec 8)) (x1 : Int) (Φ : List (BitVec 8) → Prop) : Prop :=
 Z55 x0 fun v1 =>
 Join (Z63 v1 Φ) fun J1 =>
 (x1 < 0 →
 J1 0) ∧
 (¬ (x1 < 0) →
 (9007199254740991 < x1 →
 J1 0) ∧
 (¬ (9007199254740991 < x1) →
 J1 x1))
def Z64 (v5 : Int) (rec3 : (Int × List (BitVec 8)) → Prop) (_ : List (BitVec 8) → Prop) : (Int × List (BitVec 8)) → ((Int × List (BitVec 8)) → Prop) → Prop
 | (v11, v12), rec7 =>
 (128 ≤ v11 →
 (0 ≤ v11 ∧ 128 ≠ (0 : Int)) ∧
 lenOk (v12 ++ ([((BitVec.ofInt 8 (v11 % 128)) ||| (128#8))] : List (BitVec 8))).length 1 ∧
 (0 ≤ v11 ∧ inI v11 ∧ (0 : Int) < 128) ∧
 rec7 ((v11 / 128), (v12 ++ ([((BitVec.ofInt 8 (v11 % 128)) ||| (128#8))] : List (BitVec 8))))) ∧
 (¬ (128 ≤ v11) →
 lenOk (v12 ++ ([(BitVec.ofInt 8 v11)] : List (BitVec 8))).length 1 ∧
 inI (v5 + 1) ∧
 rec3 ((v5 + 1), (v12 ++ ([(BitVec.ofInt 8 v11)] : List (BitVec 8)))))
def Z65 (v5 : Int) (rec3 : (Int × List (BitVec 8)) → Prop) (v8 : Int) (v9 : List (BitVec 8)) (Φ : List (BitVec 8) → Prop) : Int → Prop
 | v10 =>
 LoopW (Z64 v5 rec3 Φ) (v10, (v9 ++ ([(BitVec.ofInt 8 v8)] : List (BitVec 8))))
def Z66 (x1 : List api_Extent) (v5 : Int) (rec3 : (Int × List (BitVec 8)) → Prop) (Φ : List (BitVec 8) → Prop) : (Int × List (BitVec 8)) → ((Int × List (BitVec 8)) → Prop) → Prop
 | (v8, v9), rec5 =>
 (128 ≤ v8 →
 (0 ≤ v8 ∧ 128 ≠ (0 : Int)) ∧
 lenOk (v9 ++ ([((BitVec.ofInt 8 (v8 % 128)) ||| (128#8))] : List (BitVec 8))).length 1 ∧
 (0 ≤ v8 ∧ inI v8 ∧ (0 : Int) < 128) ∧
 rec5 ((v8 / 128), (v9 ++ ([((BitVec.ofInt 8 (v8 % 128)) ||| (128#8))] : List (BitVec 8))))) ∧
 (¬ (128 ≤ v8) →
 lenOk (v9 ++ ([(BitVec.ofInt 8 v8)] : List (BitVec 8))).length 1 ∧
 Join (Z65 v5 rec3 v8 v9 Φ) fun J6 =>
 (((ix x1 v5).Count) < 0 →
 J6 0) ∧
 (¬ (((ix x1 v5).Count) < 0) →
 (9007199254740991 < ((ix x1 v5).Count) →
 J6 0) ∧
 (¬ (9007199254740991 < ((ix x1 v5).Count)) →
 J6 ((ix x1 v5).Count))))
def Z67 (x1 : List api_Extent) (v5 : Int) (v6 : List (BitVec 8)) (rec3 : (Int × List (BitVec 8)) → Prop) (Φ : List (BitVec 8) → Prop) : Int → Prop
 | v7 =>
 LoopW (Z66 x1 v5 rec3 Φ) (v7, v6)
def Z68 (x1 : List api_Extent) (Φ : List (BitVec 8) → Prop) : (Int × List (BitVec 8)) → ((Int × List (BitVec 8)) → Prop) → Prop
 | (v5, v6), rec3 =>
 (v5 < (x1.length : Int) →
 inX v5 x1.length ∧
 Join (Z67 x1 v5 v6 rec3 Φ) fun J4 =>
 (((ix x1 v5).Start) < 0 →
 J4 0) ∧
 (¬ (((ix x1 v5).Start) < 0) →
 (9007199254740991 < ((ix x1 v5).Start) →
 J4 0) ∧
 (¬ (9007199254740991 < ((ix x1 v5).Start)) →
 J4 ((ix x1 v5).Start)))) ∧
 (¬ (v5 < (x1.length : Int)) →
 Φ v6)
def Z69 (x1 : List api_Extent) (Φ : List (BitVec 8) → Prop) : (Int × List (BitVec 8)) → ((Int × List (BitVec 8)) → Prop) → Prop
 | (v3, v4), rec2 =>
 (128 ≤ v3 →
 (0 ≤ v3 ∧ 128 ≠ (0 : Int)) ∧
 lenOk (v4 ++ ([((BitVec.ofInt 8 (v3 % 128)) ||| (128#8))] : List (BitVec 8))).length 1 ∧
 (0 ≤ v3 ∧ inI v3 ∧ (0 : Int) < 128) ∧
 rec2 ((v3 / 128), (v4 ++ ([((BitVec.ofInt 8 (v3 % 128)) ||| (128#8))] : List (BitVec 8))))) ∧
 (¬ (128 ≤ v3) →
 lenOk (v4 ++ ([(BitVec.ofInt 8 v3)] : List (BitVec 8))).length 1 ∧
 LoopW (Z68 x1 Φ) (0, (v4 ++ ([(BitVec.ofInt 8 v3)] : List (BitVec 8)))))
def Z70 (x1 : List api_Extent) (v1 : List (BitVec 8)) (Φ : List (BitVec 8) → Prop) : Int → Prop
 | v2 =>
 LoopW (Z69 x1 Φ) (v2, v1)
def Z71 (x0 : List (BitVec 8)) (x1 : List api_Extent) (Φ : List (BitVec 8) → Prop) : Prop :=
 Z55 x0 fun v1 =>
 Join (Z70 x1 v1 Φ) fun J1 =>
 ((x1.length : Int) < 0 →
 J1 0) ∧
 (¬ ((x1.length : Int) < 0) →
 (9007199254740991 < (x1.length : Int) →
 J1 0) ∧
 (¬ (9007199254740991 < (x1.length : Int)) →
 J1 (x1.length : Int)))
def Z72 (x0 : api_Tracker) (v4 : Int) (rec1 : (Int × List (BitVec 8)) → Prop) (_ : List (BitVec 8) → Prop) : (Int × List (BitVec 8)) → ((Int × List (BitVec 8)) → Prop) → Prop
 | (v8, v9), rec2 =>
 (v8 < (((ix x0.Peers v4).Dirty).length : Int) →
 inX v8 ((ix x0.Peers v4).Dirty).length ∧
 Z50 (ix ((ix x0.Peers v4).Dirty) v8) fun v10 =>
 Z71 v9 v10 fun v11 =>
 inI (v8 + 1) ∧
 rec2 ((v8 + 1), v11)) ∧
 (¬ (v8 < (((ix x0.Peers v4).Dirty).length : Int)) →
 inI (v4 + 1) ∧
 rec1 ((v4 + 1), v9))
def Z73 (x0 : api_Tracker) (Φ : List (BitVec 8) → Prop) : (Int × List (BitVec 8)) → ((Int × List (BitVec 8)) → Prop) → Prop
 | (v4, v5), rec1 =>
 (v4 < (x0.Peers.length : Int) →
 inX v4 x0.Peers.length ∧
 ∃ v6 : List (BitVec 8) × Unit, wire_PutInt_W v5 ((ix x0.Peers v4).Site) (fun z => (z, ()) = v6) ∧
 ∃ v7 : List (BitVec 8) × Unit, wire_PutInt_W v6.1 ((ix x0.Peers v4).Common) (fun z => (z, ()) = v7) ∧
 LoopW (Z72 x0 v4 rec1 Φ) (0, v7.1)) ∧
 (¬ (v4 < (x0.Peers.length : Int)) →
 Φ v5)
def Z74 (x0 : api_Tracker) (Φ : List (BitVec 8) → Prop) : Prop :=
 Z20 x0 fun v1 =>
 (v1 ≠ 0 →
 Φ ([] : List (BitVec 8))) ∧
 (¬ (v1 ≠ 0) →
 ∃ v2 : List (BitVec 8) × Unit, Z61 ([] : List (BitVec 8)) x0.Sizes (fun z => (z, ()) = v2) ∧
 ∃ v3 : List (BitVec 8) × Unit, wire_PutInt_W v2.1 (x0.Peers.length : Int) (fun z => (z, ()) = v3) ∧
 LoopW (Z73 x0 Φ) (0, v3.1))
def Z75 (Φ : Bool → Prop) : Unit → Prop
 | _ =>
 tracker_New_W ([4] : List Int) ([2] : List Int) 5 fun v7 =>
 Z31 v7.1 (api_Write.mk 0 0 ([(Sec.mk (1#8) (0#8) (0#8) (0#8) (0#8) (0#8) (0#8) (0#8)), (Sec.mk (1#8) (0#8) (0#8) (0#8) (0#8) (0#8) (0#8) (0#8))] : List Sec)) fun v8 =>
 (v7.2 = 0 →
 (v8.2 = 0 →
 Z74 v8.1 fun v9 =>
 (∀ x, x ∈ v9 → true = true) ∧
 Φ (decide ((bsOf (v9.map fun x => x)) = strK1))) ∧
 (¬ (v8.2 = 0) →
 Φ false)) ∧
 (¬ (v7.2 = 0) →
 Φ false)
def law43_awake_W (Φ : Bool → Prop) : Prop :=
 tracker_New_W ([4, 2] : List Int) ([3, 1] : List Int) 0 fun v1 =>
 Z31 v1.1 (api_Write.mk 0 0 ([(Sec.mk (1#8) (0#8) (0#8) (0#8) (0#8) (0#8) (0#8) (0#8)), (Sec.mk (1#8) (0#8) (0#8) (0#8) (0#8) (0#8) (0#8) (0#8))] : List Sec)) fun v2 =>
 Z31 v2.1 (api_Write.mk 1 1 ([(Sec.mk (1#8) (0#8) (0#8) (0#8) (0#8) (0#8) (0#8) (0#8))] : List Sec)) fun v3 =>
 Z33 v3.1 1 fun v4 =>
 Z45 v3.1 3 1 ([(api_Cycle.mk 1 2 0 ([] : List Int) ([(api_Write.mk 0 1 ([(Sec.mk (1#8) (0#8) (0#8) (0#8) (0#8) (0#8) (0#8) (0#8))] : List Sec))] : List api_Write))] : List api_Cycle) fun v5 =>
 Z33 v5.1 3 fun v6 =>
 Join (Z75 Φ) fun J1 =>
 inI (v1.2 + v2.2) ∧
 inI ((v1.2 + v2.2) + v3.2) ∧
 inI (((v1.2 + v2.2) + v3.2) + v4.2.2) ∧
 inI ((((v1.2 + v2.2) + v3.2) + v4.2.2) + v5.2) ∧
 inI (((((v1.2 + v2.2) + v3.2) + v4.2.2) + v5.2) + v6.2.2) ∧
 ((((((v1.2 + v2.2) + v3.2) + v4.2.2) + v5.2) + v6.2.2) ≠ 0 →
 Φ false) ∧
 (¬ ((((((v1.2 + v2.2) + v3.2) + v4.2.2) + v5.2) + v6.2.2) ≠ 0) →
 (v4.2.1 ≠ 0 →
 Φ false) ∧
 (¬ (v4.2.1 ≠ 0) →
 (v6.2.1 ≠ 1 →
 Φ false) ∧
 (¬ (v6.2.1 ≠ 1) →
 Z54 v4.1 ([([(api_Extent.mk 0 2)] : List api_Extent), ([(api_Extent.mk 1 1)] : List api_Extent)] : List (List api_Extent)) fun v10 =>
 (¬ (v10 = true) →
 Φ false) ∧
 (¬ (¬ (v10 = true)) →
 Z54 v6.1 ([([(api_Extent.mk 1 1)] : List api_Extent), ([] : List api_Extent)] : List (List api_Extent)) fun v11 =>
 (¬ (v11 = true) →
 Φ false) ∧
 (¬ (¬ (v11 = true)) →
 J1 ())))))
def Z76 (x0 : List Int) (x1 : List Int) (Φ : Bool → Prop) : (Int) → ((Int) → Prop) → Prop
 | v1, rec1 =>
 (v1 < (x0.length : Int) →
 inX v1 x0.length ∧
 inX v1 x1.length ∧
 ((ix x0 v1) ≠ (ix x1 v1) →
 Φ false) ∧
 (¬ ((ix x0 v1) ≠ (ix x1 v1)) →
 inI (v1 + 1) ∧
 rec1 (v1 + 1))) ∧
 (¬ (v1 < (x0.length : Int)) →
 Φ true)
def Z77 (x0 : List Int) (x1 : List Int) (Φ : Bool → Prop) : Prop :=
 ((x0.length : Int) ≠ (x1.length : Int) →
 Φ false) ∧
 (¬ ((x0.length : Int) ≠ (x1.length : Int)) →
 LoopW (Z76 x0 x1 Φ) 0)
def ref02_Same_L1 (x0 : api_Bitmap) (x1 : api_Bitmap) (Φ : Bool → Prop) : (Int) → ((Int) → Prop) → Prop
 | v1, rec1 =>
 (v1 < (x0.Words.length : Int) →
 inX v1 x0.Words.length ∧
 inX v1 x1.Words.length ∧
 ((ix x0.Words v1) ≠ (ix x1.Words v1) →
 Φ false) ∧
 (¬ ((ix x0.Words v1) ≠ (ix x1.Words v1)) →
 inI (v1 + 1) ∧
 rec1 (v1 + 1))) ∧
 (¬ (v1 < (x0.Words.length : Int)) →
 Φ true)
def ref02_Same_W (x0 : api_Bitmap) (x1 : api_Bitmap) (Φ : Bool → Prop) : Prop :=
 (x0.Size ≠ x1.Size →
 Φ false) ∧
 (¬ (x0.Size ≠ x1.Size) →
 ((x0.Words.length : Int) ≠ (x1.Words.length : Int) →
 Φ false) ∧
 (¬ ((x0.Words.length : Int) ≠ (x1.Words.length : Int)) →
 LoopW (ref02_Same_L1 x0 x1 Φ) 0))
def Z78 (x0 : List api_Bitmap) (x1 : List api_Bitmap) (Φ : Bool → Prop) : (Int) → ((Int) → Prop) → Prop
 | v1, rec1 =>
 (v1 < (x0.length : Int) →
 inX v1 x0.length ∧
 inX v1 x1.length ∧
 ∃ v2 : Bool × Unit, ref02_Same_W (ix x0 v1) (ix x1 v1) (fun z => (z, ()) = v2) ∧
 (¬ (v2.1 = true) →
 Φ false) ∧
 (¬ (¬ (v2.1 = true)) →
 inI (v1 + 1) ∧
 rec1 (v1 + 1))) ∧
 (¬ (v1 < (x0.length : Int)) →
 Φ true)
def Z79 (x0 : List api_Bitmap) (x1 : List api_Bitmap) (Φ : Bool → Prop) : Prop :=
 ((x0.length : Int) ≠ (x1.length : Int) →
 Φ false) ∧
 (¬ ((x0.length : Int) ≠ (x1.length : Int)) →
 LoopW (Z78 x0 x1 Φ) 0)
def ref43_Same_L1 (x0 : api_Tracker) (x1 : api_Tracker) (Φ : Bool → Prop) : (Int) → ((Int) → Prop) → Prop
 | v2, rec1 =>
 (v2 < (x0.Peers.length : Int) →
 inX v2 x0.Peers.length ∧
 inX v2 x1.Peers.length ∧
 (((ix x0.Peers v2).Site) ≠ ((ix x1.Peers v2).Site) →
 Φ false) ∧
 (¬ (((ix x0.Peers v2).Site) ≠ ((ix x1.Peers v2).Site)) →
 (((ix x0.Peers v2).Common) ≠ ((ix x1.Peers v2).Common) →
 Φ false) ∧
 (¬ (((ix x0.Peers v2).Common) ≠ ((ix x1.Peers v2).Common)) →
 Z79 ((ix x0.Peers v2).Dirty) ((ix x1.Peers v2).Dirty) fun v3 =>
 (¬ (v3 = true) →
 Φ false) ∧
 (¬ (¬ (v3 = true)) →
 inI (v2 + 1) ∧
 rec1 (v2 + 1))))) ∧
 (¬ (v2 < (x0.Peers.length : Int)) →
 Φ true)
def ref43_Same_W (x0 : api_Tracker) (x1 : api_Tracker) (Φ : Bool → Prop) : Prop :=
 Z77 x0.Sizes x1.Sizes fun v1 =>
 (¬ (v1 = true) →
 Φ false) ∧
 (¬ (¬ (v1 = true)) →
 ((x0.Peers.length : Int) ≠ (x1.Peers.length : Int) →
 Φ false) ∧
 (¬ ((x0.Peers.length : Int) ≠ (x1.Peers.length : Int)) →
 LoopW (ref43_Same_L1 x0 x1 Φ) 0))
def wire_Ints_J1 (Φ : List Int × List (BitVec 8) × Int → Prop) : Int × List (BitVec 8) × List Int → Prop
 | (v1, v2, v3) =>
 (v1 ≠ 0 →
 Φ (([] : List Int), ([] : List (BitVec 8)), v1)) ∧
 (¬ (v1 ≠ 0) →
 Z55 v2 fun v4 =>
 Φ (v3, v4, 0))
def wire_Ints_J4 (J1 : (Int × List (BitVec 8) × List Int) → Prop) (v8 : Int) (v10 : List Int) (rec3 : (Int × List (BitVec 8) × List Int) → Prop) (_ : List Int × List (BitVec 8) × Int → Prop) : Int × Int × List (BitVec 8) → Prop
 | (v11, v12, v13) =>
 (v12 ≠ 0 →
 J1 (v12, v13, ([] : List Int))) ∧
 (¬ (v12 ≠ 0) →
 lenOk (v10 ++ ([v11] : List Int)).length 8 ∧
 inI (v8 + 1) ∧
 rec3 ((v8 + 1), v13, (v10 ++ ([v11] : List Int))))
def wire_Ints_J6 (v9 : List (BitVec 8)) (J4 : (Int × Int × List (BitVec 8)) → Prop) (v14 : Int) (v15 : Int) (_ : List Int × List (BitVec 8) × Int → Prop) : Bool → Prop
 | v16 =>
 (v16 = true →
 J4 (0, 3, v9)) ∧
 (¬ (v16 = true) →
 inI (v15 + 1) ∧
 inS (v15 + 1) (v9.length : Int) v9.length ∧
 J4 ((BitVec.ofInt 64 v14 ||| BitVec.ofInt 64 ((((ix v9 v15) &&& (127#8)).toNat : Int) * 2 ^ ((7 * v15) : Int).toNat)).toInt, 0, (sub v9 (v15 + 1) (v9.length : Int))))
def wire_Ints_L5 (v9 : List (BitVec 8)) (J4 : (Int × Int × List (BitVec 8)) → Prop) (Φ : List Int × List (BitVec 8) × Int → Prop) : (Int × Int) → ((Int × Int) → Prop) → Prop
 | (v14, v15), rec5 =>
 (v15 < 8 →
 ((v9.length : Int) ≤ v15 →
 J4 (0, 10, v9)) ∧
 (¬ ((v9.length : Int) ≤ v15) →
 inX v15 v9.length ∧
 inI (7 * v15) ∧
 (0 ≤ (7 * v15) ∧ (7 * v15) ≤ 62 ∧ inI ((((ix v9 v15) &&& (127#8)).toNat : Int) * 2 ^ ((7 * v15) : Int).toNat)) ∧
 (((ix v9 v15) &&& (128#8)) ≠ (0#8) →
 inI (v15 + 1) ∧
 rec5 ((BitVec.ofInt 64 v14 ||| BitVec.ofInt 64 ((((ix v9 v15) &&& (127#8)).toNat : Int) * 2 ^ ((7 * v15) : Int).toNat)).toInt, (v15 + 1))) ∧
 (¬ (((ix v9 v15) &&& (128#8)) ≠ (0#8)) →
 Join (wire_Ints_J6 v9 J4 v14 v15 Φ) fun J6 =>
 ((ix v9 v15) = (0#8) →
 (0 < v15 →
 J6 true) ∧
 (¬ (0 < v15) →
 J6 (decide (9007199254740991 < ((BitVec.ofInt 64 v14 ||| BitVec.ofInt 64 ((((ix v9 v15) &&& (127#8)).toNat : Int) * 2 ^ ((7 * v15) : Int).toNat)).toInt))))) ∧
 (¬ ((ix v9 v15) = (0#8)) →
 J6 (decide (9007199254740991 < ((BitVec.ofInt 64 v14 ||| BitVec.ofInt 64 ((((ix v9 v15) &&& (127#8)).toNat : Int) * 2 ^ ((7 * v15) : Int).toNat)).toInt))))))) ∧
 (¬ (v15 < 8) →
 J4 (0, 3, v9))
def wire_Ints_L3 (J1 : (Int × List (BitVec 8) × List Int) → Prop) (v5 : Int) (Φ : List Int × List (BitVec 8) × Int → Prop) : (Int × List (BitVec 8) × List Int) → ((Int × List (BitVec 8) × List Int) → Prop) → Prop
 | (v8, v9, v10), rec3 =>
 (v8 < v5 →
 Join (wire_Ints_J4 J1 v8 v10 rec3 Φ) fun J4 =>
 LoopW (wire_Ints_L5 v9 J4 Φ) (0, 0)) ∧
 (¬ (v8 < v5) →
 J1 (0, v9, v10))
def wire_Ints_J2 (J1 : (Int × List (BitVec 8) × List Int) → Prop) (Φ : List Int × List (BitVec 8) × Int → Prop) : Int × Int × List (BitVec 8) → Prop
 | (v5, v6, v7) =>
 (v6 ≠ 0 →
 J1 (v6, v7, ([] : List Int))) ∧
 (¬ (v6 ≠ 0) →
 LoopW (wire_Ints_L3 J1 v5 Φ) (0, v7, ([] : List Int)))
def wire_Ints_J7 (J2 : (Int × Int × List (BitVec 8)) → Prop) (_ : List Int × List (BitVec 8) × Int → Prop) : Int × Int × List (BitVec 8) → Prop
 | (v17, v18, v19) =>
 (v18 = 0 →
 (65536 < v17 →
 J2 (v17, 5, v19)) ∧
 (¬ (65536 < v17) →
 J2 (v17, v18, v19))) ∧
 (¬ (v18 = 0) →
 J2 (v17, v18, v19))
def wire_Ints_J9 (x0 : List (BitVec 8)) (J7 : (Int × Int × List (BitVec 8)) → Prop) (v20 : Int) (v21 : Int) (_ : List Int × List (BitVec 8) × Int → Prop) : Bool → Prop
 | v22 =>
 (v22 = true →
 J7 (0, 3, x0)) ∧
 (¬ (v22 = true) →
 inI (v21 + 1) ∧
 inS (v21 + 1) (x0.length : Int) x0.length ∧
 J7 ((BitVec.ofInt 64 v20 ||| BitVec.ofInt 64 ((((ix x0 v21) &&& (127#8)).toNat : Int) * 2 ^ ((7 * v21) : Int).toNat)).toInt, 0, (sub x0 (v21 + 1) (x0.length : Int))))
def wire_Ints_L8 (x0 : List (BitVec 8)) (J7 : (Int × Int × List (BitVec 8)) → Prop) (Φ : List Int × List (BitVec 8) × Int → Prop) : (Int × Int) → ((Int × Int) → Prop) → Prop
 | (v20, v21), rec8 =>
 (v21 < 8 →
 ((x0.length : Int) ≤ v21 →
 J7 (0, 10, x0)) ∧
 (¬ ((x0.length : Int) ≤ v21) →
 inX v21 x0.length ∧
 inI (7 * v21) ∧
 (0 ≤ (7 * v21) ∧ (7 * v21) ≤ 62 ∧ inI ((((ix x0 v21) &&& (127#8)).toNat : Int) * 2 ^ ((7 * v21) : Int).toNat)) ∧
 (((ix x0 v21) &&& (128#8)) ≠ (0#8) →
 inI (v21 + 1) ∧
 rec8 ((BitVec.ofInt 64 v20 ||| BitVec.ofInt 64 ((((ix x0 v21) &&& (127#8)).toNat : Int) * 2 ^ ((7 * v21) : Int).toNat)).toInt, (v21 + 1))) ∧
 (¬ (((ix x0 v21) &&& (128#8)) ≠ (0#8)) →
 Join (wire_Ints_J9 x0 J7 v20 v21 Φ) fun J9 =>
 ((ix x0 v21) = (0#8) →
 (0 < v21 →
 J9 true) ∧
 (¬ (0 < v21) →
 J9 (decide (9007199254740991 < ((BitVec.ofInt 64 v20 ||| BitVec.ofInt 64 ((((ix x0 v21) &&& (127#8)).toNat : Int) * 2 ^ ((7 * v21) : Int).toNat)).toInt))))) ∧
 (¬ ((ix x0 v21) = (0#8)) →
 J9 (decide (9007199254740991 < ((BitVec.ofInt 64 v20 ||| BitVec.ofInt 64 ((((ix x0 v21) &&& (127#8)).toNat : Int) * 2 ^ ((7 * v21) : Int).toNat)).toInt))))))) ∧
 (¬ (v21 < 8) →
 J7 (0, 3, x0))
def wire_Ints_W (x0 : List (BitVec 8)) (Φ : List Int × List (BitVec 8) × Int → Prop) : Prop :=
 Join (wire_Ints_J1 Φ) fun J1 =>
 Join (wire_Ints_J2 J1 Φ) fun J2 =>
 Join (wire_Ints_J7 J2 Φ) fun J7 =>
 LoopW (wire_Ints_L8 x0 J7 Φ) (0, 0)
def wire_Int_J1 (Φ : Int × List (BitVec 8) × Int → Prop) : Int × Int × List (BitVec 8) → Prop
 | (v1, v2, v3) =>
 (v2 ≠ 0 →
 Φ (0, ([] : List (BitVec 8)), v2)) ∧
 (¬ (v2 ≠ 0) →
 Z55 v3 fun v4 =>
 Φ (v1, v4, 0))
def wire_Int_J3 (x0 : List (BitVec 8)) (J1 : (Int × Int × List (BitVec 8)) → Prop) (v5 : Int) (v6 : Int) (_ : Int × List (BitVec 8) × Int → Prop) : Bool → Prop
 | v7 =>
 (v7 = true →
 J1 (0, 3, x0)) ∧
 (¬ (v7 = true) →
 inI (v6 + 1) ∧
 inS (v6 + 1) (x0.length : Int) x0.length ∧
 J1 ((BitVec.ofInt 64 v5 ||| BitVec.ofInt 64 ((((ix x0 v6) &&& (127#8)).toNat : Int) * 2 ^ ((7 * v6) : Int).toNat)).toInt, 0, (sub x0 (v6 + 1) (x0.length : Int))))
def wire_Int_L2 (x0 : List (BitVec 8)) (J1 : (Int × Int × List (BitVec 8)) → Prop) (Φ : Int × List (BitVec 8) × Int → Prop) : (Int × Int) → ((Int × Int) → Prop) → Prop
 | (v5, v6), rec2 =>
 (v6 < 8 →
 ((x0.length : Int) ≤ v6 →
 J1 (0, 10, x0)) ∧
 (¬ ((x0.length : Int) ≤ v6) →
 inX v6 x0.length ∧
 inI (7 * v6) ∧
 (0 ≤ (7 * v6) ∧ (7 * v6) ≤ 62 ∧ inI ((((ix x0 v6) &&& (127#8)).toNat : Int) * 2 ^ ((7 * v6) : Int).toNat)) ∧
 (((ix x0 v6) &&& (128#8)) ≠ (0#8) →
 inI (v6 + 1) ∧
 rec2 ((BitVec.ofInt 64 v5 ||| BitVec.ofInt 64 ((((ix x0 v6) &&& (127#8)).toNat : Int) * 2 ^ ((7 * v6) : Int).toNat)).toInt, (v6 + 1))) ∧
 (¬ (((ix x0 v6) &&& (128#8)) ≠ (0#8)) →
 Join (wire_Int_J3 x0 J1 v5 v6 Φ) fun J3 =>
 ((ix x0 v6) = (0#8) →
 (0 < v6 →
 J3 true) ∧
 (¬ (0 < v6) →
 J3 (decide (9007199254740991 < ((BitVec.ofInt 64 v5 ||| BitVec.ofInt 64 ((((ix x0 v6) &&& (127#8)).toNat : Int) * 2 ^ ((7 * v6) : Int).toNat)).toInt))))) ∧
 (¬ ((ix x0 v6) = (0#8)) →
 J3 (decide (9007199254740991 < ((BitVec.ofInt 64 v5 ||| BitVec.ofInt 64 ((((ix x0 v6) &&& (127#8)).toNat : Int) * 2 ^ ((7 * v6) : Int).toNat)).toInt))))))) ∧
 (¬ (v6 < 8) →
 J1 (0, 3, x0))
def wire_Int_W (x0 : List (BitVec 8)) (Φ : Int × List (BitVec 8) × Int → Prop) : Prop :=
 Join (wire_Int_J1 Φ) fun J1 =>
 LoopW (wire_Int_L2 x0 J1 Φ) (0, 0)
def Z80 (Φ : List api_Extent × List (BitVec 8) × Int → Prop) : Int × List (BitVec 8) × List api_Extent → Prop
 | (v1, v2, v3) =>
 (v1 ≠ 0 →
 Φ (([] : List api_Extent), ([] : List (BitVec 8)), v1)) ∧
 (¬ (v1 ≠ 0) →
 Z55 v2 fun v4 =>
 Φ (v3, v4, 0))
def Z81 (J1 : (Int × List (BitVec 8) × List api_Extent) → Prop) (v8 : Int) (v10 : List api_Extent) (rec3 : (Int × List (BitVec 8) × List api_Extent) → Prop) (_ : List api_Extent × List (BitVec 8) × Int → Prop) : Int × Int × Int × List (BitVec 8) → Prop
 | (v11, v12, v13, v14) =>
 (v13 ≠ 0 →
 J1 (v13, v14, ([] : List api_Extent))) ∧
 (¬ (v13 ≠ 0) →
 lenOk (v10 ++ ([(api_Extent.mk v11 v12)] : List api_Extent)).length 16 ∧
 inI (v8 + 1) ∧
 rec3 ((v8 + 1), v14, (v10 ++ ([(api_Extent.mk v11 v12)] : List api_Extent))))
def Z82 (J4 : (Int × Int × Int × List (BitVec 8)) → Prop) (v15 : Int) (_ : List api_Extent × List (BitVec 8) × Int → Prop) : Int × Int × List (BitVec 8) → Prop
 | (v18, v19, v20) =>
 J4 (v15, v19, v18, v20)
def Z83 (v17 : List (BitVec 8)) (J6 : (Int × Int × List (BitVec 8)) → Prop) (v21 : Int) (v22 : Int) (_ : List api_Extent × List (BitVec 8) × Int → Prop) : Bool → Prop
 | v23 =>
 (v23 = true →
 J6 (3, 0, v17)) ∧
 (¬ (v23 = true) →
 inI (v22 + 1) ∧
 inS (v22 + 1) (v17.length : Int) v17.length ∧
 J6 (0, (BitVec.ofInt 64 v21 ||| BitVec.ofInt 64 ((((ix v17 v22) &&& (127#8)).toNat : Int) * 2 ^ ((7 * v22) : Int).toNat)).toInt, (sub v17 (v22 + 1) (v17.length : Int))))
def Z84 (v17 : List (BitVec 8)) (J6 : (Int × Int × List (BitVec 8)) → Prop) (Φ : List api_Extent × List (BitVec 8) × Int → Prop) : (Int × Int) → ((Int × Int) → Prop) → Prop
 | (v21, v22), rec7 =>
 (v22 < 8 →
 ((v17.length : Int) ≤ v22 →
 J6 (10, 0, v17)) ∧
 (¬ ((v17.length : Int) ≤ v22) →
 inX v22 v17.length ∧
 inI (7 * v22) ∧
 (0 ≤ (7 * v22) ∧ (7 * v22) ≤ 62 ∧ inI ((((ix v17 v22) &&& (127#8)).toNat : Int) * 2 ^ ((7 * v22) : Int).toNat)) ∧
 (((ix v17 v22) &&& (128#8)) ≠ (0#8) →
 inI (v22 + 1) ∧
 rec7 ((BitVec.ofInt 64 v21 ||| BitVec.ofInt 64 ((((ix v17 v22) &&& (127#8)).toNat : Int) * 2 ^ ((7 * v22) : Int).toNat)).toInt, (v22 + 1))) ∧
 (¬ (((ix v17 v22) &&& (128#8)) ≠ (0#8)) →
 Join (Z83 v17 J6 v21 v22 Φ) fun J8 =>
 ((ix v17 v22) = (0#8) →
 (0 < v22 →
 J8 true) ∧
 (¬ (0 < v22) →
 J8 (decide (9007199254740991 < ((BitVec.ofInt 64 v21 ||| BitVec.ofInt 64 ((((ix v17 v22) &&& (127#8)).toNat : Int) * 2 ^ ((7 * v22) : Int).toNat)).toInt))))) ∧
 (¬ ((ix v17 v22) = (0#8)) →
 J8 (decide (9007199254740991 < ((BitVec.ofInt 64 v21 ||| BitVec.ofInt 64 ((((ix v17 v22) &&& (127#8)).toNat : Int) * 2 ^ ((7 * v22) : Int).toNat)).toInt))))))) ∧
 (¬ (v22 < 8) →
 J6 (3, 0, v17))
def Z85 (J4 : (Int × Int × Int × List (BitVec 8)) → Prop) (Φ : List api_Extent × List (BitVec 8) × Int → Prop) : Int × Int × List (BitVec 8) → Prop
 | (v15, v16, v17) =>
 (v16 ≠ 0 →
 J4 (0, 0, v16, v17)) ∧
 (¬ (v16 ≠ 0) →
 Join (Z82 J4 v15 Φ) fun J6 =>
 LoopW (Z84 v17 J6 Φ) (0, 0))
def Z86 (v9 : List (BitVec 8)) (J5 : (Int × Int × List (BitVec 8)) → Prop) (v24 : Int) (v25 : Int) (_ : List api_Extent × List (BitVec 8) × Int → Prop) : Bool → Prop
 | v26 =>
 (v26 = true →
 J5 (0, 3, v9)) ∧
 (¬ (v26 = true) →
 inI (v25 + 1) ∧
 inS (v25 + 1) (v9.length : Int) v9.length ∧
 J5 ((BitVec.ofInt 64 v24 ||| BitVec.ofInt 64 ((((ix v9 v25) &&& (127#8)).toNat : Int) * 2 ^ ((7 * v25) : Int).toNat)).toInt, 0, (sub v9 (v25 + 1) (v9.length : Int))))
def Z87 (v9 : List (BitVec 8)) (J5 : (Int × Int × List (BitVec 8)) → Prop) (Φ : List api_Extent × List (BitVec 8) × Int → Prop) : (Int × Int) → ((Int × Int) → Prop) → Prop
 | (v24, v25), rec9 =>
 (v25 < 8 →
 ((v9.length : Int) ≤ v25 →
 J5 (0, 10, v9)) ∧
 (¬ ((v9.length : Int) ≤ v25) →
 inX v25 v9.length ∧
 inI (7 * v25) ∧
 (0 ≤ (7 * v25) ∧ (7 * v25) ≤ 62 ∧ inI ((((ix v9 v25) &&& (127#8)).toNat : Int) * 2 ^ ((7 * v25) : Int).toNat)) ∧
 (((ix v9 v25) &&& (128#8)) ≠ (0#8) →
 inI (v25 + 1) ∧
 rec9 ((BitVec.ofInt 64 v24 ||| BitVec.ofInt 64 ((((ix v9 v25) &&& (127#8)).toNat : Int) * 2 ^ ((7 * v25) : Int).toNat)).toInt, (v25 + 1))) ∧
 (¬ (((ix v9 v25) &&& (128#8)) ≠ (0#8)) →
 Join (Z86 v9 J5 v24 v25 Φ) fun J10 =>
 ((ix v9 v25) = (0#8) →
 (0 < v25 →
 J10 true) ∧
 (¬ (0 < v25) →
 J10 (decide (9007199254740991 < ((BitVec.ofInt 64 v24 ||| BitVec.ofInt 64 ((((ix v9 v25) &&& (127#8)).toNat : Int) * 2 ^ ((7 * v25) : Int).toNat)).toInt))))) ∧
 (¬ ((ix v9 v25) = (0#8)) →
 J10 (decide (9007199254740991 < ((BitVec.ofInt 64 v24 ||| BitVec.ofInt 64 ((((ix v9 v25) &&& (127#8)).toNat : Int) * 2 ^ ((7 * v25) : Int).toNat)).toInt))))))) ∧
 (¬ (v25 < 8) →
 J5 (0, 3, v9))
def Z88 (J1 : (Int × List (BitVec 8) × List api_Extent) → Prop) (v5 : Int) (Φ : List api_Extent × List (BitVec 8) × Int → Prop) : (Int × List (BitVec 8) × List api_Extent) → ((Int × List (BitVec 8) × List api_Extent) → Prop) → Prop
 | (v8, v9, v10), rec3 =>
 (v8 < v5 →
 Join (Z81 J1 v8 v10 rec3 Φ) fun J4 =>
 Join (Z85 J4 Φ) fun J5 =>
 LoopW (Z87 v9 J5 Φ) (0, 0)) ∧
 (¬ (v8 < v5) →
 J1 (0, v9, v10))
def Z89 (J1 : (Int × List (BitVec 8) × List api_Extent) → Prop) (Φ : List api_Extent × List (BitVec 8) × Int → Prop) : Int × Int × List (BitVec 8) → Prop
 | (v5, v6, v7) =>
 (v6 ≠ 0 →
 J1 (v6, v7, ([] : List api_Extent))) ∧
 (¬ (v6 ≠ 0) →
 LoopW (Z88 J1 v5 Φ) (0, v7, ([] : List api_Extent)))
def Z90 (J2 : (Int × Int × List (BitVec 8)) → Prop) (_ : List api_Extent × List (BitVec 8) × Int → Prop) : Int × Int × List (BitVec 8) → Prop
 | (v27, v28, v29) =>
 (v28 = 0 →
 (65536 < v27 →
 J2 (v27, 5, v29)) ∧
 (¬ (65536 < v27) →
 J2 (v27, v28, v29))) ∧
 (¬ (v28 = 0) →
 J2 (v27, v28, v29))
def Z91 (x0 : List (BitVec 8)) (J11 : (Int × Int × List (BitVec 8)) → Prop) (v30 : Int) (v31 : Int) (_ : List api_Extent × List (BitVec 8) × Int → Prop) : Bool → Prop
 | v32 =>
 (v32 = true →
 J11 (0, 3, x0)) ∧
 (¬ (v32 = true) →
 inI (v31 + 1) ∧
 inS (v31 + 1) (x0.length : Int) x0.length ∧
 J11 ((BitVec.ofInt 64 v30 ||| BitVec.ofInt 64 ((((ix x0 v31) &&& (127#8)).toNat : Int) * 2 ^ ((7 * v31) : Int).toNat)).toInt, 0, (sub x0 (v31 + 1) (x0.length : Int))))
def Z92 (x0 : List (BitVec 8)) (J11 : (Int × Int × List (BitVec 8)) → Prop) (Φ : List api_Extent × List (BitVec 8) × Int → Prop) : (Int × Int) → ((Int × Int) → Prop) → Prop
 | (v30, v31), rec12 =>
 (v31 < 8 →
 ((x0.length : Int) ≤ v31 →
 J11 (0, 10, x0)) ∧
 (¬ ((x0.length : Int) ≤ v31) →
 inX v31 x0.length ∧
 inI (7 * v31) ∧
 (0 ≤ (7 * v31) ∧ (7 * v31) ≤ 62 ∧ inI ((((ix x0 v31) &&& (127#8)).toNat : Int) * 2 ^ ((7 * v31) : Int).toNat)) ∧
 (((ix x0 v31) &&& (128#8)) ≠ (0#8) →
 inI (v31 + 1) ∧
 rec12 ((BitVec.ofInt 64 v30 ||| BitVec.ofInt 64 ((((ix x0 v31) &&& (127#8)).toNat : Int) * 2 ^ ((7 * v31) : Int).toNat)).toInt, (v31 + 1))) ∧
 (¬ (((ix x0 v31) &&& (128#8)) ≠ (0#8)) →
 Join (Z91 x0 J11 v30 v31 Φ) fun J13 =>
 ((ix x0 v31) = (0#8) →
 (0 < v31 →
 J13 true) ∧
 (¬ (0 < v31) →
 J13 (decide (9007199254740991 < ((BitVec.ofInt 64 v30 ||| BitVec.ofInt 64 ((((ix x0 v31) &&& (127#8)).toNat : Int) * 2 ^ ((7 * v31) : Int).toNat)).toInt))))) ∧
 (¬ ((ix x0 v31) = (0#8)) →
 J13 (decide (9007199254740991 < ((BitVec.ofInt 64 v30 ||| BitVec.ofInt 64 ((((ix x0 v31) &&& (127#8)).toNat : Int) * 2 ^ ((7 * v31) : Int).toNat)).toInt))))))) ∧
 (¬ (v31 < 8) →
 J11 (0, 3, x0))
def Z93 (x0 : List (BitVec 8)) (Φ : List api_Extent × List (BitVec 8) × Int → Prop) : Prop :=
 Join (Z80 Φ) fun J1 =>
 Join (Z89 J1 Φ) fun J2 =>
 Join (Z90 J2 Φ) fun J11 =>
 LoopW (Z92 x0 J11 Φ) (0, 0)
def Z94 (x0 : List api_Extent) (v1 : Int) (v2 : Int) (rec1 : (Int × Int) → Prop) (Φ : Int → Prop) : Bool → Prop
 | v3 =>
 (v3 = true →
 Φ 2) ∧
 (¬ (v3 = true) →
 (((ix x0 v2).Start) < v1 →
 Φ 3) ∧
 (¬ (((ix x0 v2).Start) < v1) →
 inI (((ix x0 v2).Start) + ((ix x0 v2).Count)) ∧
 inI ((((ix x0 v2).Start) + ((ix x0 v2).Count)) + 1) ∧
 inI (v2 + 1) ∧
 rec1 (((((ix x0 v2).Start) + ((ix x0 v2).Count)) + 1), (v2 + 1))))
def Z95 (x0 : List api_Extent) (x1 : Int) (Φ : Int → Prop) : (Int × Int) → ((Int × Int) → Prop) → Prop
 | (v1, v2), rec1 =>
 (v2 < (x0.length : Int) →
 inX v2 x0.length ∧
 (((ix x0 v2).Count) ≤ 0 →
 Φ 1) ∧
 (¬ (((ix x0 v2).Count) ≤ 0) →
 Join (Z94 x0 v1 v2 rec1 Φ) fun J2 =>
 (((ix x0 v2).Start) < 0 →
 J2 true) ∧
 (¬ (((ix x0 v2).Start) < 0) →
 inI (x1 - ((ix x0 v2).Start)) ∧
 J2 (decide ((x1 - ((ix x0 v2).Start)) < ((ix x0 v2).Count)))))) ∧
 (¬ (v2 < (x0.length : Int)) →
 Φ 0)
def Z96 (x0 : List api_Extent) (x1 : Int) (Φ : Int → Prop) : Prop :=
 (x1 < 0 →
 Φ 2) ∧
 (¬ (x1 < 0) →
 (4096 < x1 →
 Φ 2) ∧
 (¬ (4096 < x1) →
 LoopW (Z95 x0 x1 Φ) (0, 0)))
def Z97 (x1 : List api_Extent) (Φ : api_Bitmap × Int → Prop) : (Int × Int × List (BitVec 64)) → ((Int × Int × List (BitVec 64)) → Prop) → Prop
 | (v2, v3, v4), rec1 =>
 (v2 < (x1.length : Int) →
 inX v2 x1.length ∧
 bitmap_Set_W (api_Bitmap.mk v3 v4) (ix x1 v2) fun v5 =>
 (v5.2 ≠ 0 →
 Φ ((api_Bitmap.mk 0 ([] : List (BitVec 64))), v5.2)) ∧
 (¬ (v5.2 ≠ 0) →
 inI (v2 + 1) ∧
 rec1 ((v2 + 1), v5.1.Size, v5.1.Words))) ∧
 (¬ (v2 < (x1.length : Int)) →
 Φ ((api_Bitmap.mk v3 v4), 0))
def Z98 (x0 : Int) (x1 : List api_Extent) (Φ : api_Bitmap × Int → Prop) : Prop :=
 bitmap_New_W x0 fun v1 =>
 (v1.2 ≠ 0 →
 Φ ((api_Bitmap.mk 0 ([] : List (BitVec 64))), v1.2)) ∧
 (¬ (v1.2 ≠ 0) →
 LoopW (Z97 x1 Φ) (0, v1.1.Size, v1.1.Words))
def Z99 (x1 : List Int) (v1 : Int × List (BitVec 8) × Int) (v2 : Int × List (BitVec 8) × Int) (Φ : api_Peer × List (BitVec 8) × Int → Prop) : (Int × List (BitVec 8) × List api_Bitmap) → ((Int × List (BitVec 8) × List api_Bitmap) → Prop) → Prop
 | (v3, v4, v5), rec1 =>
 (v3 < (x1.length : Int) →
 inX v3 x1.length ∧
 Z93 v4 fun v6 =>
 (v6.2.2 ≠ 0 →
 Φ ((api_Peer.mk 0 0 ([] : List api_Bitmap)), ([] : List (BitVec 8)), v6.2.2)) ∧
 (¬ (v6.2.2 ≠ 0) →
 Z96 v6.1 (ix x1 v3) fun v7 =>
 (v7 ≠ 0 →
 Φ ((api_Peer.mk 0 0 ([] : List api_Bitmap)), ([] : List (BitVec 8)), 3)) ∧
 (¬ (v7 ≠ 0) →
 Z98 (ix x1 v3) v6.1 fun v8 =>
 (v8.2 ≠ 0 →
 Φ ((api_Peer.mk 0 0 ([] : List api_Bitmap)), ([] : List (BitVec 8)), v8.2)) ∧
 (¬ (v8.2 ≠ 0) →
 lenOk (v5 ++ ([v8.1] : List api_Bitmap)).length 32 ∧
 inI (v3 + 1) ∧
 rec1 ((v3 + 1), v6.2.1, (v5 ++ ([v8.1] : List api_Bitmap))))))) ∧
 (¬ (v3 < (x1.length : Int)) →
 Φ ((api_Peer.mk v1.1 v2.1 v5), v4, 0))
def Z100 (x0 : List (BitVec 8)) (x1 : List Int) (Φ : api_Peer × List (BitVec 8) × Int → Prop) : Prop :=
 wire_Int_W x0 fun v1 =>
 (v1.2.2 ≠ 0 →
 Φ ((api_Peer.mk 0 0 ([] : List api_Bitmap)), ([] : List (BitVec 8)), v1.2.2)) ∧
 (¬ (v1.2.2 ≠ 0) →
 wire_Int_W v1.2.1 fun v2 =>
 (v2.2.2 ≠ 0 →
 Φ ((api_Peer.mk 0 0 ([] : List api_Bitmap)), ([] : List (BitVec 8)), v2.2.2)) ∧
 (¬ (v2.2.2 ≠ 0) →
 LoopW (Z99 x1 v1 v2 Φ) (0, v2.2.1, ([] : List api_Bitmap))))
def Z101 (v1 : List Int × List (BitVec 8) × Int) (v3 : Int × List (BitVec 8) × Int) (Φ : api_Tracker × Int → Prop) : (Int × List (BitVec 8) × List api_Peer) → ((Int × List (BitVec 8) × List api_Peer) → Prop) → Prop
 | (v4, v5, v6), rec1 =>
 (v4 < v3.1 →
 Z100 v5 v1.1 fun v7 =>
 (v7.2.2 ≠ 0 →
 Φ ((api_Tracker.mk ([] : List Int) ([] : List api_Peer)), v7.2.2)) ∧
 (¬ (v7.2.2 ≠ 0) →
 lenOk (v6 ++ ([v7.1] : List api_Peer)).length 40 ∧
 inI (v4 + 1) ∧
 rec1 ((v4 + 1), v7.2.1, (v6 ++ ([v7.1] : List api_Peer))))) ∧
 (¬ (v4 < v3.1) →
 (0 < (v5.length : Int) →
 Φ ((api_Tracker.mk ([] : List Int) ([] : List api_Peer)), 3)) ∧
 (¬ (0 < (v5.length : Int)) →
 Z20 (api_Tracker.mk v1.1 v6) fun v8 =>
 (v8 ≠ 0 →
 Φ ((api_Tracker.mk ([] : List Int) ([] : List api_Peer)), v8)) ∧
 (¬ (v8 ≠ 0) →
 Φ ((api_Tracker.mk v1.1 v6), 0))))
def Z102 (x0 : List (BitVec 8)) (Φ : api_Tracker × Int → Prop) : Prop :=
 wire_Ints_W x0 fun v1 =>
 (v1.2.2 ≠ 0 →
 Φ ((api_Tracker.mk ([] : List Int) ([] : List api_Peer)), v1.2.2)) ∧
 (¬ (v1.2.2 ≠ 0) →
 image_New_W v1.1 fun v2 =>
 (v2.2 ≠ 0 →
 Φ ((api_Tracker.mk ([] : List Int) ([] : List api_Peer)), v2.2)) ∧
 (¬ (v2.2 ≠ 0) →
 wire_Int_W v1.2.1 fun v3 =>
 (v3.2.2 ≠ 0 →
 Φ ((api_Tracker.mk ([] : List Int) ([] : List api_Peer)), v3.2.2)) ∧
 (¬ (v3.2.2 ≠ 0) →
 (4 < v3.1 →
 Φ ((api_Tracker.mk ([] : List Int) ([] : List api_Peer)), 6)) ∧
 (¬ (4 < v3.1) →
 LoopW (Z101 v1 v3 Φ) (0, v3.2.1, ([] : List api_Peer))))))
def Z103 (x0 : api_Tracker) (x1 : BitVec 16) (Φ : Bool → Prop) : Prop :=
 ref43_Few_W x0 fun v1 =>
 (¬ (v1 = true) →
 law43_awake_W fun v2 =>
 Φ v2) ∧
 (¬ (¬ (v1 = true)) →
 Z74 x0 fun v3 =>
 Z20 x0 fun v4 =>
 (v4 ≠ 0 →
 law43_awake_W fun v5 =>
 (v5 = true →
 Φ (decide ((v3.length : Int) = 0))) ∧
 (¬ (v5 = true) →
 Φ false)) ∧
 (¬ (v4 ≠ 0) →
 Z102 v3 fun v6 =>
 (v6.2 ≠ 0 →
 Φ false) ∧
 (¬ (v6.2 ≠ 0) →
 ref43_Same_W v6.1 x0 fun v7 =>
 (¬ (v7 = true) →
 Φ false) ∧
 (¬ (¬ (v7 = true)) →
 ((v3.length : Int) = 0 →
 Φ false) ∧
 (¬ ((v3.length : Int) = 0) →
 inI (x1.toNat : Int) ∧
 (0 ≤ (x1.toNat : Int) ∧ (v3.length : Int) ≠ (0 : Int)) ∧
 inS 0 ((x1.toNat : Int) % (v3.length : Int)) v3.length ∧
 Z102 (sub v3 0 ((x1.toNat : Int) % (v3.length : Int))) fun v8 =>
 lenOk (([] : List (BitVec 8)) ++ v3).length 1 ∧
 lenOk ((([] : List (BitVec 8)) ++ v3) ++ ([0#8] : List (BitVec 8))).length 1 ∧
 Z102 ((([] : List (BitVec 8)) ++ v3) ++ ([0#8] : List (BitVec 8))) fun v9 =>
 law43_awake_W fun v10 =>
 (v10 = true →
 (v8.2 = 10 →
 Φ (decide (v9.2 = 3))) ∧
 (¬ (v8.2 = 10) →
 Φ false)) ∧
 (¬ (v10 = true) →
 Φ false))))))
def gh : Hp → Prop := fun H => TabH H 0
theorem ghUp : GUp gh := fun _ _ h hle => h.mono hle
def ct26 : Ct DD := ⟨26, [52], [4], [[false]], true, fun x Φ => Z2 x.1 fun y => Φ (y, ())⟩
def pl26 : List PE := [⟨[4, 1, 0, 1], [], [], ⟨[.int], [(0, .kp 0), (3, .v .int)], [], [], []⟩, false⟩, ⟨[0, 5, 4, 1, 0, 1], [], [], ⟨[.bool], [(0, .kp 0), (3, .kp 3), (11, .v .bool)], [], [], []⟩, true⟩]
def ct11 : Ct DD := ⟨11, [25], [4], [[false]], true, fun x Φ => ref43_Few_W x.1 fun y => Φ (y, ())⟩
def pl11 : List PE := [⟨[4, 1, 0, 1], [], [0], ⟨[.int], [(1, .kp 2), (3, .v .int)], [], [], []⟩, false⟩, ⟨[4, 1, 0, 1, 1], [], [0], ⟨[.int], [(1, .kp 2), (4, .v .int)], [], [], []⟩, false⟩, ⟨[0, 5, 4, 1, 0, 1, 1], [], [], ⟨[.bool], [(1, .kp 2), (4, .kp 10), (32, .v .bool)], [], [], []⟩, true⟩, ⟨[0, 5, 4, 1, 0, 1], [], [], ⟨[.bool], [(1, .kp 2), (3, .kp 7), (13, .v .bool)], [], [], []⟩, true⟩]
def ct146 : Ct DD := ⟨146, [3], [4], [[false]], true, fun x Φ => Z3 x.1 fun y => Φ (y, ())⟩
def pl146 : List PE := []
def ct85 : Ct DD := ⟨85, [22], [28], [[false]], true, fun x Φ => Z5 x.1 fun y => Φ (y, ())⟩
def pl85 : List PE := [⟨[4, 1, 0, 1, 12, 0, 1, 11, 0, 0, 1, 1], [], [], ⟨[.int], [(0, .kp 0), (1, .kp 1), (7, .kp 4), (8, .v .int)], [], [], []⟩, false⟩]
def ct87 : Ct DD := ⟨87, [3], [37], [[true]], false, fun x Φ => image_New_1_W x.1 fun y => Φ (y, ())⟩
def pl87 : List PE := []
def ct37 : Ct DD := ⟨37, [22], [73, 28], [[true], [false]], false, fun x Φ => image_New_W x.1 fun y => Φ (y.1, y.2, ())⟩
def pl37 : List PE := [⟨[4, 1, 0, 1, 1, 11, 0, 1, 1], [], [], ⟨[.int, .lst 37], [(1, .kp 2), (5, .own 0), (11, .kp 8), (12, .kp 9), (13, .v .int)], [], [37], []⟩, false⟩]
def ct40 : Ct DD := ⟨40, [3, 3, 3], [4], [[false]], true, fun x Φ => Z6 x.1 x.2.1 x.2.2.1 fun y => Φ (y, ())⟩
def pl40 : List PE := []
def ct38 : Ct DD := ⟨38, [3], [4], [[false]], true, fun x Φ => Z7 x.1 fun y => Φ (y, ())⟩
def pl38 : List PE := []
def ct144 : Ct DD := ⟨144, [3], [3], [[false]], true, fun x Φ => Z8 x.1 fun y => Φ (y, ())⟩
def pl144 : List PE := []
def ct88 : Ct DD := ⟨88, [3], [86, 28], [[false, true], [false]], false, fun x Φ => bitmap_New_W x.1 fun y => Φ (y.1, y.2, ())⟩
def pl88 : List PE := [⟨[0, 1], [], [0], ⟨[.bool], [(0, .kp 1), (2, .kp 2), (9, .v .bool)], [], [], []⟩, true⟩]
def ct39 : Ct DD := ⟨39, [22], [52, 28], [[true], [false]], false, fun x Φ => Z10 x.1 fun y => Φ (y.1, y.2, ())⟩
def pl39 : List PE := [⟨[4, 1, 0, 1, 1], [], [], ⟨[.int, .lst 86], [(4, .own 0), (9, .kp 4), (10, .kp 5), (11, .v .int)], [], [86], []⟩, false⟩]
def ct41 : Ct DD := ⟨41, [22], [22], [[true]], false, fun x Φ => Z11 x.1 fun y => Φ (y, ())⟩
def pl41 : List PE := []
def sk89 : Sk DD := ⟨89, 149, 3, 89, true, inI, sortZ⟩
def ct13 : Ct DD := ⟨13, [22, 22, 3], [25, 28], [[true, true], [false]], false, fun x Φ => tracker_New_W x.1 x.2.1 x.2.2.1 fun y => Φ (y.1, y.2, ())⟩
def pl13 : List PE := [⟨[4, 1, 0, 1, 1, 1], [], [1], ⟨[.int], [(0, .kp 2), (1, .kp 3), (2, .kp 4), (6, .kp 5), (32, .kp 19), (33, .kp 20), (34, .v .int)], [(0, 25, [.kp 22,.kp 23])], [], []⟩, false⟩, ⟨[4, 1, 0, 1, 1, 1, 1, 1], [], [1], ⟨[.int, .mp 3 89], [(0, .kp 2), (2, .kp 4), (6, .kp 5), (12, .kp 28), (44, .kp 3), (45, .kp 29), (46, .v .int)], [(0, 25, [.kp 22,.kp 23])], [], [(24, .map 3 89 false true)]⟩, false⟩, ⟨[4, 1, 0, 1, 1, 13, 0, 1, 1, 1, 1, 1, 1, 1], [], [33, 32, 31, 0, 24, 1], ⟨[.int, .lst 89], [(0, .kp 28), (3, .own 0), (8, .kp 37), (9, .kp 38), (10, .v .int)], [], [89], []⟩, false⟩]
def ct83 : Ct DD := ⟨83, [86], [28], [[false]], true, fun x Φ => Z15 x.1 fun y => Φ (y, ())⟩
def pl83 : List PE := []
def ct93 : Ct DD := ⟨93, [86, 3], [4, 28], [[false], [false]], true, fun x Φ => Z16 x.1 x.2.1 fun y => Φ (y.1, y.2, ())⟩
def pl93 : List PE := []
def ct47 : Ct DD := ⟨47, [52, 22], [28], [[false]], true, fun x Φ => Z18 x.1 x.2.1 fun y => Φ (y, ())⟩
def pl47 : List PE := [⟨[4, 1, 0, 1, 1, 12, 0, 1, 1], [], [], ⟨[.int, .lst 4], [(0, .kp 0), (1, .kp 1), (2, .kp 2), (8, .own 0), (13, .kp 7), (14, .v .int)], [], [4], []⟩, false⟩]
def ct16 : Ct DD := ⟨16, [25], [28], [[false]], true, fun x Φ => Z20 x.1 fun y => Φ (y, ())⟩
def pl16 : List PE := [⟨[4, 1, 0, 1, 1, 1, 1], [], [1, 0], ⟨[.int, .int], [(1, .kp 3), (5, .v .int), (23, .kp 21), (24, .kp 22), (25, .v .int)], [], [], []⟩, false⟩]
def ct179 : Ct DD := ⟨179, [37], [3], [[false]], true, fun x Φ => Z21 x.1 fun y => Φ (y, ())⟩
def pl179 : List PE := []
def ct150 : Ct DD := ⟨150, [73], [22], [[true]], false, fun x Φ => image_sizes_W x.1 fun y => Φ (y, ())⟩
def pl150 : List PE := [⟨[4, 1, 0, 1, 1, 11, 0, 1], [], [], ⟨[.int, .lst 3], [(1, .kp 2), (5, .own 0), (11, .kp 8), (12, .kp 9), (13, .v .int)], [], [3], []⟩, false⟩]
def ct95 : Ct DD := ⟨95, [73], [28], [[false]], true, fun x Φ => image_Check_W x.1 fun y => Φ (y, ())⟩
def pl95 : List PE := []
def ct96 : Ct DD := ⟨96, [73, 39], [28], [[false]], true, fun x Φ => image_fits_W x.1 x.2.1 fun y => Φ (y, ())⟩
def pl96 : List PE := [⟨[4, 0, 1], [], [0], ⟨[.bool], [(0, .kp 1), (3, .kp 3), (5, .v .bool)], [], [], []⟩, true⟩]
def ct49 : Ct DD := ⟨49, [73, 39], [28], [[false]], true, fun x Φ => image_Fits_W x.1 x.2.1 fun y => Φ (y, ())⟩
def pl49 : List PE := []
def ct180 : Ct DD := ⟨180, [84], [84], [[true]], false, fun x Φ => Z23 x.1 fun y => Φ (y, ())⟩
def pl180 : List PE := []
def ct151 : Ct DD := ⟨151, [86], [86], [[false, true]], false, fun x Φ => tracker_own_W x.1 fun y => Φ (y, ())⟩
def pl151 : List PE := []
def ct97 : Ct DD := ⟨97, [52], [52], [[true]], false, fun x Φ => Z25 x.1 fun y => Φ (y, ())⟩
def pl97 : List PE := [⟨[4, 1, 0, 1, 1], [], [], ⟨[.int, .lst 86], [(3, .own 0), (6, .kp 3), (7, .kp 4), (8, .v .int)], [], [86], []⟩, false⟩]
def ct181 : Ct DD := ⟨181, [92, 3], [4], [[false]], true, fun x Φ => bitmap_fits_W x.1 x.2.1 fun y => Φ (y, ())⟩
def pl181 : List PE := []
def ct165 : Ct DD := ⟨165, [3, 3, 3], [155], [[false]], true, fun x Φ => bitmap_mask_W x.1 x.2.1 x.2.2.1 fun y => Φ (y, ())⟩
def pl165 : List PE := []
def ct152 : Ct DD := ⟨152, [155, 155], [155], [[false]], true, fun x Φ => Z26 x.1 x.2.1 fun y => Φ (y, ())⟩
def pl152 : List PE := []
def ct98 : Ct DD := ⟨98, [86, 92], [86, 28], [[false, true], [false]], false, fun x Φ => bitmap_Set_W x.1 x.2.1 fun y => Φ (y.1, y.2, ())⟩
def pl98 : List PE := [⟨[4, 1, 0, 1, 1, 1, 1, 13, 0, 1], [], [6, 5, 4, 3, 2, 1, 0], ⟨[.int, .lst 155], [(3, .kp 11), (4, .kp 12), (5, .kp 13), (6, .kp 14), (9, .own 0), (27, .kp 31), (28, .v .int)], [], [155], []⟩, false⟩]
def ct18 : Ct DD := ⟨18, [25, 39], [25, 28], [[true, true], [false]], false, fun x Φ => Z31 x.1 x.2.1 fun y => Φ (y.1, y.2, ())⟩
def pl18 : List PE := [⟨[4, 1, 0, 1, 1, 11, 0, 1, 1, 1, 1, 1], [], [4, 3, 2, 1, 0], ⟨[.int, .dm 3 89 86], [(3, .kp 10), (8, .kp 12), (9, .kp 13), (10, .v .int)], [], [], [(5, .dmp 3 89 false true 2 86)]⟩, false⟩, ⟨[4, 1, 0, 1, 1, 1, 1, 1, 1], [], [4, 3, 1, 0], ⟨[.itr, .dm 3 89 86], [(2, .kp 27), (3, .kp 28), (4, .kp 29), (10, .kp 10), (39, .kp 53)], [(2, 25, [.kp 17,.kp 18])], [], [(24, .itr 5), (5, .dmp 3 89 false true 2 86)]⟩, false⟩, ⟨[4, 1, 0, 1, 1, 14, 0, 1, 12, 0, 1, 1, 1, 1, 1, 1, 1], [], [58, 57, 5, 56, 55, 54, 2, 24, 4, 3, 1, 0], ⟨[.int, .lst 89], [(0, .kp 10), (3, .own 0), (8, .kp 62), (9, .kp 63), (10, .v .int)], [], [89], []⟩, false⟩, ⟨[4, 1, 0, 1, 14, 0, 0, 1, 4, 1, 1, 5, 4, 1, 0, 1, 1, 1, 1, 1, 1], [], [56, 55, 24, 5, 2], ⟨[.int, .lst 86], [(0, .kp 57), (10, .kp 61), (11, .kp 62), (12, .v .int)], [], [], [(54, .row 86)]⟩, false⟩]
def ct23 : Ct DD := ⟨23, [25, 3], [52, 3, 28], [[false], [false], [false]], false, fun x Φ => Z33 x.1 x.2.1 fun y => Φ (y.1, y.2.1, y.2.2, ())⟩
def pl23 : List PE := [⟨[4, 1, 0, 1, 1, 11, 0, 1, 1], [], [1, 0], ⟨[.int, .mp 3 89], [(3, .kp 7), (8, .kp 9), (9, .kp 10), (10, .v .int)], [], [], [(2, .map 3 89 false true)]⟩, false⟩]
def ct101 : Ct DD := ⟨101, [3, 3, 3], [4], [[false]], true, fun x Φ => cycle_in_W x.1 x.2.1 x.2.2.1 fun y => Φ (y, ())⟩
def pl101 : List PE := []
def ct155 : Ct DD := ⟨155, [3], [4], [[false]], true, fun x Φ => Z34 x.1 fun y => Φ (y, ())⟩
def pl155 : List PE := []
def ct102 : Ct DD := ⟨102, [22, 3], [28], [[false]], true, fun x Φ => Z36 x.1 x.2.1 fun y => Φ (y, ())⟩
def pl102 : List PE := [⟨[4, 1, 0, 1, 12, 0, 1, 11, 0, 0, 1, 1], [], [], ⟨[.int], [(0, .kp 0), (1, .kp 1), (7, .kp 4), (8, .v .int)], [], [], []⟩, false⟩]
def ct103 : Ct DD := ⟨103, [47, 22], [28], [[false]], true, fun x Φ => Z38 x.1 x.2.1 fun y => Φ (y, ())⟩
def pl103 : List PE := [⟨[4, 1, 0, 1, 12, 0, 1, 1, 1], [0], [1, 0], ⟨[.int], [(0, .kp 2), (1, .kp 3), (9, .kp 5), (10, .kp 6), (11, .v .int)], [], [], []⟩, false⟩]
def ct57 : Ct DD := ⟨57, [49, 22], [28], [[false]], true, fun x Φ => cycle_Check_W x.1 x.2.1 fun y => Φ (y, ())⟩
def pl57 : List PE := [⟨[4, 0, 1, 1], [], [1, 0], ⟨[.bool], [(1, .kp 3), (2, .kp 4), (16, .v .bool)], [], [], []⟩, true⟩]
def ct21 : Ct DD := ⟨21, [25, 3, 3, 43], [25, 28], [[true, true], [false]], false, fun x Φ => Z45 x.1 x.2.1 x.2.2.1 x.2.2.2.1 fun y => Φ (y.1, y.2, ())⟩
def pl21 : List PE := [⟨[4, 1, 0, 1, 1, 11, 0, 1, 1], [], [2, 1, 0], ⟨[.int, .mp 3 89], [(3, .kp 8), (8, .kp 10), (9, .kp 11), (10, .v .int)], [], [], [(3, .map 3 89 false true)]⟩, false⟩, ⟨[4, 1, 0, 1, 1, 1, 1, 1, 1, 1, 1], [], [19, 3, 2, 0], ⟨[.int, .int, .lst 86], [(1, .kp 22), (2, .kp 23), (4, .kp 25), (8, .kp 26), (11, .kp 8), (14, .own 0), (16, .v .int), (60, .kp 64), (61, .kp 65), (62, .v .int)], [(1, 25, [.kp 15,.kp 16])], [86], []⟩, false⟩, ⟨[0, 1, 1, 1, 4, 0, 1, 1, 5, 4, 1, 0, 1, 1, 1, 1, 1, 1, 1, 1], [], [71, 1], ⟨[.int, .lst 86], [(1, .kp 22), (2, .kp 23), (4, .kp 25), (8, .kp 26), (11, .kp 8), (14, .own 0), (15, .v .int), (18, .kp 78), (60, .kp 64), (61, .kp 65), (62, .kp 74)], [], [86], []⟩, true⟩, ⟨[4, 1, 0, 1, 13, 0, 0, 1, 1, 1, 4, 0, 1, 1, 5, 4, 1, 0, 1, 1, 1, 1, 1, 1, 1, 1], [], [], ⟨[.int, .lst 86], [(0, .kp 72), (10, .kp 93), (11, .kp 96), (12, .v .int)], [], [], [(70, .row 86)]⟩, false⟩, ⟨[4, 1, 0, 1, 1, 14, 0, 1, 12, 0, 1, 1, 1, 1, 1, 1, 1, 1, 1, 1], [], [75, 74, 73, 72, 71, 1, 70, 19, 3, 2, 0], ⟨[.int, .lst 89], [(0, .kp 8), (3, .own 0), (8, .kp 79), (9, .kp 80), (10, .v .int)], [], [89], []⟩, false⟩]
def ct166 : Ct DD := ⟨166, [155], [3], [[false]], true, fun x Φ => Z46 x.1 fun y => Φ (y, ())⟩
def it164 : It DD := ⟨164, [86, 3], [3], fun x l => bitmap_elements_1_I x.1 x.2.1 l⟩
def pl164 : List PE := [⟨[4, 1, 1], [], [], ⟨[.int], [(0, .kp 0), (1, .kp 3), (2, .kp 4), (10, .kp 9), (11, .kp 10), (12, .v .int)], [], [], []⟩, false⟩, ⟨[4, 1, 1, 4, 0, 1, 1, 5, 4, 1, 1], [], [], ⟨[.word], [(0, .kp 0), (1, .kp 3), (2, .kp 4), (4, .kp 17), (5, .v .word), (10, .kp 9), (11, .kp 10), (12, .kp 12)], [], [], []⟩, false⟩]
def ct73 : Ct DD := ⟨73, [86], [93], [[true]], false, fun x Φ => Z50 x.1 fun y => Φ (y, ())⟩
def pl73 : List PE := [⟨[4, 1, 0, 1, 1], [2, 3], [3, 2, 0], ⟨[.lst 92], [], [(1, 93, [.own 0])], [92], []⟩, false⟩]
def ct84 : Ct DD := ⟨84, [93, 93], [4], [[false]], true, fun x Φ => Z52 x.1 x.2.1 fun y => Φ (y, ())⟩
def pl84 : List PE := [⟨[4, 1, 0, 1, 1], [], [], ⟨[.int], [(0, .kp 0), (1, .kp 1), (5, .v .int)], [], [], []⟩, false⟩]
def ct36 : Ct DD := ⟨36, [52, 156], [4], [[false]], true, fun x Φ => Z54 x.1 x.2.1 fun y => Φ (y, ())⟩
def pl36 : List PE := [⟨[4, 1, 0, 1, 1], [], [], ⟨[.int], [(0, .kp 0), (1, .kp 1), (5, .v .int)], [], [], []⟩, false⟩]
def ct124 : Ct DD := ⟨124, [64], [64], [[true]], false, fun x Φ => Z55 x.1 fun y => Φ (y, ())⟩
def pl124 : List PE := []
def ct71 : Ct DD := ⟨71, [64, 22], [64], [[true]], false, fun x Φ => Z61 x.1 x.2.1 fun y => Φ (y, ())⟩
def pl71 : List PE := [⟨[4, 0, 1, 1, 13, 0, 1, 13, 0, 1], [], [], ⟨[.int, .lst 5], [(0, .own 0), (1, .v .int)], [], [5], []⟩, false⟩, ⟨[4, 1, 0, 1, 1, 13, 0, 1], [], [6], ⟨[.int, .lst 5], [(0, .own 0), (2, .kp 10), (13, .kp 16), (14, .kp 17), (15, .v .int)], [], [5], []⟩, false⟩, ⟨[4, 0, 1, 1, 13, 1, 4, 0, 1, 1, 5, 4, 1, 0, 1, 1, 13, 0, 1], [], [], ⟨[.int, .lst 5], [(0, .own 0), (1, .v .int)], [], [5], []⟩, false⟩, ⟨[1, 13, 1, 4, 0, 1, 1, 5, 4, 1, 0, 1, 1, 13, 0, 1], [], [19], ⟨[.int], [(0, .kp 20), (1, .v .int)], [], [], []⟩, true⟩, ⟨[1, 13, 0, 1, 13, 0, 1], [], [0], ⟨[.int], [(0, .kp 1), (1, .v .int)], [], [], []⟩, true⟩]
def ct70 : Ct DD := ⟨70, [64, 3], [64], [[true]], false, fun x Φ => wire_PutInt_W x.1 x.2.1 fun y => Φ (y, ())⟩
def pl70 : List PE := [⟨[4, 0, 1, 1, 13, 0, 1], [], [], ⟨[.int, .lst 5], [(0, .own 0), (1, .v .int)], [], [5], []⟩, false⟩, ⟨[1, 13, 0, 1], [], [0], ⟨[.int], [(0, .kp 1), (1, .v .int)], [], [], []⟩, true⟩]
def ct72 : Ct DD := ⟨72, [64, 93], [64], [[true]], false, fun x Φ => Z71 x.1 x.2.1 fun y => Φ (y, ())⟩
def pl72 : List PE := [⟨[4, 0, 1, 1, 13, 0, 1, 13, 0, 1], [], [], ⟨[.int, .lst 5], [(0, .own 0), (1, .v .int)], [], [5], []⟩, false⟩, ⟨[4, 1, 0, 1, 1, 13, 0, 1], [], [6], ⟨[.int, .lst 5], [(0, .own 0), (2, .kp 10), (13, .kp 16), (14, .kp 17), (15, .v .int)], [], [5], []⟩, false⟩, ⟨[0, 1, 13, 1, 4, 0, 1, 1, 5, 4, 1, 0, 1, 1, 13, 0, 1], [21], [21], ⟨[], [(0, .kp 0), (1, .kp 0), (2, .kp 0), (4, .kp 0), (5, .kp 0)], [], [0, 0, 0, 1, 2, 4, 5, 3, 6, 7], []⟩, false⟩, ⟨[4, 0, 1, 1, 13, 0, 1, 13, 1, 4, 0, 1, 1, 5, 4, 1, 0, 1, 1, 13, 0, 1], [], [20], ⟨[.int, .lst 5], [(0, .own 0), (1, .v .int)], [], [5], []⟩, false⟩, ⟨[4, 0, 1, 1, 16, 0, 1, 13, 1, 4, 0, 1, 1, 5, 4, 1, 0, 1, 1, 13, 0, 1], [], [32, 20], ⟨[.int, .lst 5], [(0, .own 0), (1, .v .int)], [], [5], []⟩, false⟩, ⟨[1, 16, 0, 1, 13, 1, 4, 0, 1, 1, 5, 4, 1, 0, 1, 1, 13, 0, 1], [], [32, 33, 20], ⟨[.int], [(0, .kp 34), (1, .v .int)], [], [], []⟩, true⟩, ⟨[1, 13, 0, 1, 13, 1, 4, 0, 1, 1, 5, 4, 1, 0, 1, 1, 13, 0, 1], [], [20, 19], ⟨[.int], [(0, .kp 22), (1, .v .int)], [], [], []⟩, true⟩, ⟨[1, 13, 0, 1, 13, 0, 1], [], [0], ⟨[.int], [(0, .kp 1), (1, .v .int)], [], [], []⟩, true⟩]
def ct31 : Ct DD := ⟨31, [25], [64], [[true]], false, fun x Φ => Z74 x.1 fun y => Φ (y, ())⟩
def pl31 : List PE := [⟨[4, 1, 0, 1, 1, 1], [], [1, 0], ⟨[.int, .lst 5], [(3, .own 0), (19, .kp 18), (20, .kp 19), (21, .v .int)], [], [5], []⟩, false⟩, ⟨[4, 1, 1, 1, 4, 0, 1, 1, 5, 4, 1, 0, 1, 1, 1], [], [25, 23, 24], ⟨[.int, .lst 5], [(3, .own 0), (19, .kp 18), (20, .kp 19), (21, .kp 28), (33, .kp 41), (34, .kp 42), (35, .v .int)], [], [5], []⟩, false⟩]
def ct12 : Ct DD := ⟨12, [], [4], [[false]], true, fun _ Φ => law43_awake_W fun y => Φ (y, ())⟩
def pl12 : List PE := [⟨[1, 1, 1, 1, 1, 1, 1, 1, 1], [], [15, 16, 14, 13, 12, 10, 11, 9, 7, 8, 6, 5, 3, 4, 2, 1, 0], ⟨[], [(1, .kp 19)], [], [], []⟩, true⟩]
def ct46 : Ct DD := ⟨46, [22, 22], [4], [[false]], true, fun x Φ => Z77 x.1 x.2.1 fun y => Φ (y, ())⟩
def pl46 : List PE := [⟨[4, 1, 0, 1, 1], [], [], ⟨[.int], [(0, .kp 0), (1, .kp 1), (5, .v .int)], [], [], []⟩, false⟩]
def ct60 : Ct DD := ⟨60, [86, 86], [4], [[false]], true, fun x Φ => ref02_Same_W x.1 x.2.1 fun y => Φ (y, ())⟩
def pl60 : List PE := [⟨[4, 1, 0, 1, 1], [], [1, 0], ⟨[.int], [(2, .kp 4), (3, .kp 5), (5, .v .int)], [], [], []⟩, false⟩]
def ct25 : Ct DD := ⟨25, [52, 52], [4], [[false]], true, fun x Φ => Z79 x.1 x.2.1 fun y => Φ (y, ())⟩
def pl25 : List PE := [⟨[4, 1, 0, 1, 1], [], [], ⟨[.int], [(0, .kp 0), (1, .kp 1), (5, .v .int)], [], [], []⟩, false⟩]
def ct15 : Ct DD := ⟨15, [25, 25], [4], [[false]], true, fun x Φ => ref43_Same_W x.1 x.2.1 fun y => Φ (y, ())⟩
def pl15 : List PE := [⟨[4, 1, 0, 1, 1], [], [1, 0], ⟨[.int], [(2, .kp 4), (3, .kp 5), (5, .v .int)], [], [], []⟩, false⟩]
def ct64 : Ct DD := ⟨64, [64], [22, 64, 28], [[true], [true], [false]], false, fun x Φ => wire_Ints_W x.1 fun y => Φ (y.1, y.2.1, y.2.2, ())⟩
def pl64 : List PE := [⟨[1, 1, 11, 0, 1], [], [], ⟨[.int, .lst 5, .lst 3], [(7, .kp 9), (8, .own 0), (9, .v .int)], [(0, 235, [.v (.lst 5)])], [3], []⟩, true⟩, ⟨[4, 1, 0, 1, 1, 1, 1, 11, 0, 1, 12, 0, 1, 1, 11, 0, 1], [], [], ⟨[.int, .lst 5, .lst 3], [(0, .kp 9), (1, .kp 11), (8, .own 0), (19, .kp 19), (20, .v .int)], [(0, 235, [.v (.lst 5)])], [3], []⟩, false⟩, ⟨[4, 0, 1, 1, 5, 4, 1, 0, 1, 1, 1, 1, 11, 0, 1, 12, 0, 1, 1, 11, 0, 1], [], [22], ⟨[.int, .int, .lst 5], [(0, .kp 9), (1, .kp 11), (8, .kp 23), (9, .v .int), (10, .v .int), (19, .kp 19), (20, .kp 24)], [(0, 235, [.v (.lst 5)])], [], []⟩, true⟩, ⟨[4, 1, 0, 1, 1, 12, 0, 4, 0, 1, 1, 5, 4, 1, 0, 1, 1, 1, 1, 11, 0, 1, 12, 0, 1, 1, 11, 0, 1], [], [], ⟨[.int, .int], [(0, .kp 9), (4, .v .int), (7, .v .int)], [(0, 235, [.kp 26])], [], []⟩, false⟩, ⟨[0, 1, 1, 1, 1, 1, 4, 0, 1, 1, 5, 4, 1, 0, 1, 1, 12, 0, 4, 0, 1, 1, 5, 4, 1, 0, 1, 1, 1, 1, 11, 0, 1, 12, 0, 1, 1, 11, 0, 1], [], [0], ⟨[.bool], [(0, .kp 9), (4, .kp 31), (5, .kp 35), (44, .v .bool)], [], [], []⟩, true⟩, ⟨[1, 11, 0, 1, 12, 0, 1, 1, 11, 0, 1], [], [], ⟨[.int, .int, .lst 5], [(0, .kp 9), (1, .kp 11), (6, .v .int), (7, .v .int)], [(0, 235, [.v (.lst 5)])], [], []⟩, true⟩, ⟨[1, 11, 0, 1, 11, 0, 1, 12, 0, 1, 1, 11, 0, 1], [], [], ⟨[.int, .int, .lst 5], [(4, .v .int), (5, .v .int)], [(0, 235, [.v (.lst 5)])], [], []⟩, true⟩, ⟨[4, 1, 0, 1, 1, 11, 0, 1, 11, 0, 1, 11, 0, 1, 12, 0, 1, 1, 11, 0, 1], [], [], ⟨[.int, .int], [(0, .kp 9), (4, .v .int), (7, .v .int)], [(0, 235, [.kp 10])], [], []⟩, false⟩, ⟨[0, 1, 1, 1, 1, 1, 4, 0, 1, 1, 5, 4, 1, 0, 1, 1, 11, 0, 1, 11, 0, 1, 11, 0, 1, 12, 0, 1, 1, 11, 0, 1], [], [0], ⟨[.bool], [(0, .kp 9), (4, .kp 20), (5, .kp 24), (44, .v .bool)], [], [], []⟩, true⟩]
def ct65 : Ct DD := ⟨65, [64], [3, 64, 28], [[false], [true], [false]], false, fun x Φ => wire_Int_W x.1 fun y => Φ (y.1, y.2.1, y.2.2, ())⟩
def pl65 : List PE := [⟨[1, 1, 11, 0, 1], [], [], ⟨[.int, .int, .lst 5], [(7, .kp 9), (8, .v .int), (9, .v .int)], [(0, 235, [.v (.lst 5)])], [], []⟩, true⟩, ⟨[4, 1, 0, 1, 1, 12, 0, 1, 1, 11, 0, 1], [], [], ⟨[.int, .int], [(0, .kp 9), (4, .v .int), (7, .v .int)], [(0, 235, [.kp 10])], [], []⟩, false⟩, ⟨[0, 1, 1, 1, 1, 1, 4, 0, 1, 1, 5, 4, 1, 0, 1, 1, 12, 0, 1, 1, 11, 0, 1], [], [0], ⟨[.bool], [(0, .kp 9), (4, .kp 15), (5, .kp 19), (44, .v .bool)], [], [], []⟩, true⟩]
def ct114 : Ct DD := ⟨114, [64], [93, 64, 28], [[true], [true], [false]], false, fun x Φ => Z93 x.1 fun y => Φ (y.1, y.2.1, y.2.2, ())⟩
def pl114 : List PE := [⟨[1, 1, 11, 0, 1], [], [], ⟨[.int, .lst 5, .lst 92], [(7, .kp 9), (8, .own 0), (9, .v .int)], [(0, 235, [.v (.lst 5)])], [92], []⟩, true⟩, ⟨[4, 1, 0, 1, 1, 1, 1, 11, 0, 1, 12, 0, 1, 1, 11, 0, 1], [], [], ⟨[.int, .lst 5, .lst 92], [(0, .kp 9), (1, .kp 11), (8, .own 0), (19, .kp 19), (20, .v .int)], [(0, 235, [.v (.lst 5)])], [92], []⟩, false⟩, ⟨[1, 12, 0, 4, 0, 1, 1, 5, 4, 1, 0, 1, 1, 1, 1, 11, 0, 1, 12, 0, 1, 1, 11, 0, 1], [], [23, 22], ⟨[.int, .int, .int, .lst 5], [(2, .kp 24), (4, .v .int), (5, .v .int), (6, .v .int)], [(0, 235, [.v (.lst 5)])], [], []⟩, true⟩, ⟨[1, 1, 1, 11, 0, 1, 12, 0, 4, 0, 1, 1, 5, 4, 1, 0, 1, 1, 1, 1, 11, 0, 1, 12, 0, 1, 1, 11, 0, 1], [], [], ⟨[.int, .int, .lst 5], [(5, .kp 32), (6, .v .int), (7, .v .int)], [(0, 235, [.v (.lst 5)])], [], []⟩, true⟩, ⟨[4, 1, 0, 1, 1, 11, 0, 1, 1, 1, 11, 0, 1, 12, 0, 4, 0, 1, 1, 5, 4, 1, 0, 1, 1, 1, 1, 11, 0, 1, 12, 0, 1, 1, 11, 0, 1], [], [], ⟨[.int, .int], [(0, .kp 9), (4, .v .int), (7, .v .int)], [(0, 235, [.kp 36])], [], []⟩, false⟩, ⟨[0, 1, 1, 1, 1, 1, 4, 0, 1, 1, 5, 4, 1, 0, 1, 1, 11, 0, 1, 1, 1, 11, 0, 1, 12, 0, 4, 0, 1, 1, 5, 4, 1, 0, 1, 1, 1, 1, 11, 0, 1, 12, 0, 1, 1, 11, 0, 1], [], [0], ⟨[.bool], [(0, .kp 9), (4, .kp 41), (5, .kp 45), (44, .v .bool)], [], [], []⟩, true⟩, ⟨[1, 11, 0, 1, 12, 0, 4, 0, 1, 1, 5, 4, 1, 0, 1, 1, 1, 1, 11, 0, 1, 12, 0, 1, 1, 11, 0, 1], [], [], ⟨[.int, .int, .lst 5], [(0, .kp 9), (5, .v .int), (6, .v .int)], [(0, 235, [.v (.lst 5)])], [], []⟩, true⟩, ⟨[4, 1, 0, 1, 1, 11, 0, 1, 11, 0, 1, 12, 0, 4, 0, 1, 1, 5, 4, 1, 0, 1, 1, 1, 1, 11, 0, 1, 12, 0, 1, 1, 11, 0, 1], [], [], ⟨[.int, .int], [(0, .kp 9), (4, .v .int), (7, .v .int)], [(0, 235, [.kp 28])], [], []⟩, false⟩, ⟨[0, 1, 1, 1, 1, 1, 4, 0, 1, 1, 5, 4, 1, 0, 1, 1, 11, 0, 1, 11, 0, 1, 12, 0, 4, 0, 1, 1, 5, 4, 1, 0, 1, 1, 1, 1, 11, 0, 1, 12, 0, 1, 1, 11, 0, 1], [], [0], ⟨[.bool], [(0, .kp 9), (4, .kp 36), (5, .kp 40), (44, .v .bool)], [], [], []⟩, true⟩, ⟨[1, 11, 0, 1, 12, 0, 1, 1, 11, 0, 1], [], [], ⟨[.int, .int, .lst 5], [(0, .kp 9), (1, .kp 11), (6, .v .int), (7, .v .int)], [(0, 235, [.v (.lst 5)])], [], []⟩, true⟩, ⟨[1, 11, 0, 1, 11, 0, 1, 12, 0, 1, 1, 11, 0, 1], [], [], ⟨[.int, .int, .lst 5], [(4, .v .int), (5, .v .int)], [(0, 235, [.v (.lst 5)])], [], []⟩, true⟩, ⟨[4, 1, 0, 1, 1, 11, 0, 1, 11, 0, 1, 11, 0, 1, 12, 0, 1, 1, 11, 0, 1], [], [], ⟨[.int, .int], [(0, .kp 9), (4, .v .int), (7, .v .int)], [(0, 235, [.kp 10])], [], []⟩, false⟩, ⟨[0, 1, 1, 1, 1, 1, 4, 0, 1, 1, 5, 4, 1, 0, 1, 1, 11, 0, 1, 11, 0, 1, 11, 0, 1, 12, 0, 1, 1, 11, 0, 1], [], [0], ⟨[.bool], [(0, .kp 9), (4, .kp 20), (5, .kp 24), (44, .v .bool)], [], [], []⟩, true⟩]
def ct115 : Ct DD := ⟨115, [93, 3], [28], [[false]], true, fun x Φ => Z96 x.1 x.2.1 fun y => Φ (y, ())⟩
def pl115 : List PE := [⟨[4, 1, 0, 1, 1, 1], [], [], ⟨[.int, .int], [(1, .kp 1), (5, .v .int), (14, .kp 10), (15, .kp 11), (16, .v .int)], [], [], []⟩, false⟩, ⟨[3, 1, 4, 0, 1, 4, 0, 1, 1, 5, 4, 1, 0, 1, 1, 1], [], [13], ⟨[.bool], [(1, .kp 1), (5, .kp 14), (7, .kp 19), (14, .kp 10), (15, .kp 11), (16, .kp 15), (24, .v .bool)], [], [], []⟩, true⟩]
def ct116 : Ct DD := ⟨116, [3, 93], [86, 28], [[false, false], [false]], false, fun x Φ => Z98 x.1 x.2.1 fun y => Φ (y.1, y.2, ())⟩
def pl116 : List PE := [⟨[4, 1, 0, 1, 1, 1], [1], [1], ⟨[.int, .int, .lst 155], [(4, .kp 5), (6, .kp 12), (19, .kp 16), (20, .kp 17), (21, .v .int)], [(2, 86, [.v .int,.v (.lst 155)]), (0, 86, [.kp 21,.kp 22])], [], []⟩, false⟩]
def ct66 : Ct DD := ⟨66, [64, 22], [89, 64, 28], [[false, false, true], [true], [false]], false, fun x Φ => Z100 x.1 x.2.1 fun y => Φ (y.1, y.2.1, y.2.2, ())⟩
def pl66 : List PE := [⟨[4, 1, 0, 1, 1, 1, 1, 1, 1], [], [1], ⟨[.int, .lst 5, .lst 86], [(0, .own 0), (4, .kp 6), (10, .kp 31), (40, .kp 32), (41, .kp 33), (42, .v .int)], [(3, 89, [.kp 35,.kp 36,.own 1]), (0, 89, [.kp 38,.kp 39,.kp 40])], [5, 86], []⟩, false⟩]
def ct29 : Ct DD := ⟨29, [64], [25, 28], [[false, true], [false]], false, fun x Φ => Z102 x.1 fun y => Φ (y.1, y.2, ())⟩
def pl29 : List PE := [⟨[4, 1, 0, 1, 1, 1, 1, 1, 1, 1, 1], [], [3, 1, 2], ⟨[.int, .lst 5, .lst 89], [(0, .own 0), (2, .kp 7), (4, .kp 15), (9, .kp 41), (48, .kp 42), (49, .v .int)], [(5, 25, [.kp 44,.own 1]), (0, 25, [.kp 46,.kp 47])], [5, 89], []⟩, false⟩]
def ct8 : Ct DD := ⟨8, [25, 69], [4], [[false]], true, fun x Φ => Z103 x.1 x.2.1 fun y => Φ (y, ())⟩
def pl8 : List PE := []
theorem eq47 (x : TupD DD ct47.ps) (Φ : TupD DD ct47.rs → Prop) : ct47.W x Φ = topF ⟨Tryz.prog, tab, [ct93], pl47, [], gh, [], [], []⟩ 9 ct47.f ct47.ps ct47.rs ct47.own x Φ := by kernel_rfl
theorem eq102 (x : TupD DD ct102.ps) (Φ : TupD DD ct102.rs → Prop) : ct102.W x Φ = topF ⟨Tryz.prog, tab, [ct101, ct155], pl102, [], gh, [], [], []⟩ 9 ct102.f ct102.ps ct102.rs ct102.own x Φ := by kernel_rfl
theorem eq150 (x : TupD DD ct150.ps) (Φ : TupD DD ct150.rs → Prop) : ct150.W x Φ = topF ⟨Tryz.prog, tab, [ct179], pl150, [], gh, [], [], []⟩ 9 ct150.f ct150.ps ct150.rs ct150.own x Φ := by kernel_rfl
theorem eq124 (x : TupD DD ct124.ps) (Φ : TupD DD ct124.rs → Prop) : ct124.W x Φ = topF ⟨Tryz.prog, tab, [], pl124, [], gh, [], [], []⟩ 9 ct124.f ct124.ps ct124.rs ct124.own x Φ := by kernel_rfl
theorem eq151 (x : TupD DD ct151.ps) (Φ : TupD DD ct151.rs → Prop) : ct151.W x Φ = topF ⟨Tryz.prog, tab, [ct180], pl151, [], gh, [], [], []⟩ 9 ct151.f ct151.ps ct151.rs ct151.own x Φ := by kernel_rfl
theorem eq87 (x : TupD DD ct87.ps) (Φ : TupD DD ct87.rs → Prop) : ct87.W x Φ = topF ⟨Tryz.prog, tab, [], pl87, [], gh, [], [], []⟩ 9 ct87.f ct87.ps ct87.rs ct87.own x Φ := by kernel_rfl
theorem eq179 (x : TupD DD ct179.ps) (Φ : TupD DD ct179.rs → Prop) : ct179.W x Φ = topF ⟨Tryz.prog, tab, [], pl179, [], gh, [], [], []⟩ 9 ct179.f ct179.ps ct179.rs ct179.own x Φ := by kernel_rfl
theorem eq26 (x : TupD DD ct26.ps) (Φ : TupD DD ct26.rs → Prop) : ct26.W x Φ = topF ⟨Tryz.prog, tab, [], pl26, [], gh, [], [], []⟩ 9 ct26.f ct26.ps ct26.rs ct26.own x Φ := by kernel_rfl
theorem eqi164 (x : TupD DD it164.cs) (l : List (TupD DD it164.ts)) : it164.W x l = iterF ⟨Tryz.prog, tab, [ct83, ct165, ct166], pl164, [], gh, [], [], []⟩ it164.f it164.cs it164.ts x l := by kernel_rfl
theorem eq98 (x : TupD DD ct98.ps) (Φ : TupD DD ct98.rs → Prop) : ct98.W x Φ = topF ⟨Tryz.prog, tab, [ct83, ct152, ct165, ct180, ct181], pl98, [], gh, [], [], []⟩ 9 ct98.f ct98.ps ct98.rs ct98.own x Φ := by kernel_rfl
theorem eq57 (x : TupD DD ct57.ps) (Φ : TupD DD ct57.rs → Prop) : ct57.W x Φ = topF ⟨Tryz.prog, tab, [ct37, ct101, ct102, ct103], pl57, [], gh, [], [], []⟩ 9 ct57.f ct57.ps ct57.rs ct57.own x Φ := by kernel_rfl
theorem eq83 (x : TupD DD ct83.ps) (Φ : TupD DD ct83.rs → Prop) : ct83.W x Φ = topF ⟨Tryz.prog, tab, [ct144], pl83, [], gh, [], [], []⟩ 9 ct83.f ct83.ps ct83.rs ct83.own x Φ := by kernel_rfl
theorem eq85 (x : TupD DD ct85.ps) (Φ : TupD DD ct85.rs → Prop) : ct85.W x Φ = topF ⟨Tryz.prog, tab, [ct146], pl85, [], gh, [], [], []⟩ 9 ct85.f ct85.ps ct85.rs ct85.own x Φ := by kernel_rfl
theorem eq95 (x : TupD DD ct95.ps) (Φ : TupD DD ct95.rs → Prop) : ct95.W x Φ = topF ⟨Tryz.prog, tab, [ct85, ct150], pl95, [], gh, [], [], []⟩ 9 ct95.f ct95.ps ct95.rs ct95.own x Φ := by kernel_rfl
theorem eq114 (x : TupD DD ct114.ps) (Φ : TupD DD ct114.rs → Prop) : ct114.W x Φ = topF ⟨Tryz.prog, tab, [ct124], pl114, [], gh, [], [], []⟩ 9 ct114.f ct114.ps ct114.rs ct114.own x Φ := by kernel_rfl
theorem eq65 (x : TupD DD ct65.ps) (Φ : TupD DD ct65.rs → Prop) : ct65.W x Φ = topF ⟨Tryz.prog, tab, [ct124], pl65, [], gh, [], [], []⟩ 9 ct65.f ct65.ps ct65.rs ct65.own x Φ := by kernel_rfl
theorem eq8 (x : TupD DD ct8.ps) (Φ : TupD DD ct8.rs → Prop) : ct8.W x Φ = topF ⟨Tryz.prog, tab, [ct11, ct12, ct15, ct16, ct29, ct31], pl8, [], gh, [], [], []⟩ 9 ct8.f ct8.ps ct8.rs ct8.own x Φ := by kernel_rfl
theorem eq31 (x : TupD DD ct31.ps) (Φ : TupD DD ct31.rs → Prop) : ct31.W x Φ = topF ⟨Tryz.prog, tab, [ct16, ct70, ct71, ct72, ct73], pl31, [], gh, [], [], []⟩ 9 ct31.f ct31.ps ct31.rs ct31.own x Φ := by kernel_rfl
theorem eq70 (x : TupD DD ct70.ps) (Φ : TupD DD ct70.rs → Prop) : ct70.W x Φ = topF ⟨Tryz.prog, tab, [ct124], pl70, [], gh, [], [], []⟩ 9 ct70.f ct70.ps ct70.rs ct70.own x Φ := by kernel_rfl
theorem eq36 (x : TupD DD ct36.ps) (Φ : TupD DD ct36.rs → Prop) : ct36.W x Φ = topF ⟨Tryz.prog, tab, [ct73, ct84], pl36, [], gh, [], [], []⟩ 9 ct36.f ct36.ps ct36.rs ct36.own x Φ := by kernel_rfl
theorem eq46 (x : TupD DD ct46.ps) (Φ : TupD DD ct46.rs → Prop) : ct46.W x Φ = topF ⟨Tryz.prog, tab, [], pl46, [], gh, [], [], []⟩ 9 ct46.f ct46.ps ct46.rs ct46.own x Φ := by kernel_rfl
theorem eq49 (x : TupD DD ct49.ps) (Φ : TupD DD ct49.rs → Prop) : ct49.W x Φ = topF ⟨Tryz.prog, tab, [ct95, ct96], pl49, [], gh, [], [], []⟩ 9 ct49.f ct49.ps ct49.rs ct49.own x Φ := by kernel_rfl
theorem eq146 (x : TupD DD ct146.ps) (Φ : TupD DD ct146.rs → Prop) : ct146.W x Φ = topF ⟨Tryz.prog, tab, [], pl146, [], gh, [], [], []⟩ 9 ct146.f ct146.ps ct146.rs ct146.own x Φ := by kernel_rfl
theorem eq64 (x : TupD DD ct64.ps) (Φ : TupD DD ct64.rs → Prop) : ct64.W x Φ = topF ⟨Tryz.prog, tab, [ct124], pl64, [], gh, [], [], []⟩ 9 ct64.f ct64.ps ct64.rs ct64.own x Φ := by kernel_rfl
theorem eq13 (x : TupD DD ct13.ps) (Φ : TupD DD ct13.rs → Prop) : ct13.W x Φ = topF ⟨Tryz.prog, tab, [ct37, ct38, ct39, ct40, ct41], pl13, [], gh, [], [], [sk89]⟩ 9 ct13.f ct13.ps ct13.rs ct13.own x Φ := by kernel_rfl
theorem eq103 (x : TupD DD ct103.ps) (Φ : TupD DD ct103.rs → Prop) : ct103.W x Φ = topF ⟨Tryz.prog, tab, [ct37, ct49], pl103, [], gh, [], [], []⟩ 9 ct103.f ct103.ps ct103.rs ct103.own x Φ := by kernel_rfl
theorem eq96 (x : TupD DD ct96.ps) (Φ : TupD DD ct96.rs → Prop) : ct96.W x Φ = topF ⟨Tryz.prog, tab, [], pl96, [], gh, [], [], []⟩ 9 ct96.f ct96.ps ct96.rs ct96.own x Φ := by kernel_rfl
theorem eq37 (x : TupD DD ct37.ps) (Φ : TupD DD ct37.rs → Prop) : ct37.W x Φ = topF ⟨Tryz.prog, tab, [ct85, ct87], pl37, [], gh, [], [], []⟩ 9 ct37.f ct37.ps ct37.rs ct37.own x Φ := by kernel_rfl
theorem eq39 (x : TupD DD ct39.ps) (Φ : TupD DD ct39.rs → Prop) : ct39.W x Φ = topF ⟨Tryz.prog, tab, [ct88], pl39, [], gh, [], [], []⟩ 9 ct39.f ct39.ps ct39.rs ct39.own x Φ := by kernel_rfl
theorem eq144 (x : TupD DD ct144.ps) (Φ : TupD DD ct144.rs → Prop) : ct144.W x Φ = topF ⟨Tryz.prog, tab, [], pl144, [], gh, [], [], []⟩ 9 ct144.f ct144.ps ct144.rs ct144.own x Φ := by kernel_rfl
theorem eq38 (x : TupD DD ct38.ps) (Φ : TupD DD ct38.rs → Prop) : ct38.W x Φ = topF ⟨Tryz.prog, tab, [ct40], pl38, [], gh, [], [], []⟩ 9 ct38.f ct38.ps ct38.rs ct38.own x Φ := by kernel_rfl
theorem eq18 (x : TupD DD ct18.ps) (Φ : TupD DD ct18.rs → Prop) : ct18.W x Φ = topF ⟨Tryz.prog, tab, [ct16, ct37, ct41, ct49, ct97, ct98], pl18, [], gh, [], [([10, 0, 1, 11, 0, 1, 1, 1, 1, 1], 86002), ([10, 0, 4, 1, 1, 5, 4, 1, 0, 1, 1, 1, 1, 1, 1], 86002), ([10, 0, 11, 0, 0, 1, 1, 14, 0, 1, 12, 0, 1, 1, 1, 1, 1, 1, 1], 86002), ([11, 0, 0, 1, 1, 1, 1, 1, 1], 86002), ([13, 1, 1, 4, 1, 1, 5, 4, 1, 0, 1, 1, 1, 1, 1, 1], 86002), ([14, 1, 1, 4, 0, 1, 1, 5, 4, 1, 0, 1, 1, 11, 0, 1, 1, 1, 1, 1], 86002)], [sk89]⟩ 9 ct18.f ct18.ps ct18.rs ct18.own x Φ := by kernel_rfl
theorem eq12 (x : TupD DD ct12.ps) (Φ : TupD DD ct12.rs → Prop) : ct12.W x Φ = topF ⟨Tryz.prog, tab, [ct13, ct18, ct21, ct23, ct31, ct36], pl12, [], gh, [], [], []⟩ 9 ct12.f ct12.ps ct12.rs ct12.own x Φ := by kernel_rfl
theorem eq11 (x : TupD DD ct11.ps) (Φ : TupD DD ct11.rs → Prop) : ct11.W x Φ = topF ⟨Tryz.prog, tab, [ct26], pl11, [], gh, [], [], []⟩ 9 ct11.f ct11.ps ct11.rs ct11.own x Φ := by kernel_rfl
theorem eq16 (x : TupD DD ct16.ps) (Φ : TupD DD ct16.rs → Prop) : ct16.W x Φ = topF ⟨Tryz.prog, tab, [ct37, ct38, ct40, ct47], pl16, [], gh, [], [], []⟩ 9 ct16.f ct16.ps ct16.rs ct16.own x Φ := by kernel_rfl
theorem eq25 (x : TupD DD ct25.ps) (Φ : TupD DD ct25.rs → Prop) : ct25.W x Φ = topF ⟨Tryz.prog, tab, [ct60], pl25, [], gh, [], [], []⟩ 9 ct25.f ct25.ps ct25.rs ct25.own x Φ := by kernel_rfl
theorem eq88 (x : TupD DD ct88.ps) (Φ : TupD DD ct88.rs → Prop) : ct88.W x Φ = topF ⟨Tryz.prog, tab, [ct144], pl88, [], gh, [], [], []⟩ 9 ct88.f ct88.ps ct88.rs ct88.own x Φ := by kernel_rfl
theorem eq180 (x : TupD DD ct180.ps) (Φ : TupD DD ct180.rs → Prop) : ct180.W x Φ = topF ⟨Tryz.prog, tab, [], pl180, [], gh, [], [], []⟩ 9 ct180.f ct180.ps ct180.rs ct180.own x Φ := by kernel_rfl
theorem eq41 (x : TupD DD ct41.ps) (Φ : TupD DD ct41.rs → Prop) : ct41.W x Φ = topF ⟨Tryz.prog, tab, [], pl41, [], gh, [], [], []⟩ 9 ct41.f ct41.ps ct41.rs ct41.own x Φ := by kernel_rfl
theorem eq101 (x : TupD DD ct101.ps) (Φ : TupD DD ct101.rs → Prop) : ct101.W x Φ = topF ⟨Tryz.prog, tab, [], pl101, [], gh, [], [], []⟩ 9 ct101.f ct101.ps ct101.rs ct101.own x Φ := by kernel_rfl
theorem eq21 (x : TupD DD ct21.ps) (Φ : TupD DD ct21.rs → Prop) : ct21.W x Φ = topF ⟨Tryz.prog, tab, [ct16, ct39, ct40, ct41, ct57, ct97, ct98], pl21, [], gh, [], [], [sk89]⟩ 9 ct21.f ct21.ps ct21.rs ct21.own x Φ := by kernel_rfl
theorem eq29 (x : TupD DD ct29.ps) (Φ : TupD DD ct29.rs → Prop) : ct29.W x Φ = topF ⟨Tryz.prog, tab, [ct16, ct37, ct64, ct65, ct66], pl29, [], gh, [], [], []⟩ 9 ct29.f ct29.ps ct29.rs ct29.own x Φ := by kernel_rfl
theorem eq73 (x : TupD DD ct73.ps) (Φ : TupD DD ct73.rs → Prop) : ct73.W x Φ = topF ⟨Tryz.prog, tab, [], pl73, [it164], gh, [], [], []⟩ 9 ct73.f ct73.ps ct73.rs ct73.own x Φ := by kernel_rfl
theorem eq15 (x : TupD DD ct15.ps) (Φ : TupD DD ct15.rs → Prop) : ct15.W x Φ = topF ⟨Tryz.prog, tab, [ct25, ct46], pl15, [], gh, [], [], []⟩ 9 ct15.f ct15.ps ct15.rs ct15.own x Φ := by kernel_rfl
theorem eq23 (x : TupD DD ct23.ps) (Φ : TupD DD ct23.rs → Prop) : ct23.W x Φ = topF ⟨Tryz.prog, tab, [ct16, ct97], pl23, [], gh, [], [], []⟩ 9 ct23.f ct23.ps ct23.rs ct23.own x Φ := by kernel_rfl
theorem eq84 (x : TupD DD ct84.ps) (Φ : TupD DD ct84.rs → Prop) : ct84.W x Φ = topF ⟨Tryz.prog, tab, [], pl84, [], gh, [], [], []⟩ 9 ct84.f ct84.ps ct84.rs ct84.own x Φ := by kernel_rfl
theorem eq181 (x : TupD DD ct181.ps) (Φ : TupD DD ct181.rs → Prop) : ct181.W x Φ = topF ⟨Tryz.prog, tab, [], pl181, [], gh, [], [], []⟩ 9 ct181.f ct181.ps ct181.rs ct181.own x Φ := by kernel_rfl
theorem eq155 (x : TupD DD ct155.ps) (Φ : TupD DD ct155.rs → Prop) : ct155.W x Φ = topF ⟨Tryz.prog, tab, [ct101], pl155, [], gh, [], [], []⟩ 9 ct155.f ct155.ps ct155.rs ct155.own x Φ := by kernel_rfl
theorem eq66 (x : TupD DD ct66.ps) (Φ : TupD DD ct66.rs → Prop) : ct66.W x Φ = topF ⟨Tryz.prog, tab, [ct65, ct114, ct115, ct116], pl66, [], gh, [], [], []⟩ 9 ct66.f ct66.ps ct66.rs ct66.own x Φ := by kernel_rfl
theorem eq165 (x : TupD DD ct165.ps) (Φ : TupD DD ct165.rs → Prop) : ct165.W x Φ = topF ⟨Tryz.prog, tab, [], pl165, [], gh, [], [], []⟩ 9 ct165.f ct165.ps ct165.rs ct165.own x Φ := by kernel_rfl
theorem eq97 (x : TupD DD ct97.ps) (Φ : TupD DD ct97.rs → Prop) : ct97.W x Φ = topF ⟨Tryz.prog, tab, [ct151], pl97, [], gh, [], [], []⟩ 9 ct97.f ct97.ps ct97.rs ct97.own x Φ := by kernel_rfl
theorem eq40 (x : TupD DD ct40.ps) (Φ : TupD DD ct40.rs → Prop) : ct40.W x Φ = topF ⟨Tryz.prog, tab, [], pl40, [], gh, [], [], []⟩ 9 ct40.f ct40.ps ct40.rs ct40.own x Φ := by kernel_rfl
theorem eq152 (x : TupD DD ct152.ps) (Φ : TupD DD ct152.rs → Prop) : ct152.W x Φ = topF ⟨Tryz.prog, tab, [], pl152, [], gh, [], [], []⟩ 9 ct152.f ct152.ps ct152.rs ct152.own x Φ := by kernel_rfl
theorem eq72 (x : TupD DD ct72.ps) (Φ : TupD DD ct72.rs → Prop) : ct72.W x Φ = topF ⟨Tryz.prog, tab, [ct124], pl72, [], gh, [], [], []⟩ 9 ct72.f ct72.ps ct72.rs ct72.own x Φ := by kernel_rfl
theorem eq71 (x : TupD DD ct71.ps) (Φ : TupD DD ct71.rs → Prop) : ct71.W x Φ = topF ⟨Tryz.prog, tab, [ct124], pl71, [], gh, [], [], []⟩ 9 ct71.f ct71.ps ct71.rs ct71.own x Φ := by kernel_rfl
theorem eq115 (x : TupD DD ct115.ps) (Φ : TupD DD ct115.rs → Prop) : ct115.W x Φ = topF ⟨Tryz.prog, tab, [], pl115, [], gh, [], [], []⟩ 9 ct115.f ct115.ps ct115.rs ct115.own x Φ := by kernel_rfl
theorem eq116 (x : TupD DD ct116.ps) (Φ : TupD DD ct116.rs → Prop) : ct116.W x Φ = topF ⟨Tryz.prog, tab, [ct88, ct98], pl116, [], gh, [], [], []⟩ 9 ct116.f ct116.ps ct116.rs ct116.own x Φ := by kernel_rfl
theorem eq60 (x : TupD DD ct60.ps) (Φ : TupD DD ct60.rs → Prop) : ct60.W x Φ = topF ⟨Tryz.prog, tab, [], pl60, [], gh, [], [], []⟩ 9 ct60.f ct60.ps ct60.rs ct60.own x Φ := by kernel_rfl
theorem eq93 (x : TupD DD ct93.ps) (Φ : TupD DD ct93.rs → Prop) : ct93.W x Φ = topF ⟨Tryz.prog, tab, [ct83], pl93, [], gh, [], [], []⟩ 9 ct93.f ct93.ps ct93.rs ct93.own x Φ := by kernel_rfl
end Go.Proofs.YtgojhiknicmopaaGreatDoor
namespace Go.Proofs.YtgojhiknicmopaaGreatDoor
open Go
def rwd {α : Type} : Result α → World
  | .ok _ w => w
  | .halt _ w => w
theorem ask_up {α : Type} (a : Ask α) : ∀ w : World, w.drawn ≤ (w.ask a).2.drawn := by
  induction a with
  | done a => intro w; exact Nat.le_refl _
  | ask what range k ih =>
    intro w
    simp only [World.ask]
    split
    · exact ih _ _
    · exact Nat.le_trans (Nat.le_succ _) (ih _ { w with drawn := w.drawn + 1 })
theorem sys_up (w : World) (c : Sys) : w.drawn ≤ (w.sys c).2.drawn := by
  have h := ask_up (Kernel.perform c w.os) w
  unfold World.sys
  generalize w.ask (Kernel.perform c w.os) = r at h
  obtain ⟨⟨r, os⟩, w'⟩ := r
  cases r <;> first | exact h | exact Nat.le_refl _
theorem viewStore_up {p : Program} {w w' : World} {a k : Addr} {u : TypeId} {v : Value} {b : Bool} {l : List Addr} (h : w.viewStore p a u k v b = .ok (w', l)) : w'.drawn = w.drawn := by
  unfold World.viewStore at h
  simp only [bind, Except.bind, pure, Except.pure] at h
  (repeat' split at h) <;> first | contradiction | (simp only [Except.ok.injEq, Prod.mk.injEq] at h; obtain ⟨rfl, _⟩ := h; rfl)
theorem farStore_up {p : Program} {w w' : World} {a : Addr} {v : Value} {b : Bool} {l : List Addr} (h : w.farStore p a v b = .ok (w', l)) : w'.drawn = w.drawn := by
  unfold World.farStore at h
  split at h
  · split at h
    · rename_i r hr
      simp only [Except.ok.injEq] at h
      subst h
      exact viewStore_up hr
    · contradiction
  · contradiction
theorem freeze_drawn (w : World) (a : Addr) (n : Nat) : (w.freeze a n).drawn = w.drawn := by
  unfold World.freeze; split <;> rfl
theorem run_up {α : Type} (p : Program) (s : Sem α) : ∀ w : World, w.drawn ≤ (rwd (s.run p w)).drawn := by
  induction s with
  | pure a => intro w; exact Nat.le_refl _
  | load m a k ih =>
    intro w
    simp only [Sem.run]
    split
    · exact ih _ _
    · split
      · exact ih _ _
      · exact Nat.le_refl _
  | store m a v k ih =>
    intro w
    have hk : w.drawn ≤ (rwd (match w.cell? a with
      | some _ => if w.frozen? a then Result.halt (.unsupported (.unsafePointer "a write to bytes that a string shares")) w else k.run p (w.setCell a v)
      | none => match w.farStore p a v (m == .atomic) with
        | .ok (w, _) => k.run p w
        | .error h => .halt h w)).drawn := by
      split
      · split
        · exact Nat.le_refl _
        · exact ih (w.setCell a _)
      · split
        · rename_i hf
          exact Nat.le_trans (Nat.le_of_eq (farStore_up hf).symm) (ih _)
        · exact Nat.le_refl _
    cases v <;> simp only [Sem.run] <;> first | exact hk | exact Nat.le_refl _
  | new o k ih => intro w; exact ih _ { w with heap := w.heap.push o }
  | shape r k ih => intro w; exact ih _ _
  | freeze a n k ih => intro w; exact Nat.le_trans (Nat.le_of_eq (freeze_drawn w a n).symm) (ih (w.freeze a n))
  | frozen a k ih => intro w; exact ih _ _
  | getObj r k ih =>
    intro w
    simp only [Sem.run]
    split
    · exact Nat.le_refl _
    · exact ih _ _
    · exact Nat.le_refl _
  | setObj r o k ih =>
    intro w
    simp only [Sem.run]
    split
    · exact Nat.le_refl _
    · exact ih { w with heap := w.heap.setIfInBounds r o }
    · exact Nat.le_refl _
  | choose q k ih =>
    intro w
    simp only [Sem.run]
    split
    · exact ih _ _
    · exact Nat.le_trans (Nat.le_succ _) (ih _ { w with drawn := w.drawn + 1 })
  | sys c k ih => intro w; exact Nat.le_trans (sys_up w c) (ih _ _)
  | program k ih => intro w; exact ih _ _
  | mark m k ih => intro w; exact ih _
  | halt h => intro w; exact Nat.le_refl _
theorem run_ok {α : Type} {p : Program} {s : Sem α} {w w' : World} {a : α} (h : s.run p w = .ok a w') : w.drawn ≤ w'.drawn := by
  have := run_up p s w
  rw [h] at this
  exact this
theorem run_halt {α : Type} {p : Program} {s : Sem α} {w w' : World} {x : Halt} (h : s.run p w = .halt x w') : w.drawn ≤ w'.drawn := by
  have := run_up p s w
  rw [h] at this
  exact this
def gw : GStep → World
  | .go _ w _ => w
  | .comm _ _ _ _ w _ => w
  | .spawn _ _ w _ => w
  | .count _ w _ => w
  | .timer _ _ w _ => w
  | .alone _ _ w _ => w
  | .newcoro _ _ _ w _ => w
  | .coroswitch _ _ _ w _ => w
  | .collect _ w _ => w
  | .watch _ w _ => w
  | .ended _ w _ => w
theorem gw_after (es : Array Event) (s : GStep) : gw (s.after es) = gw s := by cases s <;> rfl
theorem gw_go (g : Goroutine) (w : World) (es : Array Event) : gw (.go g w es) = w := rfl
theorem gw_comm (g : Goroutine) (c : Array CommCase) (b : Bool) (s : CommShape) (w : World) (es : Array Event) : gw (.comm g c b s w es) = w := rfl
theorem gw_spawn (g c : Goroutine) (w : World) (es : Array Event) : gw (.spawn g c w es) = w := rfl
theorem gw_count (g : Goroutine) (w : World) (es : Array Event) : gw (.count g w es) = w := rfl
theorem gw_timer (g : Goroutine) (o : TimerOp) (w : World) (es : Array Event) : gw (.timer g o w es) = w := rfl
theorem gw_alone (g : Goroutine) (o : Bool) (w : World) (es : Array Event) : gw (.alone g o w es) = w := rfl
theorem gw_newcoro (g : Goroutine) (c : Nat) (d : Deferred) (w : World) (es : Array Event) : gw (.newcoro g c d w es) = w := rfl
theorem gw_coroswitch (g : Goroutine) (c : Nat) (x : Bool) (w : World) (es : Array Event) : gw (.coroswitch g c x w es) = w := rfl
theorem gw_collect (g : Goroutine) (w : World) (es : Array Event) : gw (.collect g w es) = w := rfl
theorem gw_watch (g : Goroutine) (w : World) (es : Array Event) : gw (.watch g w es) = w := rfl
theorem gw_ended (o : Outcome) (w : World) (es : Array Event) : gw (.ended o w es) = w := rfl
theorem endThrow_gw (fr : Frame) (m : String) (w : World) : gw (endThrow fr m w) = w := rfl
theorem endWith_up (w : World) (fd : Nat) (t : ByteArray) (o : Outcome) : w.drawn ≤ (gw (endWith w fd t o)).drawn := by
  have h := sys_up w (.write fd t)
  unfold endWith
  generalize w.sys (.write fd t) = r at h
  obtain ⟨r, w'⟩ := r
  cases r <;> simp only <;> (try split) <;> exact h
theorem endPrinting_gw (p : Program) (fr : Frame) (v : Value) (w : World) : gw (endPrinting p fr v w) = w := by
  unfold endPrinting
  simp only
  split <;> rfl
theorem endFatal_up (p : Program) (fr : Frame) (cs : List Frame) (d : Option Dying) (m : String) (w : World) : w.drawn ≤ (gw (endFatal p fr cs d m w)).drawn := by
  unfold endFatal
  extract_lets chain raw shown
  clear_value shown
  split <;> (repeat (first | rw [gw_after] | rw [gw_go] | rw [gw_comm] | rw [gw_spawn] | rw [gw_count] | rw [gw_timer] | rw [gw_alone] | rw [gw_newcoro] | rw [gw_coroswitch] | rw [gw_collect] | rw [gw_watch] | rw [gw_ended])) <;> (first | exact Nat.le_refl _ | exact run_ok (by assumption) | exact run_halt (by assumption))
theorem writeOn_up (p : Program) (fr : Frame) (d : Dying) (f : Fatal) (w : World) : w.drawn ≤ (gw (writeOn p fr d f w)).drawn := by
  unfold writeOn
  extract_lets on
  split
  · exact Nat.le_refl _
  · extract_lets write
    clear_value write
    simp only [Sem.runT_eq]
    split <;> rename_i h <;> simp only [Prod.mk.injEq] at h <;> (try simp only [on]) <;> (repeat (first | rw [gw_after] | rw [gw_go] | rw [gw_comm] | rw [gw_spawn] | rw [gw_count] | rw [gw_timer] | rw [gw_alone] | rw [gw_newcoro] | rw [gw_coroswitch] | rw [gw_collect] | rw [gw_watch] | rw [gw_ended])) <;> first | exact run_ok h.1 | exact run_halt h.1
theorem die_up (p : Program) (fr : Frame) (d : Dying) (w : World) : w.drawn ≤ (gw (die p fr d w)).drawn := by
  unfold die
  split
  · exact writeOn_up _ _ _ _ _
  · split
    · split
      · exact Nat.le_refl _
      · exact endWith_up _ _ _ _
    · simp only [Sem.runT_eq]
      (repeat' split) <;> (repeat (first | rw [gw_after] | rw [gw_go] | rw [gw_comm] | rw [gw_spawn] | rw [gw_count] | rw [gw_timer] | rw [gw_alone] | rw [gw_newcoro] | rw [gw_coroswitch] | rw [gw_collect] | rw [gw_watch] | rw [gw_ended])) <;> (try simp only [endPrinting_gw]) <;> (first | exact Nat.le_refl _ | exact run_ok (by assumption) | exact run_halt (by assumption))
theorem doReturn_gw (p : Program) (main : Bool) (fr : Frame) (cs : List Frame) (d : Option Dying) (v : Value) (w : World) : gw (doReturn p main fr cs d v w) = w := by
  unfold doReturn
  (repeat' split) <;> rfl
theorem callDeferred_up (p : Program) (fr : Frame) (cs : List Frame) (dy : Option Dying) (d : Deferred) (w : World) : w.drawn ≤ (gw (callDeferred p fr cs dy d w)).drawn := by
  unfold callDeferred
  simp only [Sem.runT_eq]
  (repeat' split) <;> (repeat (first | rw [gw_after] | rw [gw_go] | rw [gw_comm] | rw [gw_spawn] | rw [gw_count] | rw [gw_timer] | rw [gw_alone] | rw [gw_newcoro] | rw [gw_coroswitch] | rw [gw_collect] | rw [gw_watch] | rw [gw_ended])) <;> (try simp only [endThrow_gw]) <;> first | (first | exact Nat.le_refl _ | exact run_ok (by assumption) | exact run_halt (by assumption)) | exact Nat.le_trans (run_halt (by assumption)) (endFatal_up _ _ _ _ _ _)
theorem unwind_up (p : Program) (main : Bool) (fr : Frame) (cs : List Frame) (dy : Option Dying) (w : World) : w.drawn ≤ (gw (unwind p main fr cs dy w)).drawn := by
  unfold unwind
  simp only [Sem.runT_eq]
  (repeat' split) <;> (repeat (first | rw [gw_after] | rw [gw_go] | rw [gw_comm] | rw [gw_spawn] | rw [gw_count] | rw [gw_timer] | rw [gw_alone] | rw [gw_newcoro] | rw [gw_coroswitch] | rw [gw_collect] | rw [gw_watch] | rw [gw_ended])) <;> (try simp only [doReturn_gw, endPrinting_gw]) <;> first | (first | exact Nat.le_refl _ | exact run_ok (by assumption) | exact run_halt (by assumption)) | exact callDeferred_up _ _ _ _ _ _
theorem early_up (p : Program) (fr : Frame) (cs : List Frame) (dy : Option Dying) (g : Nat) (w : World) : w.drawn ≤ (gw (early p fr cs dy g w)).drawn := by
  unfold early
  extract_lets refuse notYet
  have hn : ∀ w', w.drawn ≤ w'.drawn → w.drawn ≤ (gw (notYet w')).drawn := fun w' h => by
    simp only [notYet]
    (repeat' split) <;> (repeat (first | rw [gw_after] | rw [gw_go] | rw [gw_comm] | rw [gw_spawn] | rw [gw_count] | rw [gw_timer] | rw [gw_alone] | rw [gw_newcoro] | rw [gw_coroswitch] | rw [gw_collect] | rw [gw_watch] | rw [gw_ended])) <;> exact h
  have hr : w.drawn ≤ (gw refuse).drawn := Nat.le_refl _
  clear_value refuse notYet
  (repeat' split) <;> (repeat (first | rw [gw_after] | rw [gw_go] | rw [gw_comm] | rw [gw_spawn] | rw [gw_count] | rw [gw_timer] | rw [gw_alone] | rw [gw_newcoro] | rw [gw_coroswitch] | rw [gw_collect] | rw [gw_watch] | rw [gw_ended])) <;> first | exact hr | exact hn _ (Nat.le_refl _) | exact hn _ (run_ok (by assumption)) | (first | exact Nat.le_refl _ | exact run_ok (by assumption) | exact run_halt (by assumption))
theorem apply_up (p : Program) (l : Bool) (fr : Frame) (cs : List Frame) (dy : Option Dying) (s : Sem Next) (w : World) : w.drawn ≤ (gw (stepG.apply p l fr cs dy s w)).drawn := by
  unfold stepG.apply
  have hs : (if l = true then s.runT p w #[] else (s.run p w, #[])).1 = s.run p w := by
    cases l <;> simp [Sem.runT_eq]
  generalize (if l = true then s.runT p w #[] else (s.run p w, #[])) = r at hs
  obtain ⟨r, es⟩ := r
  simp only at hs
  subst hs
  simp only [gw_after]
  (repeat' split) <;> (repeat (first | rw [gw_after] | rw [gw_go] | rw [gw_comm] | rw [gw_spawn] | rw [gw_count] | rw [gw_timer] | rw [gw_alone] | rw [gw_newcoro] | rw [gw_coroswitch] | rw [gw_collect] | rw [gw_watch] | rw [gw_ended])) <;> (try simp only [endThrow_gw]) <;> first | (first | exact Nat.le_refl _ | exact run_ok (by assumption) | exact run_halt (by assumption)) | exact Nat.le_trans (run_halt (by assumption)) (endFatal_up _ _ _ _ _ _) | exact Nat.le_trans (run_halt (by assumption)) (early_up _ _ _ _ _ _)
theorem oper_up (p : Program) (l : Bool) (fr : Frame) (cs : List Frame) (dy : Option Dying) (w : World) : w.drawn ≤ (gw (stepG.oper p l fr cs dy w)).drawn := by
  unfold stepG.oper
  (repeat' split) <;> (repeat (first | rw [gw_after] | rw [gw_go] | rw [gw_comm] | rw [gw_spawn] | rw [gw_count] | rw [gw_timer] | rw [gw_alone] | rw [gw_newcoro] | rw [gw_coroswitch] | rw [gw_collect] | rw [gw_watch] | rw [gw_ended])) <;> first | (first | exact Nat.le_refl _ | exact run_ok (by assumption) | exact run_halt (by assumption)) | exact apply_up _ _ _ _ _ _ _
theorem elim_up {α : Type} (d : Nat) (o : Option α) (x : GStep) (f : α → GStep) (hx : d ≤ (gw x).drawn) (hf : ∀ a, d ≤ (gw (f a)).drawn) : d ≤ (gw (o.elim x f)).drawn := by
  cases o
  · exact hx
  · exact hf _
theorem exec_up (p : Program) (main l : Bool) (fr : Frame) (cs : List Frame) (dy : Option Dying) (w : World) : w.drawn ≤ (gw (stepG.exec p main l fr cs dy w)).drawn := by
  unfold stepG.exec
  extract_lets go to lost leave
  have hgo : ∀ fr w', w.drawn ≤ w'.drawn → w.drawn ≤ (gw (go fr w')).drawn := fun _ _ h => h
  have hto : ∀ k, w.drawn ≤ (gw (to k)).drawn := fun _ => Nat.le_refl _
  have hlost : ∀ s, w.drawn ≤ (gw (lost s)).drawn := fun _ => Nat.le_refl _
  have hleave : ∀ j, w.drawn ≤ (gw (leave j)).drawn := fun j => by
    simp only [leave]
    clear_value go to lost leave
    split
    · split <;> first | exact hgo _ _ (Nat.le_refl _) | exact hlost _ | (split <;> first | exact hgo _ _ (Nat.le_refl _) | exact hlost _)
    · simp only [Sem.runT_eq, gw_after]
      split
      · rw [doReturn_gw]; (first | exact Nat.le_refl _ | exact run_ok (by assumption) | exact run_halt (by assumption))
      · (repeat (first | rw [gw_after] | rw [gw_go] | rw [gw_comm] | rw [gw_spawn] | rw [gw_count] | rw [gw_timer] | rw [gw_alone] | rw [gw_newcoro] | rw [gw_coroswitch] | rw [gw_collect] | rw [gw_watch] | rw [gw_ended])) <;> (first | exact Nat.le_refl _ | exact run_ok (by assumption) | exact run_halt (by assumption))
  clear_value go to lost leave
  simp only [Sem.runT_eq]
  split
  all_goals first
    | exact hleave _
    | exact hto _
    | exact hlost _
    | exact oper_up _ _ _ _ _ _
    | exact apply_up _ _ _ _ _ _ _
    | exact elim_up _ _ _ _ (hleave _) hto
    | exact elim_up _ _ _ _ (hlost _) fun _ => apply_up _ _ _ _ _ _ _
    | ((repeat' split) <;> (repeat (first | rw [gw_after] | rw [gw_go] | rw [gw_comm] | rw [gw_spawn] | rw [gw_count] | rw [gw_timer] | rw [gw_alone] | rw [gw_newcoro] | rw [gw_coroswitch] | rw [gw_collect] | rw [gw_watch] | rw [gw_ended])) <;> (repeat' split) <;> (repeat (first | rw [gw_after] | rw [gw_go] | rw [gw_comm] | rw [gw_spawn] | rw [gw_count] | rw [gw_timer] | rw [gw_alone] | rw [gw_newcoro] | rw [gw_coroswitch] | rw [gw_collect] | rw [gw_watch] | rw [gw_ended])) <;> first
        | exact hleave _
        | exact hto _
        | exact hlost _
        | (first | exact Nat.le_refl _ | exact run_ok (by assumption) | exact run_halt (by assumption))
        | exact oper_up _ _ _ _ _ _
        | exact hgo _ _ (Nat.le_refl _)
        | exact hgo _ _ (run_ok (by assumption))
        | exact hgo _ _ (run_halt (by assumption))
        | exact Nat.le_trans (run_ok (by assumption)) (apply_up _ _ _ _ _ _ _))
theorem stepG_up (p : Program) (main : Bool) (g : Goroutine) (w : World) (l : Bool) : w.drawn ≤ (gw (stepG p main g w l)).drawn := by
  unfold stepG
  obtain ⟨fr, cs, st, dy, of⟩ := g
  simp only
  split
  · exact die_up _ _ _ _
  · exact exec_up _ _ _ _ _ _ _
  · exact unwind_up _ _ _ _ _ _
def upS (d : Nat) : Stepped → Prop
  | .next m => d ≤ m.world.drawn
  | .ended _ _ => True
theorem upS_next {d : Nat} {m : Machine} (h : d ≤ m.world.drawn) : upS d (.next m) := h
theorem upS_ended {d : Nat} {o : Outcome} {w : World} : upS d (.ended o w) := trivial
theorem upS_le {d d' : Nat} {s : Stepped} (h : d ≤ d') (hs : upS d' s) : upS d s := by
  cases s with
  | next m => exact Nat.le_trans h hs
  | ended o w => trivial
theorem look_up (p : Program) (gs : Array Goroutine) (rest : Rest) (w : World) : upS w.drawn (look p gs rest w) := by
  unfold look
  split
  · split
    extract_lets set
    split
    split
    · exact upS_ended
    · split
      · exact upS_ended
      · extract_lets pick
        clear_value pick
        split
        · rename_i h
          exact upS_next (run_ok h : w.drawn ≤ _)
        · exact upS_ended
        · exact upS_ended
  · exact upS_ended
theorem waitingAt_drawn {rest : Rest} {cs : Array CommCase} {w w' : World} (h : waitingAt rest cs w = some w') : w'.drawn = w.drawn := by
  unfold waitingAt at h
  split at h
  · split at h
    · simp only [Option.some.injEq] at h; subst h; rfl
    · contradiction
  · simp only [Option.some.injEq] at h; subst h; rfl
theorem communicate_up (p : Program) (rest : Rest) (gs : Array Goroutine) (i : Nat) (g : Goroutine) (cs : Array CommCase) (b : Bool) (s : CommShape) (w : World) :
    upS w.drawn (communicate p rest gs i g cs b s w).1 := by
  unfold communicate
  extract_lets put illMade me other ready pick
  have hput : ∀ g gs w' ops, w.drawn ≤ w'.drawn → upS w.drawn (put g gs w' ops).1 := fun _ _ _ _ h => h
  clear_value put illMade me other ready pick
  split
  · exact upS_ended
  · split
    · split
      · split
        · rename_i h
          exact upS_next (Nat.le_of_eq (waitingAt_drawn h).symm)
        · exact upS_ended
      · exact hput _ _ _ _ (Nat.le_refl _)
    · split
      · exact upS_ended
      · rename_i h1
        have hl := run_ok h1
        clear h1
        simp only
        (repeat' split) <;> first
          | exact upS_ended
          | exact hput _ _ _ _ hl
          | (refine hput _ _ _ _ (Nat.le_trans hl ?_); (try dsimp only); exact run_ok (by assumption))
          | (refine hput _ _ _ _ (Nat.le_trans hl ?_); (try dsimp only); exact run_halt (by assumption))
theorem drain_drawn (w : World) (c : Nat) : (drain w c).2.drawn = w.drawn := by
  unfold drain
  split <;> rfl
theorem retime_drawn (m : Machine) (k : Nat) (t : Timer) (a b : Nat) : (retime m k t a b).2.world.drawn = m.world.drawn := by
  unfold retime
  cases t.chan with
  | none => rfl
  | some c => exact drain_drawn m.world c
theorem timerOp_drawn {m m' : Machine} {op : TimerOp} {v : Value} (h : timerOp m op = .ok (v, m')) : m'.world.drawn = m.world.drawn := by
  have hn : ∀ (n : Machine) var f, (∀ k t, (f k t).2.world.drawn = n.world.drawn) → timerOp.named m var f = .ok (v, m') → m'.world.drawn = n.world.drawn := fun n var f hf h => by
    unfold timerOp.named at h
    split at h
    · simp only [Except.ok.injEq] at h
      rw [← hf, h]
    · contradiction
  unfold timerOp at h
  split at h
  · split at h
    · simp only [Except.ok.injEq, Prod.mk.injEq] at h
      obtain ⟨_, rfl⟩ := h
      rfl
    · split at h
      · split at h
        · contradiction
        · simp only [Except.ok.injEq, Prod.mk.injEq] at h
          obtain ⟨_, rfl⟩ := h
          rfl
      · contradiction
  · exact hn m _ _ (fun k t => retime_drawn _ _ _ _ _) h
  · split at h
    · rename_i m2 ho
      have h2 := hn m2 _ _ (fun k t => retime_drawn _ _ _ _ _) h
      rw [h2]
      unfold timerOp.opened at ho
      (repeat' split at ho) <;> first | contradiction | (simp only [Option.some.injEq] at ho; subst ho; rfl)
    · contradiction
  · simp only [Except.ok.injEq, Prod.mk.injEq] at h
    obtain ⟨_, rfl⟩ := h
    rfl
theorem serve_up (p : Program) (m : Machine) (k : Nat) : upS m.world.drawn (serve p m k) := by
  unfold serve
  split
  · exact upS_ended
  · exact upS_next (Nat.le_refl _)
  · simp only
    split
    · exact upS_ended
    · exact upS_next (Nat.le_refl _)
def upM (d : Nat) : Move → Prop
  | .goroutine m _ => d ≤ m.world.drawn
  | .machine s _ => upS d s
theorem upM_go {d : Nat} {m : Machine} {i : Nat} (h : d ≤ m.world.drawn) : upM d (.goroutine m i) := h
theorem upM_st {d : Nat} {s : Stepped} {o : Array MemOp} (h : upS d s) : upM d (.machine s o) := h
theorem askOn_up (p : Program) (m : Machine) : upM m.world.drawn (askOn p m) := by
  unfold askOn
  extract_lets mono rs ds pick
  have hp : ∀ m' : Machine, upM m'.world.drawn (pick m') := fun m' => by
    simp only [pick]
    split
    · exact upM_st upS_ended
    · rename_i h1
      have h1 := run_ok h1
      split
      · exact upM_go h1
      · split
        · exact upM_st upS_ended
        · rename_i h2
          exact upM_go (Nat.le_trans h1 (run_ok h2))
  have hp' : ∀ m' : Machine, m.world.drawn ≤ m'.world.drawn → upM m.world.drawn (pick m') := fun m' h => by
    have := hp m'
    generalize pick m' = r at this
    cases r with
    | goroutine m i => exact Nat.le_trans h this
    | machine s o => exact upS_le h this
  clear_value pick
  clear hp
  clear_value rs ds mono
  split
  · exact upM_st upS_ended
  · rename_i h1
    have hl := run_ok h1
    clear h1
    simp only
    split
    · exact upM_st (upS_le hl (serve_up _ _ _))
    · split
      · split
        · exact upM_st (upS_next hl)
        · split
          · exact upM_st (upS_next hl)
          · split
            · exact upM_st upS_ended
            · exact upM_st upS_ended
      · split
        · exact hp' _ hl
        · split
          · exact upM_st upS_ended
          · rename_i h2
            have h2 := run_ok h2
            exact hp' _ (Nat.le_trans hl h2)
          · rename_i h2
            have h2 := run_ok h2
            exact upM_st (upS_next (Nat.le_trans hl h2))
          · rename_i h2
            have h2 := run_ok h2
            exact hp' _ (Nat.le_trans hl h2)
theorem upM_le {d d' : Nat} {s : Move} (h : d ≤ d') (hs : upM d' s) : upM d s := by
  cases s with
  | goroutine m i => exact Nat.le_trans h hs
  | machine s o => exact upS_le h hs
theorem ask_upM (p : Program) (m : Machine) : upM m.world.drawn (ask p m) := by
  unfold ask
  split
  · split
    · exact upM_st upS_ended
    · rename_i h1
      have h1 := run_ok h1
      split
      · rename_i w' _ _ m' h2
        have h3 := look_up p m.gs m.rest w'
        rw [h2] at h3
        exact upM_le (Nat.le_trans h1 h3) (askOn_up _ _)
      · rename_i w' _ _ _
        exact upM_st (upS_le h1 (look_up _ _ _ _))
    · rename_i h1
      have h1 := run_ok h1
      exact upM_le h1 (askOn_up _ _)
  · exact askOn_up _ _
theorem move_up (p : Program) (m : Machine) : upM m.world.drawn (move p m) := by
  unfold move
  split
  · split
    · exact upM_go (Nat.le_refl _)
    · exact upM_st upS_ended
  · split
    · split
      · exact upM_go (Nat.le_refl _)
      · exact ask_upM _ _
    · exact ask_upM _ _
theorem runT_up (p : Program) (m : Machine) (i : Nat) (l : Bool) : upS m.world.drawn (runT p m i l).1 := by
  unfold runT
  extract_lets rest world
  split
  extract_lets wake fn pos s ops done
  have hs : m.world.drawn ≤ (gw s).drawn := stepG_up _ _ _ _ _
  clear_value s
  cases s <;> simp only [done] <;> simp only [gw] at hs
  case ended => exact upS_ended
  case comm => exact upS_le hs (communicate_up _ _ _ _ _ _ _ _ _)
  case go => exact upS_next hs
  case spawn => exact upS_next hs
  case count =>
    split
    · exact upS_ended
    · exact upS_next hs
  case alone => exact upS_next hs
  case collect => exact upS_le hs (look_up _ _ _ _)
  case watch => exact upS_next hs
  case newcoro => exact upS_next hs
  case coroswitch =>
    split
    · exact upS_next hs
    · split
      · rename_i g w es he
        have h := congrArg gw he
        rw [endThrow_gw] at h
        simp only [gw] at h
        exact upS_next (h ▸ hs)
      · exact upS_ended
    · exact upS_ended
  case timer =>
    split
    · rename_i ht
      exact upS_next (Nat.le_trans hs (Nat.le_of_eq (timerOp_drawn ht).symm))
    · split
      · rename_i g w es he
        have h := congrArg gw he
        rw [endThrow_gw] at h
        simp only [gw] at h
        exact upS_next (h ▸ hs)
      · exact upS_ended
    · exact upS_ended
    · exact upS_ended
theorem step_up (p : Program) (m : Machine) : upS m.world.drawn (step p m) := by
  unfold step stepT
  have h := move_up p m
  generalize move p m = r at h
  cases r with
  | goroutine m' i => exact upS_le h (runT_up _ _ _ _)
  | machine s o => exact h
theorem step_le {P : Program} {m m' : Machine} (h : step P m = .next m') : m.world.drawn ≤ m'.world.drawn := by
  have h1 := step_up P m
  rw [h] at h1
  exact h1
theorem steps_up {P : Program} {m m' : Machine} (h : Steps P m m') : m.world.drawn ≤ m'.world.drawn := by
  have h2 := StepsIn.of_steps h
  clear h
  induction h2 with
  | refl => exact Nat.le_refl _
  | head _ hs _ ih => exact Nat.le_trans (step_le hs) ih
theorem Calls.grows {P : Program} {f : FuncId} {args : Array Value} {w : World} {R : Ending → World → Prop} (h : Calls P f args w R) (ho : ∀ w', ¬ R .outgrown w') :
    Calls P f args w fun e w' => R e w' ∧ w.drawn ≤ w'.drawn := fun cs => by
  obtain ⟨e, w', fr, hR, hc, hf, hl⟩ := h cs
  refine ⟨e, w', fr, ⟨hR, ?_⟩, hc, hf, hl⟩
  cases e with
  | returned v => exact steps_up hc
  | panicked c => exact steps_up hc
  | outgrown => exact absurd hR (ho w')
end Go.Proofs.YtgojhiknicmopaaGreatDoor
