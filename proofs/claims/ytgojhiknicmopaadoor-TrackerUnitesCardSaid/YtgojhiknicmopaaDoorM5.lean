/- Part 5 of the proof of the statement TrackerUnitesCardSaid: lemmas. No condition of its own. -/
import Derived.SevenTiedAt
import Derived.Test.YtgojhiknicmopaaDoorRows
import Derived.Test.YtgojhiknicmopaaDoorTie
import Derived.Test.YtgojhiknicmopaaDoorCards
import Derived.Test.YtgojhiknicmopaaDoorProg
import Derived.CallsIn
import Derived.Shelf.SlIterI.Sorted
import Derived.Shelf.SortM.Plain
import Derived.Shelf.SortM.SortNone
import Derived.Ground.GgzProg
import Derived.Ground.SlgmProg
import Derived.Test.YtgojhiknicmopaaDoorM4
namespace Go.Proofs.YtgojhiknicmopaaDoor
open Go.RowKit
section
section
variable {F : Fence} {n : Nat} {P : Program} {ops : Array Oper} {Q : Exit → Act → World → Prop}
theorem wpList_cons1 {Q1 : Exit → Act → World → Prop} {o : Oper} {l : List Oper} {a : Act} {w : World} (h : wpListIn F n P ops Q1 [o] a w) (hK : ∀ a w, Q1 .normal a w → wpListIn F n P ops Q l a w) (hp : ∀ c a w, ¬ Q1 (.panic c) a w) (hl : ¬ LetsOut Q1) : wpListIn F n P ops Q (o :: l) a w := by
  unfold wpListIn at h ⊢
  split at h
  · rename_i hw
    rw [if_pos hw]
    refine ⟨h.1, ?_⟩
    have h2 := h.2
    generalize (o.semAt F.round a.eval).run P w = res at h2
    cases res with
    | ok nx w' =>
      cases nx with
      | value v => exact hK _ _ h2
      | skip => exact hK _ _ h2
      | defer d => exact hK _ _ h2
      | enter f args =>
        refine ⟨h2.1, h2.2.mono fun e w'' he => ?_⟩
        cases e with
        | returned v => exact hK _ _ he
        | panicked chain => exact absurd he (hp _ _ _)
        | outgrown => exact absurd he hl
      | row row args => exact ⟨h2.1, h2.2.mono fun v w'' he => hK _ _ he⟩
      | round l f tmps assign body =>
        refine ⟨h2.1, h2.2.mono fun e w'' he => ?_⟩
        cases e with
        | returned v => exact hK _ _ he
        | panicked chain => exact absurd he (hp _ _ _)
        | outgrown => exact absurd he hl
      | _ => exact h2
    | halt x w' =>
      cases x with
      | panic v => exact absurd h2 (hp _ _ _)
      | _ => exact h2
  · rename_i hw
    rw [if_neg hw]
    exact ⟨h.1, hK _ _ h.2⟩
end
theorem RW.cons1 {r : Option Nat} {md : Nat} {P : Program} {N : Nat} {ops : Array Oper} {o : Oper} {l : List Oper} {Q : Exit → List Deferred → (Nat → Value) → World → Prop} {Dd : List Deferred} {σ : Nat → Value} {w : World}
    (h : RW r md P N ops [o] (fun e D' σ' w' => e = .normal ∧ RW r md P N ops l Q D' σ' w') Dd σ w) : RW r md P N ops (o :: l) Q Dd σ w := by
  intro a ha
  refine wpList_cons1 (h a ha) (fun a' w' hq => ?_) (fun c a' w' hq => ?_) (fun hq => ?_)
  · obtain ⟨D', σ', h1, _, h2⟩ := hq
    exact h2 a' h1
  · obtain ⟨_, _, _, hn, _⟩ := hq
    cases hn
  · obtain ⟨_, _, _, _, _, hn, _⟩ := hq
    cases hn
def Yl {α : Type} (l : List α) (K : α → List α → Prop) : Prop := match l with
  | [] => False
  | x :: r => K x r
section
variable {D : Nat → Type} [∀ t, Dt (D t)]
def yieldE (st : St D) (op : Op) : Option (List Operand) := match op with
  | .call ⟨.value g, xs, _⟩ => match evO st.sl g with
    | some (.kp 0) => some xs.toList
    | _ => none
  | _ => none
omit [∀ t, Dt (D t)] in
theorem yieldE_ok {st : St D} {op : Op} {xs : List Operand} (h : yieldE st op = some xs) : ∃ g ys tys, op = .call ⟨.value g, ys, tys⟩ ∧ evO st.sl g = some (.kp 0) ∧ xs = ys.toList := by
  unfold yieldE at h
  split at h
  · split at h
    · rename_i hg
      cases h
      exact ⟨_, _, _, rfl, hg, rfl⟩
    · cases h
  · cases h
def memI (P : Program) (tb : Tb D) (st : St D) (fr : List (Nat × Blk D)) (op : Op) : Option (SV D × St D) := match op with
  | .alloc T => match alE P st.nx T with
    | some (_, v, ef) => some (v, st.eff ef)
    | none => none
  | .box T _ => match opVals st fr op with
    | some [a] => match bxE st.nx T a with
      | some (_, v, ef) => some (v, st.eff ef)
      | none => none
    | _ => none
  | .store T _ _ => match opVals st fr op with
    | some [.ptr id off, b] => match stE P tb (gtB st.bk) T (.ptr id off) b with
      | some (_, v, ef) => some (v, st.eff ef)
      | none => none
    | _ => none
  | _ => none
def isMemI : Op → Bool
  | .alloc _ => true
  | .box _ _ => true
  | .store _ _ _ => true
  | _ => false
def yOp (E : Env D) (fr : List (Nat × Blk D)) (ts : List Nat) (o : Oper) (sp : Bool) (st : St D) (rest : List (TupD D ts)) (K : Bool → St D → List (TupD D ts) → Prop) : Prop := match yieldE st o.op with
  | some xs => match sp with
    | true => False
    | false => Yl rest fun x r => match mapO (fun x => (evO st.sl x).map fun v => rsD (st.lk fr) (resD st.kn v)) xs with
      | some vs => match argsC E.P ts vs with
        | some ls => match ofTup E.tb ts ls with
          | some a => a = x ∧ K false ((⟨st.sl, [], st.kn, st.nx⟩ : St D).put o.dst (.k true)) r ∧ K true ((⟨st.sl, [], st.kn, st.nx⟩ : St D).put o.dst (.k false)) (x :: r)
          | none => False
        | none => False
      | none => False
  | none => match isMemI o.op with
    | true => match memI E.P E.tb st fr o.op with
      | some (v, st') => K sp (st'.put o.dst v) rest
      | none => False
    | false => stepD E fr o st fun v e _ _ => cdP e False (K sp (st.put o.dst v) rest)
def yFl (E : Env D) (fr : List (Nat × Blk D)) (ts : List Nat) (q : Bool) (o : Oper) (sp : Bool) (st : St D) (rest : List (TupD D ts)) (K : Bool → St D → List (TupD D ts) → Prop) : Prop := match q with
  | true => match quietE E fr o st with
    | some v => K sp (st.put o.dst v) rest
    | none => False
  | false => yOp E fr ts o sp st rest K
def runYF (E : Env D) (N : Nat) (fr : List (Nat × Blk D)) (ts : List Nat) (ops : Array Oper) (fl : List Nat) : List Nat → Bool → St D → List (TupD D ts) → (Bool → St D → List (TupD D ts) → Prop) → Prop
  | [], sp, st, rest, K => K sp st rest
  | i :: g, sp, st, rest, K => match ops[i]? with
    | none => False
    | some o => cdP (dstOk o.dst N) (match gdE ops st o.guard with
      | .yes => yFl E fr ts (fl.any (Nat.beq i)) o sp st rest fun sp' st' rest' => runYF E N fr ts ops fl g sp' st' rest' K
      | .no => runYF E N fr ts ops fl g sp (st.put o.dst (.c undef)) rest K
      | .ask t v want => askF v
          (cdP want (yFl E fr ts (fl.any (Nat.beq i)) o sp (st.know (.tmp t) true) rest fun sp' st' rest' => runYF E N fr ts ops fl g sp' st' rest' K) (runYF E N fr ts ops fl g sp ((st.know (.tmp t) true).put o.dst (.c undef)) rest K))
          (cdP want (runYF E N fr ts ops fl g sp ((st.know (.tmp t) false).put o.dst (.c undef)) rest K) (yFl E fr ts (fl.any (Nat.beq i)) o sp (st.know (.tmp t) false) rest fun sp' st' rest' => runYF E N fr ts ops fl g sp' st' rest' K))
      | .bad => False) False
def runY (E : Env D) (N : Nat) (fr : List (Nat × Blk D)) (ts : List Nat) (ops : Array Oper) : List Oper → Bool → St D → List (TupD D ts) → (Bool → St D → List (TupD D ts) → Prop) → Prop
  | [], sp, st, rest, K => K sp st rest
  | o :: l, sp, st, rest, K => cdP (dstOk o.dst N) (match gdE ops st o.guard with
    | .yes => yOp E fr ts o sp st rest fun sp' st' rest' => runY E N fr ts ops l sp' st' rest' K
    | .no => runY E N fr ts ops l sp (st.put o.dst (.c undef)) rest K
    | .ask t v want => askF v
        (cdP want (yOp E fr ts o sp (st.know (.tmp t) true) rest fun sp' st' rest' => runY E N fr ts ops l sp' st' rest' K) (runY E N fr ts ops l sp ((st.know (.tmp t) true).put o.dst (.c undef)) rest K))
        (cdP want (runY E N fr ts ops l sp ((st.know (.tmp t) false).put o.dst (.c undef)) rest K) (yOp E fr ts o sp (st.know (.tmp t) false) rest fun sp' st' rest' => runY E N fr ts ops l sp' st' rest' K))
    | .bad => False) False
def runI (E : Env D) (N : Nat) (fr : List (Nat × Blk D)) (ts : List Nat) : Code → List Nat → Bool → St D → List (TupD D ts) → (Exit → Bool → St D → List (TupD D ts) → Prop) → Prop
  | .skip, _, sp, st, rest, K => K .normal sp st rest
  | .ret, _, sp, st, rest, K => K .ret sp st rest
  | .exit id, _, sp, st, rest, K => K (.exit id) sp st rest
  | .region _ ops dr, pos, sp, st, rest, K => match dr with
    | false => runY E N fr ts ops ops.toList sp st rest (K .normal)
    | true => match findP pos E.plan with
      | some pe => match pe.tp.rw with
        | 0 :: 0 :: g => cdP (Region.noSelect ops && (Nat.beq g.length ops.size && flB ops (pe.tp.sl.map (·.1)) g (Array.replicate ops.size false))) (runYF E N fr ts ops (pe.tp.sl.map (·.1)) g sp st rest (K .normal)) False
        | _ => False
      | none => False
  | .cond c a b, pos, sp, st, rest, K => match (evO st.sl c).map (res st.kn) with
    | some (.k true) => runI E N fr ts a (2 :: pos) sp st rest K
    | some (.k false) => runI E N fr ts b (3 :: pos) sp st rest K
    | some s => askF s (runI E N fr ts a (2 :: pos) sp (st.know c true) rest K) (runI E N fr ts b (3 :: pos) sp (st.know c false) rest K)
    | none => False
  | .block id c, pos, sp, st, rest, K => runI E N fr ts c (4 :: pos) sp st rest fun e sp' st' rest' => match e with
    | .exit id' => cdP (Nat.beq id' id) (K .normal sp' st' rest') (K (.exit id') sp' st' rest')
    | e => K e sp' st' rest'
  | .seq a b, pos, sp, st, rest, K => runI E N fr ts a (0 :: pos) sp st rest fun e sp' st' rest' => match e with
    | .normal => runI E N fr ts b (1 :: pos) sp' st' rest' K
    | e => K e sp' st' rest'
  | .loop c, pos, sp, st, rest, K => match sp, findP pos E.plan with
    | false, some pe => match fillE pe.tp st.tag.nx st.tag fr with
      | some s0 => LoopW (fun (q : List (TupD D ts) × TupV D pe.tp.vts) rec => match makeE pe.tp st.tag.nx st.tag.kn q.2 with
        | some st2 => match st2.bk with
          | [] => runI E N fr ts c (5 :: pos) false st2 q.1 fun e sp' st' rest' => match e with
            | .normal => match sp' with
              | false => match fillE pe.tp st.tag.nx st' fr with
                | some s' => rec (rest', s')
                | none => False
              | true => False
            | e => K e sp' st' rest'
          | _ :: _ => False
        | none => False) (rest, s0)
      | none => False
    | _, _ => False
  | _, _, _, _, _, _ => False
def JS {α : Type} (J Jx : Nat → World → Prop) (all : List α) (sp : Bool) (rest : List α) (w : World) : Prop := match sp with
  | false => ∃ k, k ≤ all.length ∧ J k w ∧ rest = all.drop k
  | true => ∃ k, k < all.length ∧ Jx k w
theorem JS.below {α : Type} {J Jx : Nat → World → Prop} (hJ : ∀ k A B, J k A → Below A.heap.size A B → J k B) (hJx : ∀ k A B, Jx k A → Below A.heap.size A B → Jx k B) {all rest : List α} {sp : Bool} {w w' : World} (h : JS J Jx all sp rest w) (hb : Below w.heap.size w w') : JS J Jx all sp rest w' := by
  cases sp with
  | false => obtain ⟨k, h0, h1, h2⟩ := h; exact ⟨k, h0, hJ _ _ _ h1 hb, h2⟩
  | true => obtain ⟨k, h1, h2⟩ := h; exact ⟨k, h1, hJx _ _ _ h2 hb⟩
variable {E : Env D} {N : Nat} {fr : List (Nat × Blk D)} {ts : List Nat} {H : Hp} {lp : Nat} {J Jx : Nat → World → Prop} {all : List (TupD D ts)}
def IS (J Jx : Nat → World → Prop) (all : List (TupD D ts)) (fr : List (Nat × Blk D)) (H : Hp) (ρ : RM) (sp : Bool) (rest : List (TupD D ts)) (st : St D) (σ : Nat → Value) (w : World) : Prop := ∃ wy L, Sat fr [] wy H [] H ρ L st σ w ∧ JS J Jx all sp rest wy
theorem IS.ag {ρ : RM} {sp : Bool} {rest : List (TupD D ts)} {st : St D} {σ : Nat → Value} {w : World} (h : IS J Jx all fr H ρ sp rest st σ w) : AgH H w := by
  obtain ⟨wy, L, hs, _⟩ := h
  exact hs.mem.agree
theorem IS.put {ρ : RM} {sp : Bool} {rest : List (TupD D ts)} {st : St D} {σ : Nat → Value} {w : World} (h : IS J Jx all fr H ρ sp rest st σ w) {x : Value} {v : SV D} (hv : Rv H ρ x v) (d : Option Nat) : IS J Jx all fr H ρ sp rest (st.put d v) (upd σ d x) w := by
  obtain ⟨wy, L, hs, hj⟩ := h
  exact ⟨wy, L, hs.put hv d, hj⟩
theorem IS.know {ρ : RM} {sp : Bool} {rest : List (TupD D ts)} {st : St D} {σ : Nat → Value} {w : World} (h : IS J Jx all fr H ρ sp rest st σ w) {c : Operand} {b : Bool} (hc : ev σ c = .bool b) : IS J Jx all fr H ρ sp rest (st.know c b) σ w := by
  obtain ⟨wy, L, hs, hj⟩ := h
  exact ⟨wy, L, hs.know hc, hj⟩
theorem IS.res {ρ : RM} {sp : Bool} {rest : List (TupD D ts)} {st : St D} {σ : Nat → Value} {w : World} (h : IS J Jx all fr H ρ sp rest st σ w) {x : Value} {v : SV D} (hv : Rv H ρ x v) : Rv H ρ x (Go.Proofs.YtgojhiknicmopaaDoor.res st.kn v) := by
  obtain ⟨wy, L, hs, _⟩ := h
  exact hs.res hv
theorem IS.slr {ρ : RM} {sp : Bool} {rest : List (TupD D ts)} {st : St D} {σ : Nat → Value} {w : World} (h : IS J Jx all fr H ρ sp rest st σ w) : SlR H ρ st.sl σ := by
  obtain ⟨wy, L, hs, _⟩ := h
  exact hs.sl
def YOk (P : Program) (ts : List Nat) (H : Hp) (lp : Nat) (J Jx : Nat → World → Prop) (all : List (TupD D ts)) : Prop := ∀ k A0 vs, k < all.length → (∃ y, all[k]? = some y ∧ ArgsR P H ts y vs) → J k A0 → (∀ b o, H b = some o → A0.heap[b]? = some o) → Yield P lp vs A0 fun v B => (∀ b o, H b = some o → B.heap[b]? = some o) ∧ ((v = .bool true ∧ J (k + 1) B) ∨ (v = .bool false ∧ Jx k B))
def GoesI (fr : List (Nat × Blk D)) (H : Hp) (J Jx : Nat → World → Prop) (all : List (TupD D ts)) (ρ : RM) (K : Bool → St D → List (TupD D ts) → Prop) (T : (Nat → Value) → World → Prop) : Prop := ∀ sp' st' rest' σ' w' ρ', K sp' st' rest' → RM.le ρ ρ' → IS J Jx all fr H ρ' sp' rest' st' σ' w' → T σ' w'
theorem GoesI.mono {ρ ρ' : RM} {K : Bool → St D → List (TupD D ts) → Prop} {T : (Nat → Value) → World → Prop} (h : GoesI fr H J Jx all ρ K T) (hρ : RM.le ρ ρ') : GoesI fr H J Jx all ρ' K T := fun sp st rest σ w ρ2 hk h1 hs => h sp st rest σ w ρ2 hk (hρ.trans h1) hs
theorem memI_ok {P : Program} {tb : Tb D} {σ : Nat → Value} {ty : TypeId} {w w0 : World} {H0 : Hp} {ρ : RM} {R L F : List Ent} {st st' : St D} (hs : Sat fr F w0 H0 R H ρ L st σ w) {op : Op} {v : SV D} (h : memI P tb st fr op = some (v, st')) : Dn P σ op ty w fun x w' => ∃ ρ' L', RM.le ρ ρ' ∧ Sat fr F w0 H0 R H ρ' L' st' σ w' ∧ Rv H ρ' x v := by
  unfold memI at h
  split at h
  · rename_i T
    split at h
    · rename_i gs v' ef ha
      cases h
      unfold alE at ha
      split at ha
      · rename_i l hl
        cases ha
        obtain ⟨z, hz, hc⟩ := zcE_ok hl
        intro r md N ops l2 Q Dd d pos af gd hg hd k
        refine RW.alloc hs.mem hz z.cells.toList (by simp) hg hd fun b w' hM => k _ _ ?_
        obtain ⟨a1, a2⟩ := hs.new (q := .b b) (b := .box T l) (Hp.le.refl _) ⟨b, _, RM.put_same _ _ _, rfl, hc _ _⟩ hM
        exact ⟨_, _, a1, a2, b, RM.put_same _ _ _, rfl⟩
      · cases ha
    · cases h
  · rename_i T x
    split at h
    · rename_i a hvs
      split at h
      · rename_i gs v' ef ha
        cases h
        unfold bxE at ha
        obtain ⟨ho, ha⟩ := cif ha
        cases ha
        obtain ⟨y, e, h1⟩ := rv1 (opVals_ok hs hvs)
        cases e
        obtain ⟨us, g1, g2⟩ := cellsV_ok ho h1
        intro r md N ops l2 Q Dd d pos af gd hg hd k
        refine RW.box hs.mem _ us rfl g1 hg hd fun b w' hM => k _ _ ?_
        obtain ⟨a1, a2⟩ := hs.new (q := .b b) (b := .box T (cellsV a)) (Hp.le.refl _) ⟨b, us, RM.put_same _ _ _, rfl, g2.mono (Hp.le.refl _) (hs.fresh _)⟩ hM
        exact ⟨_, _, a1, a2, b, RM.put_same _ _ _, rfl⟩
      · cases h
    · cases h
  · rename_i T x y
    split at h
    · rename_i id off b hvs
      split at h
      · rename_i gs v' ef ha
        cases h
        obtain ⟨x', y', e, h1, h2⟩ := rv2 (opVals_ok hs hvs)
        cases e
        unfold stE at ha
        obtain ⟨ho, ha⟩ := cif ha
        rw [Bool.and_eq_true] at ho
        obtain ⟨ho, hsz⟩ := ho
        obtain ⟨us, g1, g2⟩ := cellsV_ok ho h2
        have hlen := RvL.length g2
        have hsz : ∃ i, P.info? T = some i ∧ i.size = us.length := by rw [hlen]; exact size_of hsz
        have h1c : ∀ u ∈ us, u.oneCell' = true := oneL_ok ho g2
        obtain ⟨bl, e1, e2⟩ := h1
        intro r md N ops l2 Q Dd d pos af gd hg hd k
        simp only at ha
        split at ha
        · rename_i T' cs hl
          obtain ⟨hle, ha⟩ := cif ha
          cases ha
          obtain ⟨L1, S, L2, ⟨b', vs, f1, rfl, f3⟩, hM, hK⟩ := hs.write hl
          rw [e1] at f1; cases f1
          refine RW.store hM L1.length _ us _ hsz e2 rfl g1 h1c (get_at _ _ _) (by rw [hlen, RvL.length f3]; exact Nat.le_of_ble_eq_true hle) rfl _ (set_at _ _ _ _) hg hd fun w' hM' => k _ _ ?_
          exact ⟨ρ, _, RM.le.refl _, hK (Hp.le.refl _) (RM.le.refl _) ⟨bl, _, e1, rfl, setC_ok f3 g2⟩ hM' hs.nx, rfl⟩
        · cases ha
      · cases h
    · cases h
  · cases h
theorem yOp_ok (hE : E.Ok) (hG : E.G H) (hJ : ∀ k A B, J k A → Below A.heap.size A B → J k B) (hY : YOk E.P ts H lp J Jx all) {r : Option Nat} {md : Nat} {ops : Array Oper} {Q : Exit → List Deferred → (Nat → Value) → World → Prop} {Dd : List Deferred} {K : Bool → St D → List (TupD D ts) → Prop} {ρ : RM} (h0 : ρ 0 = some (.v (.func (.yield lp) #[] #[]))) {o : Oper} {l : List Oper} {sp : Bool} {st : St D} {rest : List (TupD D ts)} {σ : Nat → Value} {w : World} (hs : IS J Jx all fr H ρ sp rest st σ w) (h : yOp E fr ts o sp st rest K) (hgd : gdOk ops σ o.guard = true) (hd : dstOk o.dst N = true)
    (hk : GoesI fr H J Jx all ρ K fun σ' w' => RW r md E.P N ops l Q Dd σ' w') : RW r md E.P N ops (o :: l) Q Dd σ w := by
  obtain ⟨wy, L, hs, hj⟩ := hs
  unfold yOp at h
  split at h
  · rename_i xs hy
    split at h
    · exact h.elim
    · cases rest with
      | nil => exact h.elim
      | cons x rr =>
      simp only [Yl] at h
      obtain ⟨k, _, hJk, hrest⟩ := hj
      have hkl : k < all.length := by
        rcases Nat.lt_or_ge k all.length with h1 | h1
        · exact h1
        · rw [List.drop_eq_nil_of_le h1] at hrest; cases hrest
      rw [List.drop_eq_getElem_cons hkl] at hrest
      obtain ⟨rfl, rfl⟩ := List.cons.inj hrest
      split at h
      · rename_i vs hvs
        split at h
        · rename_i ls hls
          split at h
          · rename_i a ha
            obtain ⟨hax, hT, hF⟩ := h
            have hA := argsC_ok hE.tb ts (opVals_ok hs hvs) hls ha
            rw [hax] at hA
            obtain ⟨d, op, ty, ps, af, gd⟩ := o
            obtain ⟨g, ys, tys, hop, hg, rfl⟩ := yieldE_ok (op := op) hy
            subst hop
            have hgv : ρ 0 = some (.v (ev σ g)) := evO_ok hs.sl hg
            rw [h0] at hgv
            have hgv : ev σ g = .func (.yield lp) #[] #[] := by
              have := Option.some.inj hgv
              injection this with this
              exact this.symm
            have fresh : ∀ {w' : World}, (∀ b o, H b = some o → w'.heap[b]? = some o) → Sat fr [] w' H [] H ρ [] (⟨st.sl, [], st.kn, st.nx⟩ : St D) σ w' := fun hag => ⟨Mem.start hag, hs.sl, rfl, hs.fr, hs.kn, hs.nx⟩
            refine RW.yield hgv rfl (hY k w _ hkl ⟨_, List.getElem?_eq_getElem hkl, hA⟩ (hJ _ _ _ hJk hs.mem.below) hs.mem.agree) hgd hd fun v w' ⟨hag, hv⟩ => ?_
            rcases hv with ⟨rfl, hv⟩ | ⟨rfl, hv⟩
            · exact hk _ _ _ _ _ _ hT (RM.le.refl _) ⟨w', [], (fresh hag).put (v := .k true) rfl d, (show JS J Jx all false _ _ from ⟨k + 1, hkl, hv, rfl⟩)⟩
            · exact hk _ _ _ _ _ _ hF (RM.le.refl _) ⟨w', [], (fresh hag).put (v := .k false) rfl d, (show JS J Jx all true _ _ from ⟨k, hkl, hv⟩)⟩
          · exact h.elim
        · exact h.elim
      · exact h.elim
  · split at h
    · split at h
      · rename_i v st' hm
        obtain ⟨d, op, ty, ps, af, gd⟩ := o
        refine memI_ok (ty := ty) hs hm hgd hd fun x w' ⟨ρ', L', a1, a2, a3⟩ => ?_
        exact hk _ _ _ _ _ _ h a1 ⟨wy, L', a2.put a3 d, hj⟩
      · exact h.elim
    · obtain ⟨v, e, nb, hi, h1, h2⟩ := stepD_ok (ops := ops) hE h
      cases e with
      | true => exact h1.elim
      | false =>
        rcases h2 [] none with ⟨_, _, hq⟩ | ⟨hq, _⟩
        · refine RW.cons1 (hq hG (show Sat fr [] wy H [] H ρ L ⟨st.sl, st.bk, st.kn, st.nx⟩ σ w from hs) hgd hd fun x w' hm hx => RW.nil ⟨rfl, ?_⟩)
          have hM := hm _ hs.mem
          exact hk _ _ _ _ _ _ h1 (RM.le.refl _) ⟨wy, L, (⟨hM, hs.sl, hs.bk, hs.fr, hs.kn, hs.nx⟩ : Sat fr [] wy H [] H ρ L st σ w').put hx o.dst, hj⟩
        · cases hq
theorem runY_ok (hE : E.Ok) (hG : E.G H) (hJ : ∀ k A B, J k A → Below A.heap.size A B → J k B) (hY : YOk E.P ts H lp J Jx all) {r : Option Nat} {md : Nat} {ops : Array Oper} {Q : Exit → List Deferred → (Nat → Value) → World → Prop} {Dd : List Deferred} {K : Bool → St D → List (TupD D ts) → Prop} : ∀ {l : List Oper} {ρ : RM} {sp : Bool} {st : St D} {rest : List (TupD D ts)} {σ : Nat → Value} {w : World}, ρ 0 = some (.v (.func (.yield lp) #[] #[])) → IS J Jx all fr H ρ sp rest st σ w → runY E N fr ts ops l sp st rest K → (GoesI fr H J Jx all ρ K fun σ' w' => Q .normal Dd σ' w') → RW r md E.P N ops l Q Dd σ w
  | [], ρ, sp, st, rest, σ, w, h0, hs, h, hk => RW.nil (hk _ _ _ _ _ _ h (RM.le.refl _) hs)
  | o :: l, ρ, sp, st, rest, σ, w, h0, hs, h, hk => by
    unfold runY at h
    obtain ⟨hd, h⟩ := cifP h
    have step : ∀ {st : St D}, IS J Jx all fr H ρ sp rest st σ w → gdOk ops σ o.guard = true → (yOp E fr ts o sp st rest fun sp' st' rest' => runY E N fr ts ops l sp' st' rest' K) → RW r md E.P N ops (o :: l) Q Dd σ w := fun hs hgt h => yOp_ok hE hG hJ hY h0 hs h hgt hd fun sp' st' rest' σ' w' ρ' h1 h2 h3 => runY_ok hE hG hJ hY (h2 _ _ h0) h3 h1 (hk.mono h2)
    have pass : ∀ {st : St D}, IS J Jx all fr H ρ sp rest st σ w → gdOk ops σ o.guard = false → runY E N fr ts ops l sp (st.put o.dst (.c undef)) rest K → RW r md E.P N ops (o :: l) Q Dd σ w := fun hs hgf h => by
      obtain ⟨d, op, ty, ps, af, gd⟩ := o
      exact RW.pass hgf hd (runY_ok hE hG hJ hY h0 (hs.put (v := .c undef) rfl d) h hk)
    have gok : ∀ {j want d} {x : Bool}, o.guard = some (j, want) → (ops[j]?).bind (·.dst) = some d → σ d = .bool x → gdOk ops σ o.guard = (x == want) := fun h1 h2 h3 => by
      unfold gdOk
      rw [h1]
      simp only [h2, h3]
    unfold gdE at h
    cases hgd : o.guard with
    | none =>
      simp only [hgd] at h
      exact step hs (by rw [hgd]; rfl) h
    | some jw =>
      obtain ⟨j, want⟩ := jw
      simp only [hgd] at h
      cases hj' : (ops[j]?).bind (·.dst) with
      | none =>
        simp only [hj'] at h
        refine pass hs ?_ h
        unfold gdOk
        rw [hgd]
        simp only [hj']
      | some d =>
        simp only [hj'] at h
        cases hsl : (getS st.sl d).map (Go.Proofs.YtgojhiknicmopaaDoor.res st.kn) with
        | none => simp only [hsl] at h
        | some s =>
          obtain ⟨v0, hv0, hv1⟩ := Option.map_eq_some_iff.1 hsl
          have hv2 := hs.res (hs.slr _ _ hv0)
          rw [hv1] at hv2
          simp only [hsl] at h
          have ask : ∀ {v : SV D}, Rv H ρ (σ d) v → askF v (cdP want (yOp E fr ts o sp (st.know (.tmp d) true) rest fun sp' st' rest' => runY E N fr ts ops l sp' st' rest' K) (runY E N fr ts ops l sp ((st.know (.tmp d) true).put o.dst (.c undef)) rest K))
              (cdP want (runY E N fr ts ops l sp ((st.know (.tmp d) false).put o.dst (.c undef)) rest K) (yOp E fr ts o sp (st.know (.tmp d) false) rest fun sp' st' rest' => runY E N fr ts ops l sp' st' rest' K)) → RW r md E.P N ops (o :: l) Q Dd σ w := fun hv h => by
            rcases askF_ok hv h with ⟨e, h⟩ | ⟨e, h⟩
            · have hk := hs.know (c := .tmp d) (b := true) e
              have hgg := gok hgd hj' e
              cases want with
              | true => exact step hk hgg h
              | false => exact pass hk hgg h
            · have hk := hs.know (c := .tmp d) (b := false) e
              have hgg := gok hgd hj' e
              cases want with
              | true => exact pass hk hgg h
              | false => exact step hk hgg h
          cases s with
          | k b =>
            simp only at h
            have hgg := gok hgd hj' (show σ d = .bool b from hv2)
            cases hb : b == want with
            | true => rw [hb] at h; exact step hs (hgg.trans hb) h
            | false => rw [hb] at h; exact pass hs (hgg.trans hb) h
          | c v =>
            simp only at h
            cases hb : isBoolV v with
            | true => rw [hb] at h; exact h.elim
            | false =>
              rw [hb] at h
              refine pass hs ?_ h
              unfold gdOk
              rw [hgd]
              simp only [hj', show σ d = v from hv2]
              cases v <;> first | rfl | cases hb
          | b x => exact ask hv2 h
          | p p i => exact ask hv2 h
          | _ => exact h.elim
theorem runYF_ok (hE : E.Ok) (hG : E.G H) (hJ : ∀ k A B, J k A → Below A.heap.size A B → J k B) (hY : YOk E.P ts H lp J Jx all) {md : Nat} {ops : Array Oper} {fl : List Nat} {Dd : List Deferred} {K : Bool → St D → List (TupD D ts) → Prop} {Q : Exit → Act → World → Prop} (hQ : ∀ c a w, ¬ Q (.panic c) a w) (hsel : Region.noSelect ops = true) : ∀ {g : List Nat} {ls : Array Bool} {ρ : RM} {sp : Bool} {st : St D} {rest : List (TupD D ts)} {σ : Nat → Value} {w : World} {a : Act},
    ρ 0 = some (.v (.func (.yield lp) #[] #[])) → Rep N Dd σ a → IS J Jx all fr H ρ sp rest st σ w → runYF E N fr ts ops fl g sp st rest K → flB ops fl g ls = true → (GoesI fr H J Jx all ρ K fun σ' w' => ∀ a', Rep N Dd σ' a' → Q .normal a' w') → wpAnyG (FR none) md E.P ops Q (AgH H) g.length ls a w
  | [], ls, ρ, sp, st, rest, σ, w, a, h0, ha, hs, h, hf, k => ⟨List.isEmpty_iff.1 hf, k _ _ _ _ _ _ h (RM.le.refl _) hs a ha⟩
  | i :: g, ls, ρ, sp, st, rest, σ, w, a, h0, ha, hs, h, hf, k => by
    unfold runYF at h
    unfold flB at hf
    rw [Bool.and_eq_true, Bool.and_eq_true] at hf
    obtain ⟨⟨hr, hfr⟩, hf⟩ := hf
    have hr : i ∈ Region.ready .any ops ls := by simpa using hr
    cases ho : ops[i]? with
    | none => simp only [ho] at h
    | some o =>
      simp only [ho] at h
      obtain ⟨hd, h⟩ := cifP h
      have ag : AgH H w := hs.ag
      have hwt : Region.wanted o (yielded ops a.tmps) = gdOk ops σ o.guard := wanted_of ha
      have more : ∀ {st' : St D} {sp' : Bool} {rest' : List (TupD D ts)} {σ' : Nat → Value} {w' : World} {ρ' : RM} {a' : Act}, Rep N Dd σ' a' → runYF E N fr ts ops fl g sp' st' rest' K → RM.le ρ ρ' → IS J Jx all fr H ρ' sp' rest' st' σ' w' → wpAnyG (FR none) md E.P ops Q (AgH H) g.length (ls.setIfInBounds i true) a' w' := fun h1 h2 h3 h4 => runYF_ok hE hG hJ hY hQ hsel (h3 _ _ h0) h1 h4 h2 hf (k.mono h3)
      have quiet : fl.any (Nat.beq i) = true → isQuiet o = true := fun hq => by
        rw [hq, cond_true, ho, Bool.and_eq_true] at hfr
        exact hfr.1
      have first : ∀ {v : Value}, fl.any (Nat.beq i) = true → YG (AgH H) E.P ops o v a → wpAnyG (FR none) md E.P ops Q (AgH H) g.length (ls.setIfInBounds i true) (a.put o.dst v) w → wpAnyG (FR none) md E.P ops Q (AgH H) (g.length + 1) ls a w := fun hq hy hw => by
        rw [hq, cond_true, Bool.and_eq_true] at hfr
        exact wpAnyG_first rfl ho (Region.noSelect_spec hsel) (fun c a w hc => absurd hc (hQ _ _ _)) g.length ls a w ag (Region.free_spec ho hfr.2) hr hy hw
      have only : fl.any (Nat.beq i) = false → wpOpIn (FR none) md E.P ops Q i (fun a' w' => AgH H w' ∧ wpAnyG (FR none) md E.P ops Q (AgH H) g.length (ls.setIfInBounds i true) a' w') a w → wpAnyG (FR none) md E.P ops Q (AgH H) (g.length + 1) ls a w := fun hq hw => by
        rw [hq, cond_false] at hfr
        have e : Region.ready .any ops ls = [i] := eqL_ok hfr
        refine ⟨fun h => (by rw [e] at h; cases h), fun j hj => ?_⟩
        rw [e, List.mem_singleton] at hj
        subst hj; exact hw
      have noAbout : ∀ f, o.about E.P w a.eval = some f → (FR none).fn f := fun f _ => FR_fn _ f
      have pass : ∀ {st : St D}, IS J Jx all fr H ρ sp rest st σ w → gdOk ops σ o.guard = false → runYF E N fr ts ops fl g sp (st.put o.dst (.c undef)) rest K → wpAnyG (FR none) md E.P ops Q (AgH H) (g.length + 1) ls a w := fun hs hg h => by
        have hw := more (ha.put hd undef) h (RM.le.refl _) (hs.put (v := .c undef) rfl o.dst)
        cases hq : fl.any (Nat.beq i) with
        | false =>
          refine only hq ?_
          unfold wpOpIn
          rw [ho]
          simp only
          rw [hwt, hg]
          exact ⟨noAbout, ag, hw⟩
        | true => exact first hq ⟨.inr ⟨hwt.trans hg, rfl⟩, fun w => isQuiet_about (quiet hq) a w⟩ hw
      have step : ∀ {st : St D}, IS J Jx all fr H ρ sp rest st σ w → gdOk ops σ o.guard = true → yFl E fr ts (fl.any (Nat.beq i)) o sp st rest (fun sp' st' rest' => runYF E N fr ts ops fl g sp' st' rest' K) → wpAnyG (FR none) md E.P ops Q (AgH H) (g.length + 1) ls a w := fun {st} hs hg h => by
        unfold yFl at h
        cases hq : fl.any (Nat.beq i) with
        | true =>
          rw [hq] at h
          simp only at h
          split at h
          · rename_i v hv
            have hs0 := hs
            obtain ⟨wy, L, hs, hj⟩ := hs
            obtain ⟨⟨x, h1, h2⟩, h3⟩ := quietE_ok hs hv
            refine first hq ⟨.inl ⟨hwt.trans hg, fun w' hw' => ?_⟩, fun w => h3 a w⟩ (more (ha.put hd x) h (RM.le.refl _) (hs0.put h1 o.dst))
            rw [ha.eval]
            exact h2 w' hw' _ _ _ _
          · exact h.elim
        | false =>
          rw [hq] at h
          simp only at h
          refine only hq ?_
          let Q1 : Exit → List Deferred → (Nat → Value) → World → Prop := fun e D' σ' w' => match e with
            | .normal => D' = Dd ∧ AgH H w' ∧ ∀ a', Rep N Dd σ' a' → wpAnyG (FR none) md E.P ops Q (AgH H) g.length (ls.setIfInBounds i true) a' w'
            | _ => False
          have h1 : RW none md E.P N ops [o] Q1 Dd σ w := yOp_ok hE hG hJ hY h0 hs h hg hd fun sp' st' rest' σ' w' ρ' g1 g2 g3 => RW.nil ⟨rfl, g3.ag, fun a' ha' => more ha' g1 g2 g3⟩
          have h2 := h1 a ha
          unfold wpListIn at h2
          unfold wpOpIn
          rw [ho]
          simp only
          rw [hwt, hg] at h2 ⊢
          simp only [if_true] at h2 ⊢
          refine Oper.wpIn_QK (fun a' w' hk => ?_) (fun e a' w' hne hk => ?_) h2
          · obtain ⟨D', σ', g1, g2, g3, g4⟩ := (show lift N Q1 .normal a' w' from hk)
            subst g2
            exact ⟨g3, g4 a' g1⟩
          · obtain ⟨D', σ', g1, g2⟩ := hk
            cases e with
            | normal => exact absurd rfl hne
            | _ => exact g2.elim
      have gok : ∀ {j want d} {x : Bool}, o.guard = some (j, want) → (ops[j]?).bind (·.dst) = some d → σ d = .bool x → gdOk ops σ o.guard = (x == want) := fun h1 h2 h3 => by
        unfold gdOk
        rw [h1]
        simp only [h2, h3]
      unfold gdE at h
      cases hgd : o.guard with
      | none =>
        simp only [hgd] at h
        exact step hs (by rw [hgd]; rfl) h
      | some jw =>
        obtain ⟨j, want⟩ := jw
        simp only [hgd] at h
        cases hj : (ops[j]?).bind (·.dst) with
        | none =>
          simp only [hj] at h
          refine pass hs ?_ h
          unfold gdOk
          rw [hgd]
          simp only [hj]
        | some d =>
          simp only [hj] at h
          cases hsl : (getS st.sl d).map (Go.Proofs.YtgojhiknicmopaaDoor.res st.kn) with
          | none => simp only [hsl] at h
          | some s =>
            obtain ⟨v0, hv0, hv1⟩ := Option.map_eq_some_iff.1 hsl
            have hv2 := hs.res (hs.slr _ _ hv0)
            rw [hv1] at hv2
            simp only [hsl] at h
            have ask : ∀ {v : SV D}, Rv H ρ (σ d) v → askF v (cdP want (yFl E fr ts (fl.any (Nat.beq i)) o sp (st.know (.tmp d) true) rest (fun sp' st' rest' => runYF E N fr ts ops fl g sp' st' rest' K)) (runYF E N fr ts ops fl g sp ((st.know (.tmp d) true).put o.dst (.c undef)) rest K))
                (cdP want (runYF E N fr ts ops fl g sp ((st.know (.tmp d) false).put o.dst (.c undef)) rest K) (yFl E fr ts (fl.any (Nat.beq i)) o sp (st.know (.tmp d) false) rest (fun sp' st' rest' => runYF E N fr ts ops fl g sp' st' rest' K))) → wpAnyG (FR none) md E.P ops Q (AgH H) (g.length + 1) ls a w := fun hv h => by
              rcases askF_ok hv h with ⟨e, h⟩ | ⟨e, h⟩
              · have hk := hs.know (c := .tmp d) (b := true) e
                have hgg := gok hgd hj e
                cases want with
                | true => exact step hk hgg h
                | false => exact pass hk hgg h
              · have hk := hs.know (c := .tmp d) (b := false) e
                have hgg := gok hgd hj e
                cases want with
                | true => exact pass hk hgg h
                | false => exact step hk hgg h
            cases s with
            | k b =>
              simp only at h
              have hgg := gok hgd hj (show σ d = .bool b from hv2)
              cases hb : b == want with
              | true => rw [hb] at h; exact step hs (hgg.trans hb) h
              | false => rw [hb] at h; exact pass hs (hgg.trans hb) h
            | c v =>
              simp only at h
              cases hb : isBoolV v with
              | true => rw [hb] at h; exact h.elim
              | false =>
                rw [hb] at h
                refine pass hs ?_ h
                unfold gdOk
                rw [hgd]
                simp only [hj, show σ d = v from hv2]
                cases v <;> first | rfl | cases hb
            | b x => exact ask hv2 h
            | p p i => exact ask hv2 h
            | _ => exact h.elim
theorem runI_ok (hE : E.Ok) (hG : E.G H) (hJ : ∀ k A B, J k A → Below A.heap.size A B → J k B) (hY : YOk E.P ts H lp J Jx all) : ∀ (c : Code) {pos : List Nat} {sp : Bool} {st : St D} {rest : List (TupD D ts)} {σ : Nat → Value} {w : World} {ρ : RM} {K : Exit → Bool → St D → List (TupD D ts) → Prop} {Q : Exit → List Deferred → (Nat → Value) → World → Prop} {md : Nat},
    ρ 0 = some (.v (.func (.yield lp) #[] #[])) → IS J Jx all fr H ρ sp rest st σ w → runI E N fr ts c pos sp st rest K → (∀ e, GoesI fr H J Jx all ρ (K e) fun σ' w' => Q e [] σ' w') → CW none md E.P N c Q [] σ w := by
  intro c
  induction c with
  | skip => intro pos sp st rest σ w ρ K Q md h0 hs h hk; exact CW.skip (hk _ _ _ _ _ _ _ h (RM.le.refl _) hs)
  | ret => intro pos sp st rest σ w ρ K Q md h0 hs h hk; exact CW.ret (hk _ _ _ _ _ _ _ h (RM.le.refl _) hs)
  | exit id => intro pos sp st rest σ w ρ K Q md h0 hs h hk; exact CW.exit (hk _ _ _ _ _ _ _ h (RM.le.refl _) hs)
  | region id ops draw =>
    intro pos sp st rest σ w ρ K Q md h0 hs h hk
    unfold runI at h
    cases draw with
    | false =>
      obtain ⟨l⟩ := ops
      exact CW.region (runY_ok hE hG hJ hY h0 hs h (hk .normal))
    | true =>
      simp only at h
      split at h
      · rename_i pe hpe
        split at h
        · rename_i g hrw
          intro a ha
          obtain ⟨hc, h⟩ := cifP h
          rw [Bool.and_eq_true, Bool.and_eq_true] at hc
          obtain ⟨hc1, hc2, hc3⟩ := hc
          let Q1 : Exit → Act → World → Prop := fun e a w => match e with
            | .normal => lift N Q .normal a w
            | _ => False
          have hs' : IS J Jx all fr H ρ sp rest st σ { w with drawn := w.drawn + 1 } := by
            obtain ⟨wy, L, hs, hj⟩ := hs
            exact ⟨wy, L, ⟨hs.mem.drew, hs.sl, hs.bk, hs.fr, hs.kn, hs.nx⟩, hj⟩
          have h1 := runYF_ok (Q := Q1) (md := md) (Dd := []) hE hG hJ hY (fun _ _ _ hq => hq) hc1 h0 ha hs' h hc3 fun sp' st' rest' σ' w' ρ' g1 g2 g3 a' ha' => ⟨[], σ', ha', hk _ _ _ _ _ _ _ g1 g2 g3⟩
          rw [Nat.eq_of_beq_eq_true hc2] at h1
          refine wpIn_mono (wpIn_region_any hE.mo h1.any) fun e a' w' hq => ?_
          cases e with
          | normal => exact hq
          | _ => exact hq.elim
        · exact h.elim
      · exact h.elim
  | cond c a b iha ihb =>
    intro pos sp st rest σ w ρ K Q md h0 hs h hk
    unfold runI at h
    cases hc : (evO st.sl c).map (Go.Proofs.YtgojhiknicmopaaDoor.res st.kn) with
    | none => simp only [hc] at h
    | some s =>
      obtain ⟨v0, hv0, hv1⟩ := Option.map_eq_some_iff.1 hc
      have hv2 := hs.res (evO_ok hs.slr hv0)
      rw [hv1] at hv2
      simp only [hc] at h
      have ask : askF s (runI E N fr ts a (2 :: pos) sp (st.know c true) rest K) (runI E N fr ts b (3 :: pos) sp (st.know c false) rest K) → CW none md E.P N (.cond c a b) Q [] σ w := fun h => by
        rcases askF_ok hv2 h with ⟨e, h⟩ | ⟨e, h⟩
        · exact CW.cond_true e (iha h0 (hs.know e) h hk)
        · exact CW.cond_false e (ihb h0 (hs.know e) h hk)
      cases s with
      | k x =>
        cases x with
        | true => exact CW.cond_true hv2 (iha h0 hs h hk)
        | false => exact CW.cond_false hv2 (ihb h0 hs h hk)
      | _ => exact ask h
  | block id c ih =>
    intro pos sp st rest σ w ρ K Q md h0 hs h hk
    refine CW.block (ih h0 hs h fun e => ?_)
    intro sp' st' rest' σ' w' ρ' h1 h2 h3
    cases e with
    | exit id' =>
      show bif Nat.beq id' id then Q .normal [] σ' w' else Q (.exit id') [] σ' w'
      have h1 : cdP (Nat.beq id' id) (K .normal sp' st' rest') (K (.exit id') sp' st' rest') := h1
      cases hb : Nat.beq id' id with
      | true => rw [hb] at h1; exact hk _ _ _ _ _ _ _ h1 h2 h3
      | false => rw [hb] at h1; exact hk _ _ _ _ _ _ _ h1 h2 h3
    | _ => exact hk _ _ _ _ _ _ _ h1 h2 h3
  | seq a b iha ihb =>
    intro pos sp st rest σ w ρ K Q md h0 hs h hk
    unfold runI at h
    refine CW.seq (iha h0 hs h fun e => ?_)
    intro sp' st' rest' σ' w' ρ' h1 h2 h3
    cases e with
    | normal => exact ihb (h2 _ _ h0) h3 h1 fun e => (hk e).mono h2
    | _ => exact hk _ _ _ _ _ _ _ h1 h2 h3
  | loop c ih =>
    intro pos sp st rest σ w ρ K Q md h0 hs h hk
    unfold runI at h
    split at h
    · rename_i pe hpe
      obtain ⟨wy, L, hs, hj⟩ := hs
      obtain ⟨ρ1, g1, g2⟩ := hs.tag
      split at h
      · rename_i s0 hs0
        obtain ⟨m, hm⟩ := h
        generalize hstep : (fun (q : List (TupD D ts) × TupV D pe.tp.vts) (rec : List (TupD D ts) × TupV D pe.tp.vts → Prop) => _) = step at hm
        obtain ⟨ρ2, L2, st2, e1, e2, e3⟩ := fillE_ok (kn := st.tag.kn) g2.nx (Hp.le.refl _) (RM.le.refl _) g2.kn g2.fr g2 hs0
        refine CW.loop (β := Nat) (fun n σ w => ∃ rest s ρ' st', RM.le ρ1 ρ' ∧ makeE pe.tp st.tag.nx st.tag.kn s = some st' ∧ IS J Jx all fr H ρ' false rest st' σ w ∧ LoopN step n (rest, s)) (fun n => n) m ⟨rest, s0, ρ2, st2, e2, e1, ⟨wy, L2, e3, hj⟩, hm⟩ ?_
        rintro n σ w ⟨rest, s, ρ', st', f1, f2, f3, f8⟩
        cases n with
        | zero => exact f8.elim
        | succ n =>
          have f8 : step (rest, s) (LoopN step n) := f8
          rw [← hstep] at f8
          simp only [f2] at f8
          split at f8
          · refine ih (f1 _ _ (g1 _ _ h0)) f3 f8 fun e => ?_
            intro sp3 st3 rest3 σ3 w3 ρ3 h1 h2 h3
            cases e with
            | normal =>
              show [] = [] ∧ _
              refine ⟨rfl, ?_⟩
              simp only at h1
              cases sp3 with
              | true => exact h1.elim
              | false =>
                simp only at h1
                split at h1
                · rename_i s' hfill
                  obtain ⟨wy3, L3, hs3, hj3⟩ := h3
                  obtain ⟨ρ4, L4, st4, i1, i2, i3⟩ := fillE_ok (kn := st.tag.kn) g2.nx (Hp.le.refl _) (f1.trans h2) g2.kn g2.fr hs3 hfill
                  exact ⟨n, ⟨rest3, s', ρ4, st4, i2, i1, ⟨wy3, L4, i3, hj3⟩, by rw [hstep] at h1; exact h1⟩, Nat.lt_succ_self _⟩
                · exact h1.elim
            | _ => exact hk _ _ _ _ _ _ _ h1 ((g1.trans f1).trans h2) h3
          · exact f8.elim
      · exact h.elim
    · exact h.elim
  | rangeFunc f ps a b _ _ => intro pos sp st rest σ w ρ K Q md h0 hs h hk; exact h.elim
  | scope c _ => intro pos sp st rest σ w ρ K Q md h0 hs h hk; exact h.elim
  | label l => intro pos sp st rest σ w ρ K Q md h0 hs h hk; exact h.elim
  | goto l => intro pos sp st rest σ w ρ K Q md h0 hs h hk; exact h.elim
  | refuse s => intro pos sp st rest σ w ρ K Q md h0 hs h hk; exact h.elim
def ptrsE : Nat → List Nat → List (SV D)
  | _, [] => []
  | n, _ :: r => .ptr n 0 :: ptrsE (n + 1) r
def frE : Nat → List Nat → List (List (SV D)) → List (Nat × Blk D)
  | n, t :: r, c :: m => (n, .fbx t c) :: frE (n + 1) r m
  | _, _, _ => []
theorem caps_open {P : Program} {tb : Tb D} (htb : TbOk tb) : ∀ {cs : List Nat} {x : TupD D cs} {lb : List Value} {ls : List (List (SV D))} {n : Nat} {ρ0 : RM}, CapsR H cs x lb → tupC tb cs x = some ls → (∀ id, n ≤ id → ρ0 id = none) → ∃ ρ, RM.le ρ0 ρ ∧ (∀ id, n + cs.length ≤ id → ρ id = none) ∧ RvL H ρ lb (ptrsE (D := D) n cs) ∧ BkR H ρ (frE n cs ls) []
  | [], _, lb, ls, n, ρ0, h, hl, hn => by
    cases hl
    exact ⟨ρ0, RM.le.refl _, hn, h, rfl⟩
  | t :: r, x, lb, ls, n, ρ0, ⟨b, us, q, e, h1, h2, h3⟩, hl, hn => by
    rw [tupC] at hl
    cases ha : toC tb t x.1 with
    | none => simp only [ha] at hl; cases hl
    | some a =>
      cases hb : tupC tb r x.2 with
      | none => simp only [ha, hb] at hl; cases hl
      | some m =>
        simp only [ha, hb] at hl
        cases hl
        obtain ⟨f1, f2⟩ := fresh_put hn (.b b)
        obtain ⟨ρ, g1, g2, g3, g4⟩ := caps_open (P := P) htb h3 hb f2
        have hp : ρ n = some (.b b) := g1 _ _ (RM.put_same _ _ _)
        refine ⟨ρ, f1.trans g1, fun id hid => g2 id (by rw [List.length_cons] at hid; omega), ⟨_, q, e, ⟨b, hp, rfl⟩, g3⟩, [], [], rfl, ⟨rfl, b, us, hp, h1, toC_ok htb ha h2⟩, g4⟩
def iterF (E : Env D) (f : Nat) (cs ts : List Nat) (x : TupD D cs) (l : List (TupD D ts)) : Prop := match tupC E.tb cs x with
  | some ls => match E.P.funcs[f]? with
    | some fn => match fn.body with
      | some c => match fn.results.toList with
        | [] => cdP (Nat.ble (cs.length + 1) fn.ntmps) (runI E fn.ntmps (frE 1 cs ls) ts c [] false ⟨slotsOf 0 (.kp 0 :: ptrsE 1 cs), [], [], 1 + cs.length⟩ l fun e sp _ rest => cdP (isEnd e) (match sp with
          | true => True
          | false => rest = []) False) False
        | _ :: _ => False
      | none => False
    | none => False
  | none => False
theorem It.lift (hE : E.Ok) (it : It D) (h : ∀ x l, it.W x l → iterF E it.f it.cs it.ts x l) : it.Ok E.P E.G := by
  intro x l hW H lb hG hC lp J Jx W hag hJ hJx hY hJ0
  have hF := h x l hW
  unfold iterF at hF
  split at hF
  · rename_i ls hls
    split at hF
    · rename_i fn hfn
      split at hF
      · rename_i c hc
        split at hF
        · rename_i hres
          obtain ⟨hN, hF⟩ := cifP hF
          obtain ⟨f1, f2⟩ := fresh_put (ρ := fun _ => none) (nx := 0) (fun _ _ => rfl) (.v (.func (.yield lp) #[] #[]))
          obtain ⟨ρ, g1, g2, g3, g4⟩ := caps_open (P := E.P) hE.tb hC hls f2
          have h0 : ρ 0 = some (.v (.func (.yield lp) #[] #[])) := g1 _ _ (RM.put_same _ _ _)
          have hv : RvL H ρ (Value.func (.yield lp) #[] #[] :: lb) (.kp 0 :: ptrsE 1 it.cs) := ⟨_, lb, rfl, h0, g3⟩
          refine calls_of_code hfn hc (by
            have hlen := RvL.length g3
            have hp : ∀ (n : Nat) (cs : List Nat), (ptrsE (D := D) n cs).length = cs.length := fun n cs => by
              induction cs generalizing n with
              | nil => rfl
              | cons _ _ ih => simp [ptrsE, ih]
            have := Nat.le_of_ble_eq_true hN
            simp [hlen, hp]; exact this) ?_
          refine runI_ok (all := l) (J := J) (Jx := Jx) (sp := false) (rest := l) (H := H) (ρ := ρ) hE hG hJ (fun k A0 vs hk hvs hJk hA => hY k A0 vs hk hvs hJk hA) c h0 ⟨W, [], ⟨Mem.start hag, slotsOf_ok hv, (show BkR H ρ ([] : List (Nat × Blk D)) [] from rfl), g4, (fun _ _ h => by cases h), fun id hid => g2 id hid⟩, 0, Nat.zero_le _, hJ0, rfl⟩ hF fun e => ?_
          intro sp' st' rest' σ' w' ρ' h1 h2 h3
          obtain ⟨wy3, L3, h3, hj3⟩ := h3
          have h4 := hj3.below hJ hJx h3.mem.below
          obtain ⟨he, h1⟩ := cifP h1
          obtain ⟨ux, e1, e2⟩ := results_ok (vs := []) hE.tb h3 (by rw [hres]; rfl)
          refine ⟨isEnd_ok he, rfl, tupVal ux, e2, ?_⟩
          cases sp' with
          | true =>
            obtain ⟨k, hk, hx⟩ := h4
            exact .inr ⟨k, hk, hx⟩
          | false =>
            obtain ⟨k, hkn, hk, hr⟩ := h4
            have h1 : rest' = [] := h1
            rw [h1] at hr
            have hkl : l.length ≤ k := List.drop_eq_nil_iff.1 hr.symm
            rw [show k = l.length by omega] at hk
            exact .inl hk
        · exact hF.elim
      · exact hF.elim
    · exact hF.elim
  · exact hF.elim
end
end
end Go.Proofs.YtgojhiknicmopaaDoor
namespace Go.Proofs.YtgojhiknicmopaaDoor
def insZ (x : Int) : List Int → List Int
  | [] => [x]
  | y :: r => if x ≤ y then x :: y :: r else y :: insZ x r
def sortZ : List Int → List Int
  | [] => []
  | x :: r => insZ x (sortZ r)
theorem insZ_perm (x : Int) : ∀ l : List Int, (insZ x l).Perm (x :: l)
  | [] => List.Perm.refl _
  | y :: r => by
    unfold insZ
    split
    · exact List.Perm.refl _
    · exact ((insZ_perm x r).cons y).trans (List.Perm.swap x y r)
theorem sortZ_self : ∀ l : List Int, (sortZ l).Perm l
  | [] => List.Perm.refl _
  | x :: r => (insZ_perm x (sortZ r)).trans ((sortZ_self r).cons x)
theorem insZ_sorted (x : Int) : ∀ l : List Int, l.Pairwise (fun a b => a ≤ b) → (insZ x l).Pairwise (fun a b => a ≤ b)
  | [], _ => by simp [insZ]
  | y :: r, h => by
    have h1 := List.pairwise_cons.1 h
    unfold insZ
    split
    · rename_i hxy
      refine List.pairwise_cons.2 ⟨fun b hb => ?_, h⟩
      rcases List.mem_cons.1 hb with rfl | hb
      · exact hxy
      · exact Int.le_trans hxy (h1.1 b hb)
    · rename_i hxy
      refine List.pairwise_cons.2 ⟨fun b hb => ?_, insZ_sorted x r h1.2⟩
      rcases List.mem_cons.1 ((insZ_perm x r).mem_iff.1 hb) with rfl | hb
      · omega
      · exact h1.1 b hb
theorem sortZ_sorted : ∀ l : List Int, (sortZ l).Pairwise fun a b => a ≤ b
  | [] => List.Pairwise.nil
  | x :: r => insZ_sorted x _ (sortZ_sorted r)
end Go.Proofs.YtgojhiknicmopaaDoor
namespace Go.Proofs.YtgojhiknicmopaaDoor
open Go.RowKit
structure api_Bitmap where
  Size : Int
  Words : List (BitVec 64)
  deriving DecidableEq
instance dt_api_Bitmap : Dt api_Bitmap where
  default := ⟨0, []⟩
  sz := 2
  rd H cs x := ∃ A0 n0 c0 s0, cs = [.int .i64 (x.Size), .slice A0 n0 c0] ∧ Fz H A0 n0 c0 x.Words s0
  len := fun ⟨A0, n0, c0, s0, h, h0⟩ => by rw [h]; rfl
  mono := fun ⟨A0, n0, c0, s0, h, h0⟩ hle => ⟨A0, n0, c0, s0, h, h0.mono hle⟩
  one := fun ⟨A0, n0, c0, s0, h, h0⟩ => by rw [h]; exact oneAll ⟨rfl, rfl, trivial⟩
structure api_Peer where
  Site : Int
  Common : Int
  Dirty : List api_Bitmap
  deriving DecidableEq
instance dt_api_Peer : Dt api_Peer where
  default := ⟨0, 0, []⟩
  sz := 3
  rd H cs x := ∃ A0 n0 c0 s0, cs = [.int .i64 (x.Site), .int .i64 (x.Common), .slice A0 n0 c0] ∧ Fz H A0 n0 c0 x.Dirty s0
  len := fun ⟨A0, n0, c0, s0, h, h0⟩ => by rw [h]; rfl
  mono := fun ⟨A0, n0, c0, s0, h, h0⟩ hle => ⟨A0, n0, c0, s0, h, h0.mono hle⟩
  one := fun ⟨A0, n0, c0, s0, h, h0⟩ => by rw [h]; exact oneAll ⟨rfl, rfl, rfl, trivial⟩
structure api_Tracker where
  Sizes : List Int
  Peers : List api_Peer
  deriving DecidableEq
instance dt_api_Tracker : Dt api_Tracker where
  default := ⟨[], []⟩
  sz := 2
  rd H cs x := ∃ A0 n0 c0 s0, ∃ A1 n1 c1 s1, cs = [.slice A0 n0 c0, .slice A1 n1 c1] ∧ Fz H A0 n0 c0 x.Sizes s0 ∧ Fz H A1 n1 c1 x.Peers s1
  len := fun ⟨A0, n0, c0, s0, A1, n1, c1, s1, h, h0, h1⟩ => by rw [h]; rfl
  mono := fun ⟨A0, n0, c0, s0, A1, n1, c1, s1, h, h0, h1⟩ hle => ⟨A0, n0, c0, s0, A1, n1, c1, s1, h, h0.mono hle, h1.mono hle⟩
  one := fun ⟨A0, n0, c0, s0, A1, n1, c1, s1, h, h0, h1⟩ => by rw [h]; exact oneAll ⟨rfl, rfl, trivial⟩
structure api_Write where
  Volume : Int
  Start : Int
  Data : List Sec
  deriving DecidableEq
instance dt_api_Write : Dt api_Write where
  default := ⟨0, 0, []⟩
  sz := 3
  rd H cs x := ∃ A0 n0 c0 s0, cs = [.int .i64 (x.Volume), .int .i64 (x.Start), .slice A0 n0 c0] ∧ Fz H A0 n0 c0 x.Data s0
  len := fun ⟨A0, n0, c0, s0, h, h0⟩ => by rw [h]; rfl
  mono := fun ⟨A0, n0, c0, s0, h, h0⟩ hle => ⟨A0, n0, c0, s0, h, h0.mono hle⟩
  one := fun ⟨A0, n0, c0, s0, h, h0⟩ => by rw [h]; exact oneAll ⟨rfl, rfl, rfl, trivial⟩
structure api_Extent where
  Start : Int
  Count : Int
  deriving DecidableEq
instance dt_api_Extent : Dt api_Extent where
  default := ⟨0, 0⟩
  sz := 2
  rd H cs x := cs = [.int .i64 (x.Start), .int .i64 (x.Count)]
  len h := by rw [h]; rfl
  mono h _ := h
  one h := by rw [h]; exact oneAll ⟨rfl, rfl, trivial⟩
structure api_Cycle where
  Base : Int
  Number : Int
  Time : Int
  Positions : List Int
  Writes : List api_Write
  deriving DecidableEq
instance dt_api_Cycle : Dt api_Cycle where
  default := ⟨0, 0, 0, [], []⟩
  sz := 5
  rd H cs x := ∃ A0 n0 c0 s0, ∃ A1 n1 c1 s1, cs = [.int .i64 (x.Base), .int .i64 (x.Number), .int .i64 (x.Time), .slice A0 n0 c0, .slice A1 n1 c1] ∧ Fz H A0 n0 c0 x.Positions s0 ∧ Fz H A1 n1 c1 x.Writes s1
  len := fun ⟨A0, n0, c0, s0, A1, n1, c1, s1, h, h0, h1⟩ => by rw [h]; rfl
  mono := fun ⟨A0, n0, c0, s0, A1, n1, c1, s1, h, h0, h1⟩ hle => ⟨A0, n0, c0, s0, A1, n1, c1, s1, h, h0.mono hle, h1.mono hle⟩
  one := fun ⟨A0, n0, c0, s0, A1, n1, c1, s1, h, h0, h1⟩ => by rw [h]; exact oneAll ⟨rfl, rfl, rfl, rfl, rfl, trivial⟩
instance dtUnit : Dt Unit where
  default := ()
  sz := 0
  rd _ cs _ := cs = []
  len h := by rw [h]; rfl
  mono h _ := h
  one h := by rw [h]; intro u hu; cases hu
structure TyR where
  α : Type
  inst : Dt α
def tyOf (t : Nat) : TyR := bif Nat.beq t 4 then ⟨Bool, inferInstance⟩ else bif Nat.beq t 61 then ⟨BitVec 64, inferInstance⟩ else bif Nat.beq t 30 then ⟨api_Bitmap, inferInstance⟩ else bif Nat.beq t 22 then ⟨List api_Bitmap, inferInstance⟩ else bif Nat.beq t 3 then ⟨Int, inferInstance⟩ else bif Nat.beq t 70 then ⟨api_Peer, inferInstance⟩ else bif Nat.beq t 38 then ⟨api_Tracker, inferInstance⟩ else bif Nat.beq t 25 then ⟨Int, inferInstance⟩ else bif Nat.beq t 35 then ⟨List Int, inferInstance⟩ else bif Nat.beq t 34 then ⟨Sec, inferInstance⟩ else bif Nat.beq t 42 then ⟨List Sec, inferInstance⟩ else bif Nat.beq t 63 then ⟨List (List Sec), inferInstance⟩ else bif Nat.beq t 62 then ⟨List (List Sec), inferInstance⟩ else bif Nat.beq t 36 then ⟨List api_Peer, inferInstance⟩ else bif Nat.beq t 44 then ⟨api_Write, inferInstance⟩ else bif Nat.beq t 113 then ⟨List Bool, inferInstance⟩ else bif Nat.beq t 28 then ⟨List (BitVec 64), inferInstance⟩ else bif Nat.beq t 54 then ⟨api_Extent, inferInstance⟩ else bif Nat.beq t 49 then ⟨api_Cycle, inferInstance⟩ else bif Nat.beq t 50 then ⟨List api_Cycle, inferInstance⟩ else bif Nat.beq t 47 then ⟨List api_Write, inferInstance⟩ else bif Nat.beq t 55 then ⟨List api_Extent, inferInstance⟩ else bif Nat.beq t 82 then ⟨List (List api_Extent), inferInstance⟩ else bif Nat.beq t 5 then ⟨BitVec 8, inferInstance⟩ else bif Nat.beq t 56 then ⟨List (BitVec 8), inferInstance⟩ else ⟨Unit, dtUnit⟩
abbrev DD (t : Nat) : Type := (tyOf t).α
instance dtDD (t : Nat) : Dt (DD t) := (tyOf t).inst
def xI : SV DD → Option Int
 | .i .i64 n => some n
 | _ => none
def xW : SV DD → Option (BitVec 64)
 | .w x => some x
 | _ => none
def xY : SV DD → Option (BitVec 8)
 | .y x => some x
 | _ => none
def xT : SV DD → Option ByteArray
 | .st x => some x
 | _ => none
def xS (e : Nat) : SV DD → Option (List (DD e))
 | .fsl e' xs => castL e' e xs
 | .nil => some []
 | _ => none
theorem xI_cq {a : SV DD} {n : Int} (h : xI a = some n) : CQ a (.i .i64 n) := by
  unfold xI at h
  split at h
  · cases h; exact .inr ⟨rfl, rfl, fun _ _ _ h => h⟩
  · cases h
theorem xW_cq {a : SV DD} {n : BitVec 64} (h : xW a = some n) : CQ a (.w n) := by
  unfold xW at h
  split at h
  · cases h; exact .inr ⟨rfl, rfl, fun _ _ _ h => h⟩
  · cases h
theorem xY_cq {a : SV DD} {n : BitVec 8} (h : xY a = some n) : CQ a (.y n) := by
  unfold xY at h
  split at h
  · cases h; exact .inr ⟨rfl, rfl, fun _ _ _ h => h⟩
  · cases h
theorem xB_cq {a : SV DD} {n : Bool} (h : boolOf a = some n) : CQ a (.b n) := by
  cases a <;> first | (cases h; exact .inr ⟨rfl, rfl, fun _ _ _ h => h⟩) | cases h
theorem xS_cq {e : Nat} {a : SV DD} {n : List (DD e)} (h : xS e a = some n) : CQ a (.fsl e n) := by
  unfold xS at h
  split at h
  · obtain ⟨he, h1⟩ := castL_ok h
    subst he
    subst h1
    exact .inl ⟨_, _, rfl, .inl rfl⟩
  · cases h; exact .inl ⟨_, _, rfl, .inr ⟨rfl, rfl⟩⟩
  · cases h
theorem bindS {α β : Type} {o : Option α} {f : α → Option β} {x : β} (h : o.bind f = some x) : ∃ v, o = some v ∧ f v = some x := Option.bind_eq_some_iff.1 h
def ofc4 : List (SV DD) → Option (DD 4)
 | [a0] => (boolOf a0).bind fun v0 => some v0
 | _ => none
def ce4 : CE DD := ⟨4, fun x => [.b (x)], ofc4, none⟩
theorem ceOk4 : ce4.Ok where
  rdi := @fun H ρ cs x => ⟨fun h => by
    obtain h := (show Dt.rd (α := Bool) H cs x from h)
    subst h
    exact ⟨_, _, rfl, rfl, rfl⟩, fun h => by
    obtain ⟨v0, r0, e0, p0, e⟩ := h
    have e : r0 = [] := e
    subst e
    subst e0
    have p0 : v0 = _ := p0
    subst p0
    exact (show Dt.rd (α := Bool) H _ x from rfl)⟩
  cq := @fun l x h => by
    change ofc4 l = some x at h
    unfold ofc4 at h
    split at h
    · obtain ⟨v0, h0, h⟩ := bindS h
      cases h
      exact ⟨_, _, rfl, xB_cq h0, rfl⟩
    · cases h
  eqc := fun d a b c1 c2 hd h1 h2 => by cases hd
def ofc61 : List (SV DD) → Option (DD 61)
 | [a0] => (xW a0).bind fun v0 => some v0
 | _ => none
def ce61 : CE DD := ⟨61, fun x => [.w (x)], ofc61, none⟩
theorem ceOk61 : ce61.Ok where
  rdi := @fun H ρ cs x => ⟨fun h => by
    obtain h := (show Dt.rd (α := BitVec 64) H cs x from h)
    subst h
    exact ⟨_, _, rfl, rfl, rfl⟩, fun h => by
    obtain ⟨v0, r0, e0, p0, e⟩ := h
    have e : r0 = [] := e
    subst e
    subst e0
    have p0 : v0 = _ := p0
    subst p0
    exact (show Dt.rd (α := BitVec 64) H _ x from rfl)⟩
  cq := @fun l x h => by
    change ofc61 l = some x at h
    unfold ofc61 at h
    split at h
    · obtain ⟨v0, h0, h⟩ := bindS h
      cases h
      exact ⟨_, _, rfl, xW_cq h0, rfl⟩
    · cases h
  eqc := fun d a b c1 c2 hd h1 h2 => by cases hd
def ofc30 : List (SV DD) → Option (DD 30)
 | [a0, a1] => (xI a0).bind fun v0 => (xS 61 a1).bind fun v1 => some ⟨v0, v1⟩
 | _ => none
def ce30 : CE DD := ⟨30, fun x => [.i .i64 (x.Size), .fsl 61 (x.Words)], ofc30, none⟩
theorem ceOk30 : ce30.Ok where
  rdi := @fun H ρ cs x => ⟨fun h => by
    obtain ⟨A0, n0, c0, s0, h, h0⟩ := (show Dt.rd (α := api_Bitmap) H cs x from h)
    subst h
    exact ⟨_, _, rfl, rfl, _, _, rfl, ⟨A0, n0, c0, s0, rfl, h0⟩, rfl⟩, fun h => by
    obtain ⟨v0, r0, e0, p0, v1, r1, e1, ⟨A0, n0, c0, s0, p1, h0⟩, e⟩ := h
    have e : r1 = [] := e
    subst e
    subst e1
    subst e0
    have p0 : v0 = _ := p0
    subst p0
    subst p1
    exact (show Dt.rd (α := api_Bitmap) H _ x from ⟨A0, n0, c0, s0, rfl, h0⟩)⟩
  cq := @fun l x h => by
    change ofc30 l = some x at h
    unfold ofc30 at h
    split at h
    · obtain ⟨v0, h0, h⟩ := bindS h
      obtain ⟨v1, h1, h⟩ := bindS h
      cases h
      exact ⟨_, _, rfl, xI_cq h0, _, _, rfl, xS_cq h1, rfl⟩
    · cases h
  eqc := fun d a b c1 c2 hd h1 h2 => by cases hd
def ofc22 : List (SV DD) → Option (DD 22)
 | [a0] => (xS 30 a0).bind fun v0 => some v0
 | _ => none
def ce22 : CE DD := ⟨22, fun x => [.fsl 30 (x)], ofc22, none⟩
theorem ceOk22 : ce22.Ok where
  rdi := @fun H ρ cs x => ⟨fun h => by
    obtain ⟨A0, n0, c0, s0, h, h0⟩ := (show Dt.rd (α := List api_Bitmap) H cs x from h)
    subst h
    exact ⟨_, _, rfl, ⟨A0, n0, c0, s0, rfl, h0⟩, rfl⟩, fun h => by
    obtain ⟨v0, r0, e0, ⟨A0, n0, c0, s0, p0, h0⟩, e⟩ := h
    have e : r0 = [] := e
    subst e
    subst e0
    subst p0
    exact (show Dt.rd (α := List api_Bitmap) H _ x from ⟨A0, n0, c0, s0, rfl, h0⟩)⟩
  cq := @fun l x h => by
    change ofc22 l = some x at h
    unfold ofc22 at h
    split at h
    · obtain ⟨v0, h0, h⟩ := bindS h
      cases h
      exact ⟨_, _, rfl, xS_cq h0, rfl⟩
    · cases h
  eqc := fun d a b c1 c2 hd h1 h2 => by cases hd
def ofc3 : List (SV DD) → Option (DD 3)
 | [a0] => (xI a0).bind fun v0 => some v0
 | _ => none
def ce3 : CE DD := ⟨3, fun x => [.i .i64 (x)], ofc3, some (inferInstanceAs (DecidableEq Int))⟩
theorem sc3 (a b : Int) : (([.i .i64 (a)] : List Sc) = [.i .i64 (b)]) ↔ a = b := ⟨(Dt.ksOk (α := Int) _ _ rfl).2.2 a b, fun h => by rw [h]⟩
theorem ceOk3 : ce3.Ok where
  rdi := @fun H ρ cs x => ⟨fun h => by
    obtain h := (show Dt.rd (α := Int) H cs x from h)
    subst h
    exact ⟨_, _, rfl, rfl, rfl⟩, fun h => by
    obtain ⟨v0, r0, e0, p0, e⟩ := h
    have e : r0 = [] := e
    subst e
    subst e0
    have p0 : v0 = _ := p0
    subst p0
    exact (show Dt.rd (α := Int) H _ x from rfl)⟩
  cq := @fun l x h => by
    change ofc3 l = some x at h
    unfold ofc3 at h
    split at h
    · obtain ⟨v0, h0, h⟩ := bindS h
      cases h
      exact ⟨_, _, rfl, xI_cq h0, rfl⟩
    · cases h
  eqc := fun d a b c1 c2 hd h1 h2 => by
    cases h1; cases h2
    exact sc3 a b
def ofc70 : List (SV DD) → Option (DD 70)
 | [a0, a1, a2] => (xI a0).bind fun v0 => (xI a1).bind fun v1 => (xS 30 a2).bind fun v2 => some ⟨v0, v1, v2⟩
 | _ => none
def ce70 : CE DD := ⟨70, fun x => [.i .i64 (x.Site), .i .i64 (x.Common), .fsl 30 (x.Dirty)], ofc70, none⟩
theorem ceOk70 : ce70.Ok where
  rdi := @fun H ρ cs x => ⟨fun h => by
    obtain ⟨A0, n0, c0, s0, h, h0⟩ := (show Dt.rd (α := api_Peer) H cs x from h)
    subst h
    exact ⟨_, _, rfl, rfl, _, _, rfl, rfl, _, _, rfl, ⟨A0, n0, c0, s0, rfl, h0⟩, rfl⟩, fun h => by
    obtain ⟨v0, r0, e0, p0, v1, r1, e1, p1, v2, r2, e2, ⟨A0, n0, c0, s0, p2, h0⟩, e⟩ := h
    have e : r2 = [] := e
    subst e
    subst e2
    subst e1
    subst e0
    have p0 : v0 = _ := p0
    subst p0
    have p1 : v1 = _ := p1
    subst p1
    subst p2
    exact (show Dt.rd (α := api_Peer) H _ x from ⟨A0, n0, c0, s0, rfl, h0⟩)⟩
  cq := @fun l x h => by
    change ofc70 l = some x at h
    unfold ofc70 at h
    split at h
    · obtain ⟨v0, h0, h⟩ := bindS h
      obtain ⟨v1, h1, h⟩ := bindS h
      obtain ⟨v2, h2, h⟩ := bindS h
      cases h
      exact ⟨_, _, rfl, xI_cq h0, _, _, rfl, xI_cq h1, _, _, rfl, xS_cq h2, rfl⟩
    · cases h
  eqc := fun d a b c1 c2 hd h1 h2 => by cases hd
def ofc38 : List (SV DD) → Option (DD 38)
 | [a0, a1] => (xS 3 a0).bind fun v0 => (xS 70 a1).bind fun v1 => some ⟨v0, v1⟩
 | _ => none
def ce38 : CE DD := ⟨38, fun x => [.fsl 3 (x.Sizes), .fsl 70 (x.Peers)], ofc38, none⟩
theorem ceOk38 : ce38.Ok where
  rdi := @fun H ρ cs x => ⟨fun h => by
    obtain ⟨A0, n0, c0, s0, A1, n1, c1, s1, h, h0, h1⟩ := (show Dt.rd (α := api_Tracker) H cs x from h)
    subst h
    exact ⟨_, _, rfl, ⟨A0, n0, c0, s0, rfl, h0⟩, _, _, rfl, ⟨A1, n1, c1, s1, rfl, h1⟩, rfl⟩, fun h => by
    obtain ⟨v0, r0, e0, ⟨A0, n0, c0, s0, p0, h0⟩, v1, r1, e1, ⟨A1, n1, c1, s1, p1, h1⟩, e⟩ := h
    have e : r1 = [] := e
    subst e
    subst e1
    subst e0
    subst p0
    subst p1
    exact (show Dt.rd (α := api_Tracker) H _ x from ⟨A0, n0, c0, s0, A1, n1, c1, s1, rfl, h0, h1⟩)⟩
  cq := @fun l x h => by
    change ofc38 l = some x at h
    unfold ofc38 at h
    split at h
    · obtain ⟨v0, h0, h⟩ := bindS h
      obtain ⟨v1, h1, h⟩ := bindS h
      cases h
      exact ⟨_, _, rfl, xS_cq h0, _, _, rfl, xS_cq h1, rfl⟩
    · cases h
  eqc := fun d a b c1 c2 hd h1 h2 => by cases hd
def ofc25 : List (SV DD) → Option (DD 25)
 | [a0] => (xI a0).bind fun v0 => some v0
 | _ => none
def ce25 : CE DD := ⟨25, fun x => [.i .i64 (x)], ofc25, none⟩
theorem ceOk25 : ce25.Ok where
  rdi := @fun H ρ cs x => ⟨fun h => by
    obtain h := (show Dt.rd (α := Int) H cs x from h)
    subst h
    exact ⟨_, _, rfl, rfl, rfl⟩, fun h => by
    obtain ⟨v0, r0, e0, p0, e⟩ := h
    have e : r0 = [] := e
    subst e
    subst e0
    have p0 : v0 = _ := p0
    subst p0
    exact (show Dt.rd (α := Int) H _ x from rfl)⟩
  cq := @fun l x h => by
    change ofc25 l = some x at h
    unfold ofc25 at h
    split at h
    · obtain ⟨v0, h0, h⟩ := bindS h
      cases h
      exact ⟨_, _, rfl, xI_cq h0, rfl⟩
    · cases h
  eqc := fun d a b c1 c2 hd h1 h2 => by cases hd
def ofc35 : List (SV DD) → Option (DD 35)
 | [a0] => (xS 3 a0).bind fun v0 => some v0
 | _ => none
def ce35 : CE DD := ⟨35, fun x => [.fsl 3 (x)], ofc35, none⟩
theorem ceOk35 : ce35.Ok where
  rdi := @fun H ρ cs x => ⟨fun h => by
    obtain ⟨A0, n0, c0, s0, h, h0⟩ := (show Dt.rd (α := List Int) H cs x from h)
    subst h
    exact ⟨_, _, rfl, ⟨A0, n0, c0, s0, rfl, h0⟩, rfl⟩, fun h => by
    obtain ⟨v0, r0, e0, ⟨A0, n0, c0, s0, p0, h0⟩, e⟩ := h
    have e : r0 = [] := e
    subst e
    subst e0
    subst p0
    exact (show Dt.rd (α := List Int) H _ x from ⟨A0, n0, c0, s0, rfl, h0⟩)⟩
  cq := @fun l x h => by
    change ofc35 l = some x at h
    unfold ofc35 at h
    split at h
    · obtain ⟨v0, h0, h⟩ := bindS h
      cases h
      exact ⟨_, _, rfl, xS_cq h0, rfl⟩
    · cases h
  eqc := fun d a b c1 c2 hd h1 h2 => by cases hd
def ofc34 : List (SV DD) → Option (DD 34)
 | [a0, a1, a2, a3, a4, a5, a6, a7] => (xY a0).bind fun v0 => (xY a1).bind fun v1 => (xY a2).bind fun v2 => (xY a3).bind fun v3 => (xY a4).bind fun v4 => (xY a5).bind fun v5 => (xY a6).bind fun v6 => (xY a7).bind fun v7 => some ⟨v0, v1, v2, v3, v4, v5, v6, v7⟩
 | _ => none
def ce34 : CE DD := ⟨34, fun x => [.y (x.b0), .y (x.b1), .y (x.b2), .y (x.b3), .y (x.b4), .y (x.b5), .y (x.b6), .y (x.b7)], ofc34, some (inferInstanceAs (DecidableEq Sec))⟩
theorem sc34 (a b : Sec) : (([.i .u8 ((a.b0).toNat : Int), .i .u8 ((a.b1).toNat : Int), .i .u8 ((a.b2).toNat : Int), .i .u8 ((a.b3).toNat : Int), .i .u8 ((a.b4).toNat : Int), .i .u8 ((a.b5).toNat : Int), .i .u8 ((a.b6).toNat : Int), .i .u8 ((a.b7).toNat : Int)] : List Sc) = [.i .u8 ((b.b0).toNat : Int), .i .u8 ((b.b1).toNat : Int), .i .u8 ((b.b2).toNat : Int), .i .u8 ((b.b3).toNat : Int), .i .u8 ((b.b4).toNat : Int), .i .u8 ((b.b5).toNat : Int), .i .u8 ((b.b6).toNat : Int), .i .u8 ((b.b7).toNat : Int)]) ↔ a = b := by
  cases a; cases b; simp [← BitVec.toNat_inj]; omega
theorem ceOk34 : ce34.Ok where
  rdi := @fun H ρ cs x => ⟨fun h => by
    obtain h := (show Dt.rd (α := Sec) H cs x from h)
    subst h
    exact ⟨_, _, rfl, rfl, _, _, rfl, rfl, _, _, rfl, rfl, _, _, rfl, rfl, _, _, rfl, rfl, _, _, rfl, rfl, _, _, rfl, rfl, _, _, rfl, rfl, rfl⟩, fun h => by
    obtain ⟨v0, r0, e0, p0, v1, r1, e1, p1, v2, r2, e2, p2, v3, r3, e3, p3, v4, r4, e4, p4, v5, r5, e5, p5, v6, r6, e6, p6, v7, r7, e7, p7, e⟩ := h
    have e : r7 = [] := e
    subst e
    subst e7
    subst e6
    subst e5
    subst e4
    subst e3
    subst e2
    subst e1
    subst e0
    have p0 : v0 = _ := p0
    subst p0
    have p1 : v1 = _ := p1
    subst p1
    have p2 : v2 = _ := p2
    subst p2
    have p3 : v3 = _ := p3
    subst p3
    have p4 : v4 = _ := p4
    subst p4
    have p5 : v5 = _ := p5
    subst p5
    have p6 : v6 = _ := p6
    subst p6
    have p7 : v7 = _ := p7
    subst p7
    exact (show Dt.rd (α := Sec) H _ x from rfl)⟩
  cq := @fun l x h => by
    change ofc34 l = some x at h
    unfold ofc34 at h
    split at h
    · obtain ⟨v0, h0, h⟩ := bindS h
      obtain ⟨v1, h1, h⟩ := bindS h
      obtain ⟨v2, h2, h⟩ := bindS h
      obtain ⟨v3, h3, h⟩ := bindS h
      obtain ⟨v4, h4, h⟩ := bindS h
      obtain ⟨v5, h5, h⟩ := bindS h
      obtain ⟨v6, h6, h⟩ := bindS h
      obtain ⟨v7, h7, h⟩ := bindS h
      cases h
      exact ⟨_, _, rfl, xY_cq h0, _, _, rfl, xY_cq h1, _, _, rfl, xY_cq h2, _, _, rfl, xY_cq h3, _, _, rfl, xY_cq h4, _, _, rfl, xY_cq h5, _, _, rfl, xY_cq h6, _, _, rfl, xY_cq h7, rfl⟩
    · cases h
  eqc := fun d a b c1 c2 hd h1 h2 => by
    cases h1; cases h2
    exact sc34 a b
def ofc42 : List (SV DD) → Option (DD 42)
 | [a0] => (xS 34 a0).bind fun v0 => some v0
 | _ => none
def ce42 : CE DD := ⟨42, fun x => [.fsl 34 (x)], ofc42, none⟩
theorem ceOk42 : ce42.Ok where
  rdi := @fun H ρ cs x => ⟨fun h => by
    obtain ⟨A0, n0, c0, s0, h, h0⟩ := (show Dt.rd (α := List Sec) H cs x from h)
    subst h
    exact ⟨_, _, rfl, ⟨A0, n0, c0, s0, rfl, h0⟩, rfl⟩, fun h => by
    obtain ⟨v0, r0, e0, ⟨A0, n0, c0, s0, p0, h0⟩, e⟩ := h
    have e : r0 = [] := e
    subst e
    subst e0
    subst p0
    exact (show Dt.rd (α := List Sec) H _ x from ⟨A0, n0, c0, s0, rfl, h0⟩)⟩
  cq := @fun l x h => by
    change ofc42 l = some x at h
    unfold ofc42 at h
    split at h
    · obtain ⟨v0, h0, h⟩ := bindS h
      cases h
      exact ⟨_, _, rfl, xS_cq h0, rfl⟩
    · cases h
  eqc := fun d a b c1 c2 hd h1 h2 => by cases hd
def ofc63 : List (SV DD) → Option (DD 63)
 | [a0] => (xS 42 a0).bind fun v0 => some v0
 | _ => none
def ce63 : CE DD := ⟨63, fun x => [.fsl 42 (x)], ofc63, none⟩
theorem ceOk63 : ce63.Ok where
  rdi := @fun H ρ cs x => ⟨fun h => by
    obtain ⟨A0, n0, c0, s0, h, h0⟩ := (show Dt.rd (α := List (List Sec)) H cs x from h)
    subst h
    exact ⟨_, _, rfl, ⟨A0, n0, c0, s0, rfl, h0⟩, rfl⟩, fun h => by
    obtain ⟨v0, r0, e0, ⟨A0, n0, c0, s0, p0, h0⟩, e⟩ := h
    have e : r0 = [] := e
    subst e
    subst e0
    subst p0
    exact (show Dt.rd (α := List (List Sec)) H _ x from ⟨A0, n0, c0, s0, rfl, h0⟩)⟩
  cq := @fun l x h => by
    change ofc63 l = some x at h
    unfold ofc63 at h
    split at h
    · obtain ⟨v0, h0, h⟩ := bindS h
      cases h
      exact ⟨_, _, rfl, xS_cq h0, rfl⟩
    · cases h
  eqc := fun d a b c1 c2 hd h1 h2 => by cases hd
def ofc62 : List (SV DD) → Option (DD 62)
 | [a0] => (xS 42 a0).bind fun v0 => some v0
 | _ => none
def ce62 : CE DD := ⟨62, fun x => [.fsl 42 (x)], ofc62, none⟩
theorem ceOk62 : ce62.Ok where
  rdi := @fun H ρ cs x => ⟨fun h => by
    obtain ⟨A0, n0, c0, s0, h, h0⟩ := (show Dt.rd (α := List (List Sec)) H cs x from h)
    subst h
    exact ⟨_, _, rfl, ⟨A0, n0, c0, s0, rfl, h0⟩, rfl⟩, fun h => by
    obtain ⟨v0, r0, e0, ⟨A0, n0, c0, s0, p0, h0⟩, e⟩ := h
    have e : r0 = [] := e
    subst e
    subst e0
    subst p0
    exact (show Dt.rd (α := List (List Sec)) H _ x from ⟨A0, n0, c0, s0, rfl, h0⟩)⟩
  cq := @fun l x h => by
    change ofc62 l = some x at h
    unfold ofc62 at h
    split at h
    · obtain ⟨v0, h0, h⟩ := bindS h
      cases h
      exact ⟨_, _, rfl, xS_cq h0, rfl⟩
    · cases h
  eqc := fun d a b c1 c2 hd h1 h2 => by cases hd
def ofc36 : List (SV DD) → Option (DD 36)
 | [a0] => (xS 70 a0).bind fun v0 => some v0
 | _ => none
def ce36 : CE DD := ⟨36, fun x => [.fsl 70 (x)], ofc36, none⟩
theorem ceOk36 : ce36.Ok where
  rdi := @fun H ρ cs x => ⟨fun h => by
    obtain ⟨A0, n0, c0, s0, h, h0⟩ := (show Dt.rd (α := List api_Peer) H cs x from h)
    subst h
    exact ⟨_, _, rfl, ⟨A0, n0, c0, s0, rfl, h0⟩, rfl⟩, fun h => by
    obtain ⟨v0, r0, e0, ⟨A0, n0, c0, s0, p0, h0⟩, e⟩ := h
    have e : r0 = [] := e
    subst e
    subst e0
    subst p0
    exact (show Dt.rd (α := List api_Peer) H _ x from ⟨A0, n0, c0, s0, rfl, h0⟩)⟩
  cq := @fun l x h => by
    change ofc36 l = some x at h
    unfold ofc36 at h
    split at h
    · obtain ⟨v0, h0, h⟩ := bindS h
      cases h
      exact ⟨_, _, rfl, xS_cq h0, rfl⟩
    · cases h
  eqc := fun d a b c1 c2 hd h1 h2 => by cases hd
def ofc44 : List (SV DD) → Option (DD 44)
 | [a0, a1, a2] => (xI a0).bind fun v0 => (xI a1).bind fun v1 => (xS 34 a2).bind fun v2 => some ⟨v0, v1, v2⟩
 | _ => none
def ce44 : CE DD := ⟨44, fun x => [.i .i64 (x.Volume), .i .i64 (x.Start), .fsl 34 (x.Data)], ofc44, none⟩
theorem ceOk44 : ce44.Ok where
  rdi := @fun H ρ cs x => ⟨fun h => by
    obtain ⟨A0, n0, c0, s0, h, h0⟩ := (show Dt.rd (α := api_Write) H cs x from h)
    subst h
    exact ⟨_, _, rfl, rfl, _, _, rfl, rfl, _, _, rfl, ⟨A0, n0, c0, s0, rfl, h0⟩, rfl⟩, fun h => by
    obtain ⟨v0, r0, e0, p0, v1, r1, e1, p1, v2, r2, e2, ⟨A0, n0, c0, s0, p2, h0⟩, e⟩ := h
    have e : r2 = [] := e
    subst e
    subst e2
    subst e1
    subst e0
    have p0 : v0 = _ := p0
    subst p0
    have p1 : v1 = _ := p1
    subst p1
    subst p2
    exact (show Dt.rd (α := api_Write) H _ x from ⟨A0, n0, c0, s0, rfl, h0⟩)⟩
  cq := @fun l x h => by
    change ofc44 l = some x at h
    unfold ofc44 at h
    split at h
    · obtain ⟨v0, h0, h⟩ := bindS h
      obtain ⟨v1, h1, h⟩ := bindS h
      obtain ⟨v2, h2, h⟩ := bindS h
      cases h
      exact ⟨_, _, rfl, xI_cq h0, _, _, rfl, xI_cq h1, _, _, rfl, xS_cq h2, rfl⟩
    · cases h
  eqc := fun d a b c1 c2 hd h1 h2 => by cases hd
def ofc113 : List (SV DD) → Option (DD 113)
 | [a0] => (xS 4 a0).bind fun v0 => some v0
 | _ => none
def ce113 : CE DD := ⟨113, fun x => [.fsl 4 (x)], ofc113, none⟩
theorem ceOk113 : ce113.Ok where
  rdi := @fun H ρ cs x => ⟨fun h => by
    obtain ⟨A0, n0, c0, s0, h, h0⟩ := (show Dt.rd (α := List Bool) H cs x from h)
    subst h
    exact ⟨_, _, rfl, ⟨A0, n0, c0, s0, rfl, h0⟩, rfl⟩, fun h => by
    obtain ⟨v0, r0, e0, ⟨A0, n0, c0, s0, p0, h0⟩, e⟩ := h
    have e : r0 = [] := e
    subst e
    subst e0
    subst p0
    exact (show Dt.rd (α := List Bool) H _ x from ⟨A0, n0, c0, s0, rfl, h0⟩)⟩
  cq := @fun l x h => by
    change ofc113 l = some x at h
    unfold ofc113 at h
    split at h
    · obtain ⟨v0, h0, h⟩ := bindS h
      cases h
      exact ⟨_, _, rfl, xS_cq h0, rfl⟩
    · cases h
  eqc := fun d a b c1 c2 hd h1 h2 => by cases hd
def ofc28 : List (SV DD) → Option (DD 28)
 | [a0] => (xS 61 a0).bind fun v0 => some v0
 | _ => none
def ce28 : CE DD := ⟨28, fun x => [.fsl 61 (x)], ofc28, none⟩
theorem ceOk28 : ce28.Ok where
  rdi := @fun H ρ cs x => ⟨fun h => by
    obtain ⟨A0, n0, c0, s0, h, h0⟩ := (show Dt.rd (α := List (BitVec 64)) H cs x from h)
    subst h
    exact ⟨_, _, rfl, ⟨A0, n0, c0, s0, rfl, h0⟩, rfl⟩, fun h => by
    obtain ⟨v0, r0, e0, ⟨A0, n0, c0, s0, p0, h0⟩, e⟩ := h
    have e : r0 = [] := e
    subst e
    subst e0
    subst p0
    exact (show Dt.rd (α := List (BitVec 64)) H _ x from ⟨A0, n0, c0, s0, rfl, h0⟩)⟩
  cq := @fun l x h => by
    change ofc28 l = some x at h
    unfold ofc28 at h
    split at h
    · obtain ⟨v0, h0, h⟩ := bindS h
      cases h
      exact ⟨_, _, rfl, xS_cq h0, rfl⟩
    · cases h
  eqc := fun d a b c1 c2 hd h1 h2 => by cases hd
def ofc54 : List (SV DD) → Option (DD 54)
 | [a0, a1] => (xI a0).bind fun v0 => (xI a1).bind fun v1 => some ⟨v0, v1⟩
 | _ => none
def ce54 : CE DD := ⟨54, fun x => [.i .i64 (x.Start), .i .i64 (x.Count)], ofc54, some (inferInstanceAs (DecidableEq api_Extent))⟩
theorem sc54 (a b : api_Extent) : (([.i .i64 (a.Start), .i .i64 (a.Count)] : List Sc) = [.i .i64 (b.Start), .i .i64 (b.Count)]) ↔ a = b := by
  cases a; cases b; simp
theorem ceOk54 : ce54.Ok where
  rdi := @fun H ρ cs x => ⟨fun h => by
    obtain h := (show Dt.rd (α := api_Extent) H cs x from h)
    subst h
    exact ⟨_, _, rfl, rfl, _, _, rfl, rfl, rfl⟩, fun h => by
    obtain ⟨v0, r0, e0, p0, v1, r1, e1, p1, e⟩ := h
    have e : r1 = [] := e
    subst e
    subst e1
    subst e0
    have p0 : v0 = _ := p0
    subst p0
    have p1 : v1 = _ := p1
    subst p1
    exact (show Dt.rd (α := api_Extent) H _ x from rfl)⟩
  cq := @fun l x h => by
    change ofc54 l = some x at h
    unfold ofc54 at h
    split at h
    · obtain ⟨v0, h0, h⟩ := bindS h
      obtain ⟨v1, h1, h⟩ := bindS h
      cases h
      exact ⟨_, _, rfl, xI_cq h0, _, _, rfl, xI_cq h1, rfl⟩
    · cases h
  eqc := fun d a b c1 c2 hd h1 h2 => by
    cases h1; cases h2
    exact sc54 a b
def ofc49 : List (SV DD) → Option (DD 49)
 | [a0, a1, a2, a3, a4] => (xI a0).bind fun v0 => (xI a1).bind fun v1 => (xI a2).bind fun v2 => (xS 3 a3).bind fun v3 => (xS 44 a4).bind fun v4 => some ⟨v0, v1, v2, v3, v4⟩
 | _ => none
def ce49 : CE DD := ⟨49, fun x => [.i .i64 (x.Base), .i .i64 (x.Number), .i .i64 (x.Time), .fsl 3 (x.Positions), .fsl 44 (x.Writes)], ofc49, none⟩
theorem ceOk49 : ce49.Ok where
  rdi := @fun H ρ cs x => ⟨fun h => by
    obtain ⟨A0, n0, c0, s0, A1, n1, c1, s1, h, h0, h1⟩ := (show Dt.rd (α := api_Cycle) H cs x from h)
    subst h
    exact ⟨_, _, rfl, rfl, _, _, rfl, rfl, _, _, rfl, rfl, _, _, rfl, ⟨A0, n0, c0, s0, rfl, h0⟩, _, _, rfl, ⟨A1, n1, c1, s1, rfl, h1⟩, rfl⟩, fun h => by
    obtain ⟨v0, r0, e0, p0, v1, r1, e1, p1, v2, r2, e2, p2, v3, r3, e3, ⟨A0, n0, c0, s0, p3, h0⟩, v4, r4, e4, ⟨A1, n1, c1, s1, p4, h1⟩, e⟩ := h
    have e : r4 = [] := e
    subst e
    subst e4
    subst e3
    subst e2
    subst e1
    subst e0
    have p0 : v0 = _ := p0
    subst p0
    have p1 : v1 = _ := p1
    subst p1
    have p2 : v2 = _ := p2
    subst p2
    subst p3
    subst p4
    exact (show Dt.rd (α := api_Cycle) H _ x from ⟨A0, n0, c0, s0, A1, n1, c1, s1, rfl, h0, h1⟩)⟩
  cq := @fun l x h => by
    change ofc49 l = some x at h
    unfold ofc49 at h
    split at h
    · obtain ⟨v0, h0, h⟩ := bindS h
      obtain ⟨v1, h1, h⟩ := bindS h
      obtain ⟨v2, h2, h⟩ := bindS h
      obtain ⟨v3, h3, h⟩ := bindS h
      obtain ⟨v4, h4, h⟩ := bindS h
      cases h
      exact ⟨_, _, rfl, xI_cq h0, _, _, rfl, xI_cq h1, _, _, rfl, xI_cq h2, _, _, rfl, xS_cq h3, _, _, rfl, xS_cq h4, rfl⟩
    · cases h
  eqc := fun d a b c1 c2 hd h1 h2 => by cases hd
def ofc50 : List (SV DD) → Option (DD 50)
 | [a0] => (xS 49 a0).bind fun v0 => some v0
 | _ => none
def ce50 : CE DD := ⟨50, fun x => [.fsl 49 (x)], ofc50, none⟩
theorem ceOk50 : ce50.Ok where
  rdi := @fun H ρ cs x => ⟨fun h => by
    obtain ⟨A0, n0, c0, s0, h, h0⟩ := (show Dt.rd (α := List api_Cycle) H cs x from h)
    subst h
    exact ⟨_, _, rfl, ⟨A0, n0, c0, s0, rfl, h0⟩, rfl⟩, fun h => by
    obtain ⟨v0, r0, e0, ⟨A0, n0, c0, s0, p0, h0⟩, e⟩ := h
    have e : r0 = [] := e
    subst e
    subst e0
    subst p0
    exact (show Dt.rd (α := List api_Cycle) H _ x from ⟨A0, n0, c0, s0, rfl, h0⟩)⟩
  cq := @fun l x h => by
    change ofc50 l = some x at h
    unfold ofc50 at h
    split at h
    · obtain ⟨v0, h0, h⟩ := bindS h
      cases h
      exact ⟨_, _, rfl, xS_cq h0, rfl⟩
    · cases h
  eqc := fun d a b c1 c2 hd h1 h2 => by cases hd
def ofc47 : List (SV DD) → Option (DD 47)
 | [a0] => (xS 44 a0).bind fun v0 => some v0
 | _ => none
def ce47 : CE DD := ⟨47, fun x => [.fsl 44 (x)], ofc47, none⟩
theorem ceOk47 : ce47.Ok where
  rdi := @fun H ρ cs x => ⟨fun h => by
    obtain ⟨A0, n0, c0, s0, h, h0⟩ := (show Dt.rd (α := List api_Write) H cs x from h)
    subst h
    exact ⟨_, _, rfl, ⟨A0, n0, c0, s0, rfl, h0⟩, rfl⟩, fun h => by
    obtain ⟨v0, r0, e0, ⟨A0, n0, c0, s0, p0, h0⟩, e⟩ := h
    have e : r0 = [] := e
    subst e
    subst e0
    subst p0
    exact (show Dt.rd (α := List api_Write) H _ x from ⟨A0, n0, c0, s0, rfl, h0⟩)⟩
  cq := @fun l x h => by
    change ofc47 l = some x at h
    unfold ofc47 at h
    split at h
    · obtain ⟨v0, h0, h⟩ := bindS h
      cases h
      exact ⟨_, _, rfl, xS_cq h0, rfl⟩
    · cases h
  eqc := fun d a b c1 c2 hd h1 h2 => by cases hd
def ofc55 : List (SV DD) → Option (DD 55)
 | [a0] => (xS 54 a0).bind fun v0 => some v0
 | _ => none
def ce55 : CE DD := ⟨55, fun x => [.fsl 54 (x)], ofc55, none⟩
theorem ceOk55 : ce55.Ok where
  rdi := @fun H ρ cs x => ⟨fun h => by
    obtain ⟨A0, n0, c0, s0, h, h0⟩ := (show Dt.rd (α := List api_Extent) H cs x from h)
    subst h
    exact ⟨_, _, rfl, ⟨A0, n0, c0, s0, rfl, h0⟩, rfl⟩, fun h => by
    obtain ⟨v0, r0, e0, ⟨A0, n0, c0, s0, p0, h0⟩, e⟩ := h
    have e : r0 = [] := e
    subst e
    subst e0
    subst p0
    exact (show Dt.rd (α := List api_Extent) H _ x from ⟨A0, n0, c0, s0, rfl, h0⟩)⟩
  cq := @fun l x h => by
    change ofc55 l = some x at h
    unfold ofc55 at h
    split at h
    · obtain ⟨v0, h0, h⟩ := bindS h
      cases h
      exact ⟨_, _, rfl, xS_cq h0, rfl⟩
    · cases h
  eqc := fun d a b c1 c2 hd h1 h2 => by cases hd
def ofc82 : List (SV DD) → Option (DD 82)
 | [a0] => (xS 55 a0).bind fun v0 => some v0
 | _ => none
def ce82 : CE DD := ⟨82, fun x => [.fsl 55 (x)], ofc82, none⟩
theorem ceOk82 : ce82.Ok where
  rdi := @fun H ρ cs x => ⟨fun h => by
    obtain ⟨A0, n0, c0, s0, h, h0⟩ := (show Dt.rd (α := List (List api_Extent)) H cs x from h)
    subst h
    exact ⟨_, _, rfl, ⟨A0, n0, c0, s0, rfl, h0⟩, rfl⟩, fun h => by
    obtain ⟨v0, r0, e0, ⟨A0, n0, c0, s0, p0, h0⟩, e⟩ := h
    have e : r0 = [] := e
    subst e
    subst e0
    subst p0
    exact (show Dt.rd (α := List (List api_Extent)) H _ x from ⟨A0, n0, c0, s0, rfl, h0⟩)⟩
  cq := @fun l x h => by
    change ofc82 l = some x at h
    unfold ofc82 at h
    split at h
    · obtain ⟨v0, h0, h⟩ := bindS h
      cases h
      exact ⟨_, _, rfl, xS_cq h0, rfl⟩
    · cases h
  eqc := fun d a b c1 c2 hd h1 h2 => by cases hd
def ofc5 : List (SV DD) → Option (DD 5)
 | [a0] => (xY a0).bind fun v0 => some v0
 | _ => none
def ce5 : CE DD := ⟨5, fun x => [.y (x)], ofc5, none⟩
theorem ceOk5 : ce5.Ok where
  rdi := @fun H ρ cs x => ⟨fun h => by
    obtain h := (show Dt.rd (α := BitVec 8) H cs x from h)
    subst h
    exact ⟨_, _, rfl, rfl, rfl⟩, fun h => by
    obtain ⟨v0, r0, e0, p0, e⟩ := h
    have e : r0 = [] := e
    subst e
    subst e0
    have p0 : v0 = _ := p0
    subst p0
    exact (show Dt.rd (α := BitVec 8) H _ x from rfl)⟩
  cq := @fun l x h => by
    change ofc5 l = some x at h
    unfold ofc5 at h
    split at h
    · obtain ⟨v0, h0, h⟩ := bindS h
      cases h
      exact ⟨_, _, rfl, xY_cq h0, rfl⟩
    · cases h
  eqc := fun d a b c1 c2 hd h1 h2 => by cases hd
def ofc56 : List (SV DD) → Option (DD 56)
 | [a0] => (xS 5 a0).bind fun v0 => some v0
 | _ => none
def ce56 : CE DD := ⟨56, fun x => [.fsl 5 (x)], ofc56, none⟩
theorem ceOk56 : ce56.Ok where
  rdi := @fun H ρ cs x => ⟨fun h => by
    obtain ⟨A0, n0, c0, s0, h, h0⟩ := (show Dt.rd (α := List (BitVec 8)) H cs x from h)
    subst h
    exact ⟨_, _, rfl, ⟨A0, n0, c0, s0, rfl, h0⟩, rfl⟩, fun h => by
    obtain ⟨v0, r0, e0, ⟨A0, n0, c0, s0, p0, h0⟩, e⟩ := h
    have e : r0 = [] := e
    subst e
    subst e0
    subst p0
    exact (show Dt.rd (α := List (BitVec 8)) H _ x from ⟨A0, n0, c0, s0, rfl, h0⟩)⟩
  cq := @fun l x h => by
    change ofc56 l = some x at h
    unfold ofc56 at h
    split at h
    · obtain ⟨v0, h0, h⟩ := bindS h
      cases h
      exact ⟨_, _, rfl, xS_cq h0, rfl⟩
    · cases h
  eqc := fun d a b c1 c2 hd h1 h2 => by cases hd
def tab : Tb DD := [ce4, ce61, ce30, ce22, ce3, ce70, ce38, ce25, ce35, ce34, ce42, ce63, ce62, ce36, ce44, ce113, ce28, ce54, ce49, ce50, ce47, ce55, ce82, ce5, ce56]
theorem tabOk : TbOk tab := ⟨ceOk4, ceOk61, ceOk30, ceOk22, ceOk3, ceOk70, ceOk38, ceOk25, ceOk35, ceOk34, ceOk42, ceOk63, ceOk62, ceOk36, ceOk44, ceOk113, ceOk28, ceOk54, ceOk49, ceOk50, ceOk47, ceOk55, ceOk82, ceOk5, ceOk56, trivial⟩
def strK1 : ByteArray := { data := #[1, 4, 1, 2, 5, 1, 0, 2] }
theorem rd3 : ReadsD Tryd.prog 3 (Int) := ReadsD.int Tryd.underlying3 (by kernel_rfl)
theorem rd61 : ReadsD Tryd.prog 61 (BitVec 64) := ReadsD.w64 Tryd.underlying61 (by kernel_rfl)
theorem rd28 : ReadsD Tryd.prog 28 (List (BitVec 64)) := ReadsD.slice Tryd.underlying28 (by kernel_rfl) rd61 (by decide)
instance rg_api_Bitmap : Rg api_Bitmap := ⟨fun x => Rg.rg x.Size ∧ Rg.rg x.Words⟩
theorem rd30 : ReadsD Tryd.prog 30 (api_Bitmap) := (@Reads.struct Tryd.prog 30 _ (Int × List (BitVec 64) × Unit) (@datProd _ _ (datD (Int)) (@datProd _ _ (datD (List (BitVec 64))) datUnit)) Tryd.underlying30 (by kernel_rfl) (@Fields.cons _ _ _ _ _ _ (datD (Int)) _ rfl rd3 (@Fields.cons _ _ _ _ _ _ (datD (List (BitVec 64))) _ rfl rd28 (.nil _)))).map rfl fun {H cs a} h => by
  obtain ⟨a0, a1, _⟩ := a
  obtain ⟨_, _, rfl, ⟨rfl, r0⟩, _, _, rfl, ⟨⟨A2, n2, c2, s2, rfl, hF2⟩, r1⟩, hz⟩ := h
  cases hz
  exact ⟨⟨a0, a1⟩, ⟨A2, n2, c2, s2, rfl, hF2⟩, r0, r1⟩
theorem rd22 : ReadsD Tryd.prog 22 (List api_Bitmap) := ReadsD.slice Tryd.underlying22 (by kernel_rfl) rd30 (by decide)
end Go.Proofs.YtgojhiknicmopaaDoor
namespace Go.Proofs.YtgojhiknicmopaaDoor
open Go.RowKit Go.ChangeShapes Go.WideShapes Go.ChangeAt
theorem Tryd.own : ownKnob Tryd.prog.godebug = none := by kernel_rfl
theorem Tryd.laidOut : laidOutB Tryd.prog = true := by kernel_rfl
theorem Tryd.doorMet (os : Os) (args : Array Value) : laidMetH Tryd.prog [("math/bits.deBruijn64tab", Rows.laid_math_bits_deBruijn64tab)] ((World.doorLaid Tryd.prog 14 os).forCall (fun _ _ => 0) ⟨#[], args, []⟩).memory :=
  laidMetH_of_parts3 (fuel := 8) (laidMet_of_run' 8 (by kernel_rfl) (by kernel_rfl)) (by kernel_rfl) (by kernel_rfl)
theorem tabHolds {W : World} (h : laidMetH Tryd.prog [("math/bits.deBruijn64tab", Rows.laid_math_bits_deBruijn64tab)] W) : TabH (HW W) 0 :=
  tab_of_laid (t := 135) (e := 5) (by kernel_rfl) (by kernel_rfl) Tryd.underlying135 Tryd.underlying5 (by kernel_rfl) (by kernel_rfl) rfl h
theorem lawRes (y : TupD DD [4]) (hy : y.1 = true) {H : Hp} {v : Value} {L : List Ent} (hr : ResR Tryd.prog tab [4] [[false]] y H v L) : ∃ z, z = true ∧ v = .bool z ∧ L = [] := by
  obtain ⟨ρ, _, _, _, _, h1, h2⟩ := hr 0 (fun _ => none) (fun _ _ => rfl) _ _ _ (show resE Tryd.prog tab _ _ y 0 = some (.b y.1, [], 0) by kernel_rfl)
  exact ⟨y.1, hy, h1, h2⟩
theorem pkw22 (v : Value) (cs : List Value) : PkR Tryd.prog 22 v cs = (cs = [v]) := by kernel_rfl
end Go.Proofs.YtgojhiknicmopaaDoor
namespace Go.Proofs.YtgojhiknicmopaaDoor
open Go.RowKit
def Z0 (x0 : List api_Bitmap) (v1 : Int) (rec1 : (Int) → Prop) (Φ : Bool → Prop) : Bool → Prop
 | v2 =>
 (v2 = true →
 inX v1 x0.length ∧
 (200 < ((ix x0 v1).Size) →
 inX v1 x0.length ∧
 (((ix x0 v1).Size) ≤ 4096 →
 Φ false) ∧
 (¬ (((ix x0 v1).Size) ≤ 4096) →
 inX v1 x0.length ∧
 (100 < (((ix x0 v1).Words).length : Int) →
 Φ false) ∧
 (¬ (100 < (((ix x0 v1).Words).length : Int)) →
 inI (v1 + 1) ∧
 rec1 (v1 + 1)))) ∧
 (¬ (200 < ((ix x0 v1).Size)) →
 inX v1 x0.length ∧
 (100 < (((ix x0 v1).Words).length : Int) →
 Φ false) ∧
 (¬ (100 < (((ix x0 v1).Words).length : Int)) →
 inI (v1 + 1) ∧
 rec1 (v1 + 1)))) ∧
 (¬ (v2 = true) →
 Φ (decide ((x0.length : Int) ≤ 20)))
def Z1 (x0 : List api_Bitmap) (Φ : Bool → Prop) : (Int) → ((Int) → Prop) → Prop
 | v1, rec1 =>
 Join (Z0 x0 v1 rec1 Φ) fun J2 =>
 (v1 < (x0.length : Int) →
 J2 (decide (v1 < 20))) ∧
 (¬ (v1 < (x0.length : Int)) →
 J2 false)
def Z2 (x0 : List api_Bitmap) (Φ : Bool → Prop) : Prop :=
 LoopW (Z1 x0 Φ) 0
def Z3 (x0 : Int) (Φ : Bool → Prop) : Prop :=
 (x0 < 1 →
 Φ true) ∧
 (¬ (x0 < 1) →
 Φ (decide (4096 < x0)))
def Z4 (x0 : List Int) (Φ : Int → Prop) : (Int) → ((Int) → Prop) → Prop
 | v1, rec1 =>
 (v1 < (x0.length : Int) →
 inX v1 x0.length ∧
 Z3 (ix x0 v1) fun v2 =>
 (v2 = true →
 (0 ≤ v1 →
 Φ 2) ∧
 (¬ (0 ≤ v1) →
 Φ 0)) ∧
 (¬ (v2 = true) →
 inI (v1 + 1) ∧
 rec1 (v1 + 1))) ∧
 (¬ (v1 < (x0.length : Int)) →
 (0 ≤ ((-1) : Int) →
 Φ 2) ∧
 (¬ (0 ≤ ((-1) : Int)) →
 Φ 0))
def Z5 (x0 : List Int) (Φ : Int → Prop) : Prop :=
 ((x0.length : Int) < 1 →
 Φ 6) ∧
 (¬ ((x0.length : Int) < 1) →
 (8 < (x0.length : Int) →
 Φ 6) ∧
 (¬ (8 < (x0.length : Int)) →
 LoopW (Z4 x0 Φ) 0))
def image_New_1_W (x0 : Int) (Φ : List Sec → Prop) : Prop :=
 0 ≤ x0 ∧
 lenOk x0.toNat 8 ∧
 Φ (List.replicate x0.toNat (sec0 : Sec))
def image_New_L1 (x0 : List Int) (Φ : List (List Sec) × Int → Prop) : (Int × List (List Sec)) → ((Int × List (List Sec)) → Prop) → Prop
 | (v2, v3), rec1 =>
 (v2 < (x0.length : Int) →
 inX v2 x0.length ∧
 image_New_1_W (ix x0 v2) fun v4 =>
 lenOk (v3 ++ ([v4] : List (List Sec))).length 24 ∧
 inI (v2 + 1) ∧
 rec1 ((v2 + 1), (v3 ++ ([v4] : List (List Sec))))) ∧
 (¬ (v2 < (x0.length : Int)) →
 Φ (v3, 0))
def image_New_W (x0 : List Int) (Φ : List (List Sec) × Int → Prop) : Prop :=
 Z5 x0 fun v1 =>
 (v1 ≠ 0 →
 Φ (([] : List (List Sec)), v1)) ∧
 (¬ (v1 ≠ 0) →
 0 ≤ (x0.length : Int) ∧
 lenOk (x0.length : Int).toNat 24 ∧
 LoopW (image_New_L1 x0 Φ) (0, ([] : List (List Sec))))
def Z6 (x0 : Int) (x1 : Int) (x2 : Int) (Φ : Bool → Prop) : Prop :=
 (x1 ≤ x0 →
 Φ (decide (x0 ≤ x2))) ∧
 (¬ (x1 ≤ x0) →
 Φ false)
def Z7 (x0 : Int) (Φ : Bool → Prop) : Prop :=
 Z6 x0 0 3 fun v1 =>
 Φ v1
def Z8 (x0 : Int) (Φ : Int → Prop) : Prop :=
 inI (x0 + 64) ∧
 inI ((x0 + 64) - 1) ∧
 (0 ≤ ((x0 + 64) - 1) ∧ inI ((x0 + 64) - 1) ∧ (0 : Int) < 64) ∧
 Φ (((x0 + 64) - 1) / 64)
def bitmap_New_J1 (x0 : Int) (Φ : api_Bitmap × Int → Prop) : Bool → Prop
 | v1 =>
 (v1 = true →
 Φ ((api_Bitmap.mk 0 ([] : List (BitVec 64))), 2)) ∧
 (¬ (v1 = true) →
 Z8 x0 fun v2 =>
 0 ≤ v2 ∧
 lenOk v2.toNat 8 ∧
 Φ ((api_Bitmap.mk x0 (List.replicate v2.toNat (0#64 : BitVec 64))), 0))
def bitmap_New_W (x0 : Int) (Φ : api_Bitmap × Int → Prop) : Prop :=
 Join (bitmap_New_J1 x0 Φ) fun J1 =>
 (x0 < 0 →
 J1 true) ∧
 (¬ (x0 < 0) →
 J1 (decide (4096 < x0)))
def Z9 (x0 : List Int) (Φ : List api_Bitmap × Int → Prop) : (Int × List api_Bitmap) → ((Int × List api_Bitmap) → Prop) → Prop
 | (v1, v2), rec1 =>
 (v1 < (x0.length : Int) →
 inX v1 x0.length ∧
 bitmap_New_W (ix x0 v1) fun v3 =>
 (v3.2 ≠ 0 →
 Φ (([] : List api_Bitmap), v3.2)) ∧
 (¬ (v3.2 ≠ 0) →
 lenOk (v2 ++ ([v3.1] : List api_Bitmap)).length 32 ∧
 inI (v1 + 1) ∧
 rec1 ((v1 + 1), (v2 ++ ([v3.1] : List api_Bitmap))))) ∧
 (¬ (v1 < (x0.length : Int)) →
 Φ (v2, 0))
def Z10 (x0 : List Int) (Φ : List api_Bitmap × Int → Prop) : Prop :=
 LoopW (Z9 x0 Φ) (0, ([] : List api_Bitmap))
def Z11 (x0 : List Int) (Φ : List Int → Prop) : Prop :=
 (x0 = [] →
 Φ ([] : List Int)) ∧
 (
 lenOk (([] : List Int) ++ x0).length 8 ∧
 Φ (([] : List Int) ++ x0))
def Z12 (v5 : List (Int × api_Peer)) (v8 : List Int) (Φ : api_Tracker × Int → Prop) : (Int × List api_Peer) → ((Int × List api_Peer) → Prop) → Prop
 | (v9, v10), rec3 =>
 (v9 < ((sortZ (v5.map fun p => p.1)).length : Int) →
 inX v9 (sortZ (v5.map fun p => p.1)).length ∧
 lenOk (v10 ++ ([(mget v5 (ix (sortZ (v5.map fun p => p.1)) v9) (api_Peer.mk 0 0 ([] : List api_Bitmap)))] : List api_Peer)).length 40 ∧
 inI (v9 + 1) ∧
 rec3 ((v9 + 1), (v10 ++ ([(mget v5 (ix (sortZ (v5.map fun p => p.1)) v9) (api_Peer.mk 0 0 ([] : List api_Bitmap)))] : List api_Peer)))) ∧
 (¬ (v9 < ((sortZ (v5.map fun p => p.1)).length : Int)) →
 Φ ((api_Tracker.mk v8 v10), 0))
def Z13 (x0 : List Int) (x1 : List Int) (x2 : Int) (Φ : api_Tracker × Int → Prop) : (Int × (List (Int × api_Peer))) → ((Int × (List (Int × api_Peer))) → Prop) → Prop
 | (v4, v5), rec2 =>
 (v4 < (x1.length : Int) →
 inX v4 x1.length ∧
 ((mhas v5 (ix x1 v4)) = true →
 Φ ((api_Tracker.mk ([] : List Int) ([] : List api_Peer)), 8)) ∧
 (¬ ((mhas v5 (ix x1 v4)) = true) →
 Z10 x0 fun v6 =>
 (v6.2 ≠ 0 →
 Φ ((api_Tracker.mk ([] : List Int) ([] : List api_Peer)), v6.2)) ∧
 (¬ (v6.2 ≠ 0) →
 inI (v4 + 1) ∧
 rec2 ((v4 + 1), (mput v5 (ix x1 v4) (api_Peer.mk (ix x1 v4) x2 v6.1)))))) ∧
 (¬ (v4 < (x1.length : Int)) →
 Z6 x2 0 1073741824 fun v7 =>
 (¬ (v7 = true) →
 Φ ((api_Tracker.mk ([] : List Int) ([] : List api_Peer)), 2)) ∧
 (¬ (¬ (v7 = true)) →
 Z11 x0 fun v8 =>
 (v5.map fun p => p.1).Nodup ∧
 (∀ p, p ∈ v5 → inI p.1) ∧
 lenOk v5.length 8 ∧
 LoopW (Z12 v5 v8 Φ) (0, ([] : List api_Peer))))
def Z14 (x0 : List Int) (x1 : List Int) (x2 : Int) (Φ : api_Tracker × Int → Prop) : (Int) → ((Int) → Prop) → Prop
 | v2, rec1 =>
 (v2 < (x1.length : Int) →
 inX v2 x1.length ∧
 Z7 (ix x1 v2) fun v3 =>
 (¬ (v3 = true) →
 Φ ((api_Tracker.mk ([] : List Int) ([] : List api_Peer)), 2)) ∧
 (¬ (¬ (v3 = true)) →
 inI (v2 + 1) ∧
 rec1 (v2 + 1))) ∧
 (¬ (v2 < (x1.length : Int)) →
 LoopW (Z13 x0 x1 x2 Φ) (0, ([] : List (Int × api_Peer))))
def tracker_New_W (x0 : List Int) (x1 : List Int) (x2 : Int) (Φ : api_Tracker × Int → Prop) : Prop :=
 image_New_W x0 fun v1 =>
 (v1.2 ≠ 0 →
 Φ ((api_Tracker.mk ([] : List Int) ([] : List api_Peer)), v1.2)) ∧
 (¬ (v1.2 ≠ 0) →
 (4 < (x1.length : Int) →
 Φ ((api_Tracker.mk ([] : List Int) ([] : List api_Peer)), 6)) ∧
 (¬ (4 < (x1.length : Int)) →
 LoopW (Z14 x0 x1 x2 Φ) 0))
def Z15 (x0 : api_Bitmap) (Φ : Int → Prop) : Prop :=
 (x0.Size < 0 →
 Φ 3) ∧
 (¬ (x0.Size < 0) →
 (4096 < x0.Size →
 Φ 3) ∧
 (¬ (4096 < x0.Size) →
 ∃ v1 : Int × Unit, Z8 x0.Size (fun z => (z, ()) = v1) ∧
 ((x0.Words.length : Int) ≠ v1.1 →
 Φ 3) ∧
 (¬ ((x0.Words.length : Int) ≠ v1.1) →
 (0 ≤ x0.Size ∧ 64 ≠ (0 : Int)) ∧
 (0 < (x0.Size % 64) →
 inI ((x0.Words.length : Int) - 1) ∧
 inX ((x0.Words.length : Int) - 1) x0.Words.length ∧
 0 ≤ (x0.Size % 64) ∧
 (((ix x0.Words ((x0.Words.length : Int) - 1)) >>> ((x0.Size % 64) : Int).toNat) ≠ (0#64) →
 Φ 3) ∧
 (¬ (((ix x0.Words ((x0.Words.length : Int) - 1)) >>> ((x0.Size % 64) : Int).toNat) ≠ (0#64)) →
 Φ 0)) ∧
 (¬ (0 < (x0.Size % 64)) →
 Φ 0))))
def Z16 (x0 : api_Bitmap) (x1 : Int) (Φ : Bool × Int → Prop) : Prop :=
 Z15 x0 fun v1 =>
 (v1 ≠ 0 →
 Φ (false, v1)) ∧
 (¬ (v1 ≠ 0) →
 (x0.Size ≠ x1 →
 Φ (false, 22)) ∧
 (¬ (x0.Size ≠ x1) →
 Φ (true, 0)))
def Z17 (x0 : List api_Bitmap) (x1 : List Int) (Φ : Int → Prop) : (Int × List Bool) → ((Int × List Bool) → Prop) → Prop
 | (v1, v2), rec1 =>
 (v1 < (x0.length : Int) →
 inX v1 x0.length ∧
 inX v1 x1.length ∧
 ∃ v3 : Bool × Int × Unit, Z16 (ix x0 v1) (ix x1 v1) (fun z => (z.1, z.2, ()) = v3) ∧
 (v3.2.1 ≠ 0 →
 Φ v3.2.1) ∧
 (¬ (v3.2.1 ≠ 0) →
 lenOk (v2 ++ ([v3.1] : List Bool)).length 1 ∧
 inI (v1 + 1) ∧
 rec1 ((v1 + 1), (v2 ++ ([v3.1] : List Bool))))) ∧
 (¬ (v1 < (x0.length : Int)) →
 Φ 0)
def Z18 (x0 : List api_Bitmap) (x1 : List Int) (Φ : Int → Prop) : Prop :=
 ((x0.length : Int) ≠ (x1.length : Int) →
 Φ 6) ∧
 (¬ ((x0.length : Int) ≠ (x1.length : Int)) →
 LoopW (Z17 x0 x1 Φ) (0, ([] : List Bool)))
def Z19 (x0 : api_Tracker) (Φ : Int → Prop) : (Int × Int) → ((Int × Int) → Prop) → Prop
 | (v2, v3), rec1 =>
 (v3 < (x0.Peers.length : Int) →
 inX v3 x0.Peers.length ∧
 Z7 ((ix x0.Peers v3).Site) fun v4 =>
 (¬ (v4 = true) →
 Φ 2) ∧
 (¬ (¬ (v4 = true)) →
 (((ix x0.Peers v3).Site) ≤ v2 →
 Φ 8) ∧
 (¬ (((ix x0.Peers v3).Site) ≤ v2) →
 Z6 ((ix x0.Peers v3).Common) 0 1073741824 fun v5 =>
 (¬ (v5 = true) →
 Φ 2) ∧
 (¬ (¬ (v5 = true)) →
 Z18 ((ix x0.Peers v3).Dirty) x0.Sizes fun v6 =>
 (v6 ≠ 0 →
 Φ v6) ∧
 (¬ (v6 ≠ 0) →
 inI (v3 + 1) ∧
 rec1 ((ix x0.Peers v3).Site, (v3 + 1))))))) ∧
 (¬ (v3 < (x0.Peers.length : Int)) →
 Φ 0)
def Z20 (x0 : api_Tracker) (Φ : Int → Prop) : Prop :=
 image_New_W x0.Sizes fun v1 =>
 (v1.2 ≠ 0 →
 Φ v1.2) ∧
 (¬ (v1.2 ≠ 0) →
 (4 < (x0.Peers.length : Int) →
 Φ 6) ∧
 (¬ (4 < (x0.Peers.length : Int)) →
 LoopW (Z19 x0 Φ) ((-1), 0)))
def Z21 (x0 : List Sec) (Φ : Int → Prop) : Prop :=
 Φ (x0.length : Int)
def Z22 (x0 : List (List Sec)) (Φ : List Int → Prop) : (Int × List Int) → ((Int × List Int) → Prop) → Prop
 | (v1, v2), rec1 =>
 (v1 < (x0.length : Int) →
 inX v1 x0.length ∧
 Z21 (ix x0 v1) fun v3 =>
 lenOk (v2 ++ ([v3] : List Int)).length 8 ∧
 inI (v1 + 1) ∧
 rec1 ((v1 + 1), (v2 ++ ([v3] : List Int)))) ∧
 (¬ (v1 < (x0.length : Int)) →
 Φ v2)
def image_sizes_W (x0 : List (List Sec)) (Φ : List Int → Prop) : Prop :=
 0 ≤ (x0.length : Int) ∧
 lenOk (x0.length : Int).toNat 8 ∧
 LoopW (Z22 x0 Φ) (0, ([] : List Int))
def image_Check_W (x0 : List (List Sec)) (Φ : Int → Prop) : Prop :=
 image_sizes_W x0 fun v1 =>
 Z5 v1 fun v2 =>
 Φ v2
def image_fits_J1 (x0 : List (List Sec)) (x1 : api_Write) (Φ : Int → Prop) : Bool → Prop
 | v1 =>
 (v1 = true →
 Φ 7) ∧
 (¬ (v1 = true) →
 ((x1.Data.length : Int) = 0 →
 Φ 1) ∧
 (¬ ((x1.Data.length : Int) = 0) →
 (x1.Start < 0 →
 Φ 2) ∧
 (¬ (x1.Start < 0) →
 inX x1.Volume x0.length ∧
 inI (((ix x0 x1.Volume).length : Int) - (x1.Data.length : Int)) ∧
 ((((ix x0 x1.Volume).length : Int) - (x1.Data.length : Int)) < x1.Start →
 Φ 2) ∧
 (¬ ((((ix x0 x1.Volume).length : Int) - (x1.Data.length : Int)) < x1.Start) →
 Φ 0))))
def image_fits_W (x0 : List (List Sec)) (x1 : api_Write) (Φ : Int → Prop) : Prop :=
 Join (image_fits_J1 x0 x1 Φ) fun J1 =>
 (x1.Volume < 0 →
 J1 true) ∧
 (¬ (x1.Volume < 0) →
 J1 (decide ((x0.length : Int) ≤ x1.Volume)))
def image_Fits_W (x0 : List (List Sec)) (x1 : api_Write) (Φ : Int → Prop) : Prop :=
 image_Check_W x0 fun v1 =>
 (v1 ≠ 0 →
 Φ v1) ∧
 (¬ (v1 ≠ 0) →
 image_fits_W x0 x1 fun v2 =>
 Φ v2)
def Z23 (x0 : List (BitVec 64)) (Φ : List (BitVec 64) → Prop) : Prop :=
 (x0 = [] →
 Φ ([] : List (BitVec 64))) ∧
 (
 lenOk (([] : List (BitVec 64)) ++ x0).length 8 ∧
 Φ (([] : List (BitVec 64)) ++ x0))
def tracker_own_W (x0 : api_Bitmap) (Φ : api_Bitmap → Prop) : Prop :=
 ∃ v1 : List (BitVec 64) × Unit, Z23 x0.Words (fun z => (z, ()) = v1) ∧
 Φ (api_Bitmap.mk x0.Size v1.1)
def Z24 (x0 : List api_Bitmap) (Φ : List api_Bitmap → Prop) : (Int × List api_Bitmap) → ((Int × List api_Bitmap) → Prop) → Prop
 | (v1, v2), rec1 =>
 (v1 < (x0.length : Int) →
 inX v1 x0.length ∧
 tracker_own_W (ix x0 v1) fun v3 =>
 lenOk (v2 ++ ([v3] : List api_Bitmap)).length 32 ∧
 inI (v1 + 1) ∧
 rec1 ((v1 + 1), (v2 ++ ([v3] : List api_Bitmap)))) ∧
 (¬ (v1 < (x0.length : Int)) →
 Φ v2)
def Z25 (x0 : List api_Bitmap) (Φ : List api_Bitmap → Prop) : Prop :=
 LoopW (Z24 x0 Φ) (0, ([] : List api_Bitmap))
def bitmap_fits_W (x0 : api_Extent) (x1 : Int) (Φ : Bool → Prop) : Prop :=
 (0 ≤ x0.Start →
 (0 ≤ x0.Count →
 (x0.Start ≤ x1 →
 inI (x1 - x0.Start) ∧
 Φ (decide (x0.Count ≤ (x1 - x0.Start)))) ∧
 (¬ (x0.Start ≤ x1) →
 Φ false)) ∧
 (¬ (0 ≤ x0.Count) →
 Φ false)) ∧
 (¬ (0 ≤ x0.Start) →
 Φ false)
def bitmap_mask_W (x0 : Int) (x1 : Int) (x2 : Int) (Φ : BitVec 64 → Prop) : Prop :=
 inI (x0 * 64) ∧
 inI (x1 - (x0 * 64)) ∧
 inI (x0 * 64) ∧
 inI (x2 - (x0 * 64)) ∧
 ((if 64 < (x2 - (x0 * 64)) then 64 else (x2 - (x0 * 64))) ≤ (if (x1 - (x0 * 64)) < 0 then 0 else (x1 - (x0 * 64))) →
 Φ (0#64)) ∧
 (¬ ((if 64 < (x2 - (x0 * 64)) then 64 else (x2 - (x0 * 64))) ≤ (if (x1 - (x0 * 64)) < 0 then 0 else (x1 - (x0 * 64)))) →
 inI ((if 64 < (x2 - (x0 * 64)) then 64 else (x2 - (x0 * 64))) - (if (x1 - (x0 * 64)) < 0 then 0 else (x1 - (x0 * 64)))) ∧
 inI (64 - ((if 64 < (x2 - (x0 * 64)) then 64 else (x2 - (x0 * 64))) - (if (x1 - (x0 * 64)) < 0 then 0 else (x1 - (x0 * 64))))) ∧
 0 ≤ (64 - ((if 64 < (x2 - (x0 * 64)) then 64 else (x2 - (x0 * 64))) - (if (x1 - (x0 * 64)) < 0 then 0 else (x1 - (x0 * 64))))) ∧
 0 ≤ (if (x1 - (x0 * 64)) < 0 then 0 else (x1 - (x0 * 64))) ∧
 Φ (((18446744073709551615#64) >>> ((64 - ((if 64 < (x2 - (x0 * 64)) then 64 else (x2 - (x0 * 64))) - (if (x1 - (x0 * 64)) < 0 then 0 else (x1 - (x0 * 64))))) : Int).toNat) <<< ((if (x1 - (x0 * 64)) < 0 then 0 else (x1 - (x0 * 64))) : Int).toNat))
def Z26 (x0 : BitVec 64) (x1 : BitVec 64) (Φ : BitVec 64 → Prop) : Prop :=
 Φ (x0 ||| x1)
def bitmap_Set_L1 (x0 : api_Bitmap) (x1 : api_Extent) (v3 : List (BitVec 64)) (Φ : api_Bitmap × Int → Prop) : (Int × List (BitVec 64)) → ((Int × List (BitVec 64)) → Prop) → Prop
 | (v4, v5), rec1 =>
 (v4 < (v3.length : Int) →
 inX v4 v5.length ∧
 inI (x1.Start + x1.Count) ∧
 ∃ v6 : BitVec 64 × Unit, bitmap_mask_W v4 x1.Start (x1.Start + x1.Count) (fun z => (z, ()) = v6) ∧
 ∃ v7 : BitVec 64 × Unit, Z26 (ix v5 v4) v6.1 (fun z => (z, ()) = v7) ∧
 inX v4 v5.length ∧
 inI (v4 + 1) ∧
 rec1 ((v4 + 1), (put v5 v4 v7.1))) ∧
 (¬ (v4 < (v3.length : Int)) →
 Φ ((api_Bitmap.mk x0.Size v5), 0))
def bitmap_Set_W (x0 : api_Bitmap) (x1 : api_Extent) (Φ : api_Bitmap × Int → Prop) : Prop :=
 Z15 x0 fun v1 =>
 (v1 ≠ 0 →
 Φ ((api_Bitmap.mk 0 ([] : List (BitVec 64))), v1)) ∧
 (¬ (v1 ≠ 0) →
 bitmap_fits_W x1 x0.Size fun v2 =>
 (¬ (v2 = true) →
 Φ ((api_Bitmap.mk 0 ([] : List (BitVec 64))), 2)) ∧
 (¬ (¬ (v2 = true)) →
 Z23 x0.Words fun v3 =>
 LoopW (bitmap_Set_L1 x0 x1 v3 Φ) (0, v3)))
def Z27 (v8 : List ((Int × api_Peer) × List api_Bitmap)) (v10 : List Int) (Φ : api_Tracker × Int → Prop) : (Int × List api_Peer) → ((Int × List api_Peer) → Prop) → Prop
 | (v11, v12), rec3 =>
 (v11 < ((sortZ ((v8.map fun p => (p.1.1, (api_Peer.mk p.1.2.Site p.1.2.Common p.2))).map fun p => p.1)).length : Int) →
 inX v11 (sortZ ((v8.map fun p => (p.1.1, (api_Peer.mk p.1.2.Site p.1.2.Common p.2))).map fun p => p.1)).length ∧
 lenOk (v12 ++ ([(mget (v8.map fun p => (p.1.1, (api_Peer.mk p.1.2.Site p.1.2.Common p.2))) (ix (sortZ ((v8.map fun p => (p.1.1, (api_Peer.mk p.1.2.Site p.1.2.Common p.2))).map fun p => p.1)) v11) (api_Peer.mk 0 0 ([] : List api_Bitmap)))] : List api_Peer)).length 40 ∧
 inI (v11 + 1) ∧
 rec3 ((v11 + 1), (v12 ++ ([(mget (v8.map fun p => (p.1.1, (api_Peer.mk p.1.2.Site p.1.2.Common p.2))) (ix (sortZ ((v8.map fun p => (p.1.1, (api_Peer.mk p.1.2.Site p.1.2.Common p.2))).map fun p => p.1)) v11) (api_Peer.mk 0 0 ([] : List api_Bitmap)))] : List api_Peer)))) ∧
 (¬ (v11 < ((sortZ ((v8.map fun p => (p.1.1, (api_Peer.mk p.1.2.Site p.1.2.Common p.2))).map fun p => p.1)).length : Int)) →
 Φ ((api_Tracker.mk v10 v12), 0))
def Z28 (x1 : api_Write) (v7 : (Nat × List Nat)) (v8 : List ((Int × api_Peer) × List api_Bitmap)) (rec2 : (((Nat × List Nat)) × (List ((Int × api_Peer) × List api_Bitmap))) → Prop) (i9 : Nat) (Φ : api_Tracker × Int → Prop) : (Int × List api_Bitmap) → ((Int × List api_Bitmap) → Prop) → Prop
 | (v13, v14), rec4 =>
 (v13 < (([x1] : List api_Write).length : Int) →
 inX v13 ([x1] : List api_Write).length ∧
 inX ((ix ([x1] : List api_Write) v13).Volume) v14.length ∧
 ∃ v15 : api_Bitmap × Int × Unit, bitmap_Set_W (ix v14 ((ix ([x1] : List api_Write) v13).Volume)) (api_Extent.mk ((ix ([x1] : List api_Write) v13).Start) (((ix ([x1] : List api_Write) v13).Data).length : Int)) (fun z => (z.1, z.2, ()) = v15) ∧
 (v15.2.1 ≠ 0 →
 (v15.2.1 ≠ 0 →
 Φ ((api_Tracker.mk ([] : List Int) ([] : List api_Peer)), v15.2.1)) ∧
 (¬ (v15.2.1 ≠ 0) →
 False)) ∧
 (¬ (v15.2.1 ≠ 0) →
 inX ((ix ([x1] : List api_Write) v13).Volume) v14.length ∧
 inI (v13 + 1) ∧
 rec4 ((v13 + 1), (put v14 ((ix ([x1] : List api_Write) v13).Volume) v15.1)))) ∧
 (¬ (v13 < (([x1] : List api_Write).length : Int)) →
 ((0 : Int) ≠ 0 →
 Φ ((api_Tracker.mk ([] : List Int) ([] : List api_Peer)), 0)) ∧
 (¬ ((0 : Int) ≠ 0) →
 i9 < v8.length ∧
 (entD v8 i9).1.1 = ((entD v8 i9).1.1) ∧
 (∀ i, i < i9 → (entD v8 i).1.1 ≠ ((entD v8 i9).1.1)) ∧
 rec2 ((v7.1, (i9 :: v7.2)), (v8.set i9 ((((entD v8 i9).1.1), (api_Peer.mk (((entD v8 i9).1.2).Site) (((entD v8 i9).1.2).Common) ([] : List api_Bitmap))), v14)))))
def Z29 (x0 : api_Tracker) (x1 : api_Write) (Φ : api_Tracker × Int → Prop) : (((Nat × List Nat)) × (List ((Int × api_Peer) × List api_Bitmap))) → ((((Nat × List Nat)) × (List ((Int × api_Peer) × List api_Bitmap))) → Prop) → Prop
 | (v7, v8), rec2 =>
 v8.length = v7.1 ∧ ((∀ i, i < v8.length → i ∈ v7.2) →
 Z11 x0.Sizes fun v10 =>
 (∀ p, p ∈ v8 → true = true) ∧
 ((v8.map fun p => (p.1.1, (api_Peer.mk p.1.2.Site p.1.2.Common p.2))).map fun p => p.1).Nodup ∧
 (∀ p, p ∈ (v8.map fun p => (p.1.1, (api_Peer.mk p.1.2.Site p.1.2.Common p.2))) → inI p.1) ∧
 lenOk (v8.map fun p => (p.1.1, (api_Peer.mk p.1.2.Site p.1.2.Common p.2))).length 8 ∧
 LoopW (Z27 v8 v10 Φ) (0, ([] : List api_Peer))) ∧
 ∀ i9, i9 < v8.length → i9 ∉ v7.2 →
 v8.length = v7.1 ∧
 i9 < v8.length ∧
 i9 = i9 ∧
 LoopW (Z28 x1 v7 v8 rec2 i9 Φ) (0, (entD v8 i9).2)
def Z30 (x0 : api_Tracker) (x1 : api_Write) (Φ : api_Tracker × Int → Prop) : (Int × (List ((Int × api_Peer) × List api_Bitmap))) → ((Int × (List ((Int × api_Peer) × List api_Bitmap))) → Prop) → Prop
 | (v4, v5), rec1 =>
 (v4 < (x0.Peers.length : Int) →
 inX v4 x0.Peers.length ∧
 Z25 ((ix x0.Peers v4).Dirty) fun v6 =>
 mhas (v5.map fun p => p.1) ((ix x0.Peers v4).Site) = false ∧
 inI (v4 + 1) ∧
 rec1 ((v4 + 1), (v5 ++ [((((ix x0.Peers v4).Site), (api_Peer.mk ((ix x0.Peers v4).Site) ((ix x0.Peers v4).Common) ([] : List api_Bitmap))), v6)]))) ∧
 (¬ (v4 < (x0.Peers.length : Int)) →
 LoopW (Z29 x0 x1 Φ) ((v5.length, []), v5))
def Z31 (x0 : api_Tracker) (x1 : api_Write) (Φ : api_Tracker × Int → Prop) : Prop :=
 Z20 x0 fun v1 =>
 (v1 ≠ 0 →
 Φ ((api_Tracker.mk ([] : List Int) ([] : List api_Peer)), v1)) ∧
 (¬ (v1 ≠ 0) →
 image_New_W x0.Sizes fun v2 =>
 (v2.2 ≠ 0 →
 Φ ((api_Tracker.mk ([] : List Int) ([] : List api_Peer)), v2.2)) ∧
 (¬ (v2.2 ≠ 0) →
 image_Fits_W v2.1 x1 fun v3 =>
 (v3 ≠ 0 →
 Φ ((api_Tracker.mk ([] : List Int) ([] : List api_Peer)), v3)) ∧
 (¬ (v3 ≠ 0) →
 LoopW (Z30 x0 x1 Φ) (0, ([] : List ((Int × api_Peer) × List api_Bitmap))))))
def Z32 (x0 : api_Tracker) (x1 : Int) (Φ : List api_Bitmap × Int × Int → Prop) : (Int × (List (Int × api_Peer))) → ((Int × (List (Int × api_Peer))) → Prop) → Prop
 | (v2, v3), rec1 =>
 (v2 < (x0.Peers.length : Int) →
 inX v2 x0.Peers.length ∧
 Z25 ((ix x0.Peers v2).Dirty) fun v4 =>
 inI (v2 + 1) ∧
 rec1 ((v2 + 1), (mput v3 ((ix x0.Peers v2).Site) (api_Peer.mk ((ix x0.Peers v2).Site) ((ix x0.Peers v2).Common) v4)))) ∧
 (¬ (v2 < (x0.Peers.length : Int)) →
 (¬ ((mhas v3 x1) = true) →
 Φ (([] : List api_Bitmap), 0, 7)) ∧
 (¬ (¬ ((mhas v3 x1) = true)) →
 Φ ((mget v3 x1 (api_Peer.mk 0 0 ([] : List api_Bitmap))).Dirty, (mget v3 x1 (api_Peer.mk 0 0 ([] : List api_Bitmap))).Common, 0)))
def Z33 (x0 : api_Tracker) (x1 : Int) (Φ : List api_Bitmap × Int × Int → Prop) : Prop :=
 Z20 x0 fun v1 =>
 (v1 ≠ 0 →
 Φ (([] : List api_Bitmap), 0, v1)) ∧
 (¬ (v1 ≠ 0) →
 LoopW (Z32 x0 x1 Φ) (0, ([] : List (Int × api_Peer))))
def cycle_in_W (x0 : Int) (x1 : Int) (x2 : Int) (Φ : Bool → Prop) : Prop :=
 (x1 ≤ x0 →
 Φ (decide (x0 ≤ x2))) ∧
 (¬ (x1 ≤ x0) →
 Φ false)
def Z34 (x0 : Int) (Φ : Bool → Prop) : Prop :=
 cycle_in_W x0 0 1073741824 fun v1 =>
 Φ (decide (¬ (v1 = true)))
def Z35 (x0 : List Int) (Φ : Int → Prop) : (Int) → ((Int) → Prop) → Prop
 | v2, rec1 =>
 (v2 < (x0.length : Int) →
 inX v2 x0.length ∧
 Z34 (ix x0 v2) fun v3 =>
 (v3 = true →
 (0 ≤ v2 →
 Φ 2) ∧
 (¬ (0 ≤ v2) →
 Φ 0)) ∧
 (¬ (v3 = true) →
 inI (v2 + 1) ∧
 rec1 (v2 + 1))) ∧
 (¬ (v2 < (x0.length : Int)) →
 (0 ≤ ((-1) : Int) →
 Φ 2) ∧
 (¬ (0 ≤ ((-1) : Int)) →
 Φ 0))
def Z36 (x0 : List Int) (x1 : Int) (Φ : Int → Prop) : Prop :=
 cycle_in_W (x0.length : Int) x1 8 fun v1 =>
 (¬ (v1 = true) →
 Φ 6) ∧
 (¬ (¬ (v1 = true)) →
 LoopW (Z35 x0 Φ) 0)
def Z37 (x0 : List api_Write) (v1 : List (List Sec) × Int) (Φ : Int → Prop) : (Int) → ((Int) → Prop) → Prop
 | v2, rec1 =>
 (v2 < (x0.length : Int) →
 inX v2 x0.length ∧
 image_Fits_W v1.1 (ix x0 v2) fun v3 =>
 (v3 ≠ 0 →
 Φ v3) ∧
 (¬ (v3 ≠ 0) →
 (v2 = 0 →
 inI (v2 + 1) ∧
 rec1 (v2 + 1)) ∧
 (¬ (v2 = 0) →
 inI (v2 - 1) ∧
 inX (v2 - 1) x0.length ∧
 (((ix x0 v2).Volume) < ((ix x0 (v2 - 1)).Volume) →
 Φ 3) ∧
 (¬ (((ix x0 v2).Volume) < ((ix x0 (v2 - 1)).Volume)) →
 (((ix x0 v2).Volume) = ((ix x0 (v2 - 1)).Volume) →
 inI (((ix x0 (v2 - 1)).Start) + (((ix x0 (v2 - 1)).Data).length : Int)) ∧
 (((ix x0 v2).Start) ≤ (((ix x0 (v2 - 1)).Start) + (((ix x0 (v2 - 1)).Data).length : Int)) →
 Φ 3) ∧
 (¬ (((ix x0 v2).Start) ≤ (((ix x0 (v2 - 1)).Start) + (((ix x0 (v2 - 1)).Data).length : Int))) →
 inI (v2 + 1) ∧
 rec1 (v2 + 1))) ∧
 (¬ (((ix x0 v2).Volume) = ((ix x0 (v2 - 1)).Volume)) →
 inI (v2 + 1) ∧
 rec1 (v2 + 1)))))) ∧
 (¬ (v2 < (x0.length : Int)) →
 Φ 0)
def Z38 (x0 : List api_Write) (x1 : List Int) (Φ : Int → Prop) : Prop :=
 image_New_W x1 fun v1 =>
 (v1.2 ≠ 0 →
 Φ v1.2) ∧
 (¬ (v1.2 ≠ 0) →
 LoopW (Z37 x0 v1 Φ) 0)
def Z39 (x0 : api_Cycle) (x1 : List Int) (Φ : Int → Prop) : Bool → Prop
 | v2 =>
 (v2 = true →
 Φ 2) ∧
 (¬ (v2 = true) →
 cycle_in_W x0.Time 0 1073741824 fun v3 =>
 (¬ (v3 = true) →
 Φ 24) ∧
 (¬ (¬ (v3 = true)) →
 Z36 x0.Positions 0 fun v4 =>
 (v4 ≠ 0 →
 Φ v4) ∧
 (¬ (v4 ≠ 0) →
 Z38 x0.Writes x1 fun v5 =>
 Φ v5)))
def cycle_Check_W (x0 : api_Cycle) (x1 : List Int) (Φ : Int → Prop) : Prop :=
 image_New_W x1 fun v1 =>
 (v1.2 ≠ 0 →
 Φ v1.2) ∧
 (¬ (v1.2 ≠ 0) →
 Join (Z39 x0 x1 Φ) fun J1 =>
 (x0.Base < 0 →
 J1 true) ∧
 (¬ (x0.Base < 0) →
 (x0.Number ≤ x0.Base →
 J1 true) ∧
 (¬ (x0.Number ≤ x0.Base) →
 J1 (decide (1073741824 < x0.Number)))))
def Z40 (x3 : List api_Cycle) (v8 : Int) (rec2 : (Int × Int × List api_Bitmap) → Prop) (Φ : api_Tracker × Int → Prop) : Int × List api_Bitmap → Prop
 | (v11, v12) =>
 (v11 ≠ 0 →
 Φ ((api_Tracker.mk ([] : List Int) ([] : List api_Peer)), v11)) ∧
 (¬ (v11 ≠ 0) →
 inI (v8 + 1) ∧
 rec2 ((ix x3 v8).Number, (v8 + 1), v12))
def Z41 (x3 : List api_Cycle) (v8 : Int) (J3 : (Int × List api_Bitmap) → Prop) (_ : api_Tracker × Int → Prop) : (Int × List api_Bitmap) → ((Int × List api_Bitmap) → Prop) → Prop
 | (v13, v14), rec4 =>
 (v13 < (((ix x3 v8).Writes).length : Int) →
 inX v13 ((ix x3 v8).Writes).length ∧
 inX ((ix ((ix x3 v8).Writes) v13).Volume) v14.length ∧
 ∃ v15 : api_Bitmap × Int × Unit, bitmap_Set_W (ix v14 ((ix ((ix x3 v8).Writes) v13).Volume)) (api_Extent.mk ((ix ((ix x3 v8).Writes) v13).Start) (((ix ((ix x3 v8).Writes) v13).Data).length : Int)) (fun z => (z.1, z.2, ()) = v15) ∧
 (v15.2.1 ≠ 0 →
 J3 (v15.2.1, ([] : List api_Bitmap))) ∧
 (¬ (v15.2.1 ≠ 0) →
 inX ((ix ((ix x3 v8).Writes) v13).Volume) v14.length ∧
 inI (v13 + 1) ∧
 rec4 ((v13 + 1), (put v14 ((ix ((ix x3 v8).Writes) v13).Volume) v15.1)))) ∧
 (¬ (v13 < (((ix x3 v8).Writes).length : Int)) →
 J3 (0, v14))
def Z42 (x1 : Int) (x2 : Int) (v3 : List (Int × api_Peer)) (v9 : List api_Bitmap) (v16 : List Int) (Φ : api_Tracker × Int → Prop) : (Int × List api_Peer) → ((Int × List api_Peer) → Prop) → Prop
 | (v17, v18), rec5 =>
 (v17 < ((sortZ ((mput v3 x1 (api_Peer.mk x1 x2 v9)).map fun p => p.1)).length : Int) →
 inX v17 (sortZ ((mput v3 x1 (api_Peer.mk x1 x2 v9)).map fun p => p.1)).length ∧
 lenOk (v18 ++ ([(mget (mput v3 x1 (api_Peer.mk x1 x2 v9)) (ix (sortZ ((mput v3 x1 (api_Peer.mk x1 x2 v9)).map fun p => p.1)) v17) (api_Peer.mk 0 0 ([] : List api_Bitmap)))] : List api_Peer)).length 40 ∧
 inI (v17 + 1) ∧
 rec5 ((v17 + 1), (v18 ++ ([(mget (mput v3 x1 (api_Peer.mk x1 x2 v9)) (ix (sortZ ((mput v3 x1 (api_Peer.mk x1 x2 v9)).map fun p => p.1)) v17) (api_Peer.mk 0 0 ([] : List api_Bitmap)))] : List api_Peer)))) ∧
 (¬ (v17 < ((sortZ ((mput v3 x1 (api_Peer.mk x1 x2 v9)).map fun p => p.1)).length : Int)) →
 Φ ((api_Tracker.mk v16 v18), 0))
def Z43 (x0 : api_Tracker) (x1 : Int) (x2 : Int) (x3 : List api_Cycle) (v3 : List (Int × api_Peer)) (Φ : api_Tracker × Int → Prop) : (Int × Int × List api_Bitmap) → ((Int × Int × List api_Bitmap) → Prop) → Prop
 | (v7, v8, v9), rec2 =>
 (v8 < (x3.length : Int) →
 inX v8 x3.length ∧
 cycle_Check_W (ix x3 v8) x0.Sizes fun v10 =>
 (v10 ≠ 0 →
 Φ ((api_Tracker.mk ([] : List Int) ([] : List api_Peer)), v10)) ∧
 (¬ (v10 ≠ 0) →
 (((ix x3 v8).Base) ≠ v7 →
 Φ ((api_Tracker.mk ([] : List Int) ([] : List api_Peer)), 15)) ∧
 (¬ (((ix x3 v8).Base) ≠ v7) →
 Join (Z40 x3 v8 rec2 Φ) fun J3 =>
 LoopW (Z41 x3 v8 J3 Φ) (0, v9)))) ∧
 (¬ (v8 < (x3.length : Int)) →
 Z11 x0.Sizes fun v16 =>
 ((mput v3 x1 (api_Peer.mk x1 x2 v9)).map fun p => p.1).Nodup ∧
 (∀ p, p ∈ (mput v3 x1 (api_Peer.mk x1 x2 v9)) → inI p.1) ∧
 lenOk (mput v3 x1 (api_Peer.mk x1 x2 v9)).length 8 ∧
 LoopW (Z42 x1 x2 v3 v9 v16 Φ) (0, ([] : List api_Peer)))
def Z44 (x0 : api_Tracker) (x1 : Int) (x2 : Int) (x3 : List api_Cycle) (Φ : api_Tracker × Int → Prop) : (Int × (List (Int × api_Peer))) → ((Int × (List (Int × api_Peer))) → Prop) → Prop
 | (v2, v3), rec1 =>
 (v2 < (x0.Peers.length : Int) →
 inX v2 x0.Peers.length ∧
 Z25 ((ix x0.Peers v2).Dirty) fun v4 =>
 inI (v2 + 1) ∧
 rec1 ((v2 + 1), (mput v3 ((ix x0.Peers v2).Site) (api_Peer.mk ((ix x0.Peers v2).Site) ((ix x0.Peers v2).Common) v4)))) ∧
 (¬ (v2 < (x0.Peers.length : Int)) →
 (¬ ((mhas v3 x1) = true) →
 Φ ((api_Tracker.mk ([] : List Int) ([] : List api_Peer)), 7)) ∧
 (¬ (¬ ((mhas v3 x1) = true)) →
 Z6 x2 0 1073741824 fun v5 =>
 (¬ (v5 = true) →
 Φ ((api_Tracker.mk ([] : List Int) ([] : List api_Peer)), 2)) ∧
 (¬ (¬ (v5 = true)) →
 (x2 < ((mget v3 x1 (api_Peer.mk 0 0 ([] : List api_Bitmap))).Common) →
 Φ ((api_Tracker.mk ([] : List Int) ([] : List api_Peer)), 8)) ∧
 (¬ (x2 < ((mget v3 x1 (api_Peer.mk 0 0 ([] : List api_Bitmap))).Common)) →
 Z10 x0.Sizes fun v6 =>
 (v6.2 ≠ 0 →
 Φ ((api_Tracker.mk ([] : List Int) ([] : List api_Peer)), v6.2)) ∧
 (¬ (v6.2 ≠ 0) →
 LoopW (Z43 x0 x1 x2 x3 v3 Φ) (x2, 0, v6.1))))))
def Z45 (x0 : api_Tracker) (x1 : Int) (x2 : Int) (x3 : List api_Cycle) (Φ : api_Tracker × Int → Prop) : Prop :=
 Z20 x0 fun v1 =>
 (v1 ≠ 0 →
 Φ ((api_Tracker.mk ([] : List Int) ([] : List api_Peer)), v1)) ∧
 (¬ (v1 ≠ 0) →
 LoopW (Z44 x0 x1 x2 x3 Φ) (0, ([] : List (Int × api_Peer))))
def Z46 (x0 : BitVec 64) (Φ : Int → Prop) : Prop := x0 ≠ 0#64 ∧ Φ (Lib.ctz 64 x0.toNat : Int)
def Z47 (v2 : Int) (rec1 : (List (Int × Unit) × Int) → Prop) : (List (Int × Unit) × BitVec 64) → ((List (Int × Unit) × BitVec 64) → Prop) → Prop
 | (l2, v4), rec2 =>
 (v4 ≠ (0#64) →
 inI (v2 * 64) ∧
 ∃ v5 : Int × Unit, Z46 v4 (fun z => (z, ()) = v5) ∧
 inI ((v2 * 64) + v5.1) ∧
 Yl l2 fun v6 r7 => (((v2 * 64) + v5.1), ()) = v6 ∧ (
 rec2 (r7, (v4 &&& (v4 - (1#64))))) ∧ (
 True)) ∧
 (¬ (v4 ≠ (0#64)) →
 inI (v2 + 1) ∧
 rec1 (l2, (v2 + 1)))
def Z48 (x0 : api_Bitmap) (x1 : Int) : (List (Int × Unit) × Int) → ((List (Int × Unit) × Int) → Prop) → Prop
 | (l1, v2), rec1 =>
 (v2 < (x0.Words.length : Int) →
 inX v2 x0.Words.length ∧
 ∃ v3 : BitVec 64 × Unit, bitmap_mask_W v2 x1 x0.Size (fun z => (z, ()) = v3) ∧
 LoopW (Z47 v2 rec1) (l1, ((ix x0.Words v2) &&& v3.1))) ∧
 (¬ (v2 < (x0.Words.length : Int)) →
 l1 = [])
def bitmap_elements_1_I (x0 : api_Bitmap) (x1 : Int) (l : List (Int × Unit)) : Prop :=
 ∃ v1 : Int × Unit, Z15 x0 (fun z => (z, ()) = v1) ∧
 (v1.1 ≠ 0 →
 l = []) ∧
 (¬ (v1.1 ≠ 0) →
 LoopW (Z48 x0 x1) (l, 0))
def Z49 (Φ : List api_Extent → Prop) : (List (Int × Unit) × List api_Extent) → ((List (Int × Unit) × List api_Extent) → Prop) → Prop
 | (lst, v1), rec1 =>
 match lst with
 | [] =>
 Φ v1
 | v2 :: r3 =>
 (0 < (v1.length : Int) →
 inI ((v1.length : Int) - 1) ∧
 inX ((v1.length : Int) - 1) v1.length ∧
 inI ((v1.length : Int) - 1) ∧
 inX ((v1.length : Int) - 1) v1.length ∧
 inI (((ix v1 ((v1.length : Int) - 1)).Start) + ((ix v1 ((v1.length : Int) - 1)).Count)) ∧
 ((((ix v1 ((v1.length : Int) - 1)).Start) + ((ix v1 ((v1.length : Int) - 1)).Count)) = v2.1 →
 inI ((v1.length : Int) - 1) ∧
 inX ((v1.length : Int) - 1) v1.length ∧
 inI (((ix v1 ((v1.length : Int) - 1)).Count) + 1) ∧
 inX ((v1.length : Int) - 1) v1.length ∧
 rec1 (r3, (put v1 ((v1.length : Int) - 1) (api_Extent.mk ((ix v1 ((v1.length : Int) - 1)).Start) (((ix v1 ((v1.length : Int) - 1)).Count) + 1))))) ∧
 (¬ ((((ix v1 ((v1.length : Int) - 1)).Start) + ((ix v1 ((v1.length : Int) - 1)).Count)) = v2.1) →
 lenOk (v1 ++ ([(api_Extent.mk v2.1 1)] : List api_Extent)).length 16 ∧
 rec1 (r3, (v1 ++ ([(api_Extent.mk v2.1 1)] : List api_Extent))))) ∧
 (¬ (0 < (v1.length : Int)) →
 lenOk (v1 ++ ([(api_Extent.mk v2.1 1)] : List api_Extent)).length 16 ∧
 rec1 (r3, (v1 ++ ([(api_Extent.mk v2.1 1)] : List api_Extent))))
def Z50 (x0 : api_Bitmap) (Φ : List api_Extent → Prop) : Prop :=
 ∃ l4 : List (Int × Unit), bitmap_elements_1_I x0 0 l4 ∧
 LoopW (Z49 Φ) (l4, ([] : List api_Extent))
def Z51 (x0 : List api_Extent) (x1 : List api_Extent) (Φ : Bool → Prop) : (Int) → ((Int) → Prop) → Prop
 | v1, rec1 =>
 (v1 < (x0.length : Int) →
 inX v1 x0.length ∧
 inX v1 x1.length ∧
 ((ix x0 v1) ≠ (ix x1 v1) →
 Φ false) ∧
 (¬ ((ix x0 v1) ≠ (ix x1 v1)) →
 inI (v1 + 1) ∧
 rec1 (v1 + 1))) ∧
 (¬ (v1 < (x0.length : Int)) →
 Φ true)
def Z52 (x0 : List api_Extent) (x1 : List api_Extent) (Φ : Bool → Prop) : Prop :=
 ((x0.length : Int) ≠ (x1.length : Int) →
 Φ false) ∧
 (¬ ((x0.length : Int) ≠ (x1.length : Int)) →
 LoopW (Z51 x0 x1 Φ) 0)
def Z53 (x0 : List api_Bitmap) (x1 : List (List api_Extent)) (Φ : Bool → Prop) : (Int) → ((Int) → Prop) → Prop
 | v1, rec1 =>
 (v1 < (x0.length : Int) →
 inX v1 x0.length ∧
 ∃ v2 : List api_Extent × Unit, Z50 (ix x0 v1) (fun z => (z, ()) = v2) ∧
 inX v1 x1.length ∧
 ∃ v3 : Bool × Unit, Z52 v2.1 (ix x1 v1) (fun z => (z, ()) = v3) ∧
 (¬ (v3.1 = true) →
 Φ false) ∧
 (¬ (¬ (v3.1 = true)) →
 inI (v1 + 1) ∧
 rec1 (v1 + 1))) ∧
 (¬ (v1 < (x0.length : Int)) →
 Φ true)
def Z54 (x0 : List api_Bitmap) (x1 : List (List api_Extent)) (Φ : Bool → Prop) : Prop :=
 ((x0.length : Int) ≠ (x1.length : Int) →
 Φ false) ∧
 (¬ ((x0.length : Int) ≠ (x1.length : Int)) →
 LoopW (Z53 x0 x1 Φ) 0)
def Z55 (x0 : List (BitVec 8)) (Φ : List (BitVec 8) → Prop) : Prop :=
 (x0 = [] →
 Φ ([] : List (BitVec 8))) ∧
 (
 lenOk (([] : List (BitVec 8)) ++ x0).length 1 ∧
 Φ (([] : List (BitVec 8)) ++ x0))
def Z56 (v5 : Int) (rec3 : (Int × List (BitVec 8)) → Prop) (_ : List (BitVec 8) → Prop) : (Int × List (BitVec 8)) → ((Int × List (BitVec 8)) → Prop) → Prop
 | (v8, v9), rec5 =>
 (128 ≤ v8 →
 (0 ≤ v8 ∧ 128 ≠ (0 : Int)) ∧
 lenOk (v9 ++ ([((BitVec.ofInt 8 (v8 % 128)) ||| (128#8))] : List (BitVec 8))).length 1 ∧
 (0 ≤ v8 ∧ inI v8 ∧ (0 : Int) < 128) ∧
 rec5 ((v8 / 128), (v9 ++ ([((BitVec.ofInt 8 (v8 % 128)) ||| (128#8))] : List (BitVec 8))))) ∧
 (¬ (128 ≤ v8) →
 lenOk (v9 ++ ([(BitVec.ofInt 8 v8)] : List (BitVec 8))).length 1 ∧
 inI (v5 + 1) ∧
 rec3 ((v5 + 1), (v9 ++ ([(BitVec.ofInt 8 v8)] : List (BitVec 8)))))
def Z57 (v5 : Int) (v6 : List (BitVec 8)) (rec3 : (Int × List (BitVec 8)) → Prop) (Φ : List (BitVec 8) → Prop) : Int → Prop
 | v7 =>
 LoopW (Z56 v5 rec3 Φ) (v7, v6)
def Z58 (x1 : List Int) (Φ : List (BitVec 8) → Prop) : (Int × List (BitVec 8)) → ((Int × List (BitVec 8)) → Prop) → Prop
 | (v5, v6), rec3 =>
 (v5 < (x1.length : Int) →
 inX v5 x1.length ∧
 Join (Z57 v5 v6 rec3 Φ) fun J4 =>
 ((ix x1 v5) < 0 →
 J4 0) ∧
 (¬ ((ix x1 v5) < 0) →
 (9007199254740991 < (ix x1 v5) →
 J4 0) ∧
 (¬ (9007199254740991 < (ix x1 v5)) →
 J4 (ix x1 v5)))) ∧
 (¬ (v5 < (x1.length : Int)) →
 Φ v6)
def Z59 (x1 : List Int) (Φ : List (BitVec 8) → Prop) : (Int × List (BitVec 8)) → ((Int × List (BitVec 8)) → Prop) → Prop
 | (v3, v4), rec2 =>
 (128 ≤ v3 →
 (0 ≤ v3 ∧ 128 ≠ (0 : Int)) ∧
 lenOk (v4 ++ ([((BitVec.ofInt 8 (v3 % 128)) ||| (128#8))] : List (BitVec 8))).length 1 ∧
 (0 ≤ v3 ∧ inI v3 ∧ (0 : Int) < 128) ∧
 rec2 ((v3 / 128), (v4 ++ ([((BitVec.ofInt 8 (v3 % 128)) ||| (128#8))] : List (BitVec 8))))) ∧
 (¬ (128 ≤ v3) →
 lenOk (v4 ++ ([(BitVec.ofInt 8 v3)] : List (BitVec 8))).length 1 ∧
 LoopW (Z58 x1 Φ) (0, (v4 ++ ([(BitVec.ofInt 8 v3)] : List (BitVec 8)))))
def Z60 (x1 : List Int) (v1 : List (BitVec 8)) (Φ : List (BitVec 8) → Prop) : Int → Prop
 | v2 =>
 LoopW (Z59 x1 Φ) (v2, v1)
def Z61 (x0 : List (BitVec 8)) (x1 : List Int) (Φ : List (BitVec 8) → Prop) : Prop :=
 Z55 x0 fun v1 =>
 Join (Z60 x1 v1 Φ) fun J1 =>
 ((x1.length : Int) < 0 →
 J1 0) ∧
 (¬ ((x1.length : Int) < 0) →
 (9007199254740991 < (x1.length : Int) →
 J1 0) ∧
 (¬ (9007199254740991 < (x1.length : Int)) →
 J1 (x1.length : Int)))
def Z62 (Φ : List (BitVec 8) → Prop) : (Int × List (BitVec 8)) → ((Int × List (BitVec 8)) → Prop) → Prop
 | (v3, v4), rec2 =>
 (128 ≤ v3 →
 (0 ≤ v3 ∧ 128 ≠ (0 : Int)) ∧
 lenOk (v4 ++ ([((BitVec.ofInt 8 (v3 % 128)) ||| (128#8))] : List (BitVec 8))).length 1 ∧
 (0 ≤ v3 ∧ inI v3 ∧ (0 : Int) < 128) ∧
 rec2 ((v3 / 128), (v4 ++ ([((BitVec.ofInt 8 (v3 % 128)) ||| (128#8))] : List (BitVec 8))))) ∧
 (¬ (128 ≤ v3) →
 lenOk (v4 ++ ([(BitVec.ofInt 8 v3)] : List (BitVec 8))).length 1 ∧
 Φ (v4 ++ ([(BitVec.ofInt 8 v3)] : List (BitVec 8))))
def Z63 (v1 : List (BitVec 8)) (Φ : List (BitVec 8) → Prop) : Int → Prop
 | v2 =>
 LoopW (Z62 Φ) (v2, v1)
def wire_PutInt_W (x0 : List (BitVec 8)) (x1 : Int) (Φ : List (BitVec 8) → Prop) : Prop :=
 Z55 x0 fun v1 =>
 Join (Z63 v1 Φ) fun J1 =>
 (x1 < 0 →
 J1 0) ∧
 (¬ (x1 < 0) →
 (9007199254740991 < x1 →
 J1 0) ∧
 (¬ (9007199254740991 < x1) →
 J1 x1))
def Z64 (v5 : Int) (rec3 : (Int × List (BitVec 8)) → Prop) (_ : List (BitVec 8) → Prop) : (Int × List (BitVec 8)) → ((Int × List (BitVec 8)) → Prop) → Prop
 | (v11, v12), rec7 =>
 (128 ≤ v11 →
 (0 ≤ v11 ∧ 128 ≠ (0 : Int)) ∧
 lenOk (v12 ++ ([((BitVec.ofInt 8 (v11 % 128)) ||| (128#8))] : List (BitVec 8))).length 1 ∧
 (0 ≤ v11 ∧ inI v11 ∧ (0 : Int) < 128) ∧
 rec7 ((v11 / 128), (v12 ++ ([((BitVec.ofInt 8 (v11 % 128)) ||| (128#8))] : List (BitVec 8))))) ∧
 (¬ (128 ≤ v11) →
 lenOk (v12 ++ ([(BitVec.ofInt 8 v11)] : List (BitVec 8))).length 1 ∧
 inI (v5 + 1) ∧
 rec3 ((v5 + 1), (v12 ++ ([(BitVec.ofInt 8 v11)] : List (BitVec 8)))))
def Z65 (v5 : Int) (rec3 : (Int × List (BitVec 8)) → Prop) (v8 : Int) (v9 : List (BitVec 8)) (Φ : List (BitVec 8) → Prop) : Int → Prop
 | v10 =>
 LoopW (Z64 v5 rec3 Φ) (v10, (v9 ++ ([(BitVec.ofInt 8 v8)] : List (BitVec 8))))
def Z66 (x1 : List api_Extent) (v5 : Int) (rec3 : (Int × List (BitVec 8)) → Prop) (Φ : List (BitVec 8) → Prop) : (Int × List (BitVec 8)) → ((Int × List (BitVec 8)) → Prop) → Prop
 | (v8, v9), rec5 =>
 (128 ≤ v8 →
 (0 ≤ v8 ∧ 128 ≠ (0 : Int)) ∧
 lenOk (v9 ++ ([((BitVec.ofInt 8 (v8 % 128)) ||| (128#8))] : List (BitVec 8))).length 1 ∧
 (0 ≤ v8 ∧ inI v8 ∧ (0 : Int) < 128) ∧
 rec5 ((v8 / 128), (v9 ++ ([((BitVec.ofInt 8 (v8 % 128)) ||| (128#8))] : List (BitVec 8))))) ∧
 (¬ (128 ≤ v8) →
 lenOk (v9 ++ ([(BitVec.ofInt 8 v8)] : List (BitVec 8))).length 1 ∧
 Join (Z65 v5 rec3 v8 v9 Φ) fun J6 =>
 (((ix x1 v5).Count) < 0 →
 J6 0) ∧
 (¬ (((ix x1 v5).Count) < 0) →
 (9007199254740991 < ((ix x1 v5).Count) →
 J6 0) ∧
 (¬ (9007199254740991 < ((ix x1 v5).Count)) →
 J6 ((ix x1 v5).Count))))
def Z67 (x1 : List api_Extent) (v5 : Int) (v6 : List (BitVec 8)) (rec3 : (Int × List (BitVec 8)) → Prop) (Φ : List (BitVec 8) → Prop) : Int → Prop
 | v7 =>
 LoopW (Z66 x1 v5 rec3 Φ) (v7, v6)
def Z68 (x1 : List api_Extent) (Φ : List (BitVec 8) → Prop) : (Int × List (BitVec 8)) → ((Int × List (BitVec 8)) → Prop) → Prop
 | (v5, v6), rec3 =>
 (v5 < (x1.length : Int) →
 inX v5 x1.length ∧
 Join (Z67 x1 v5 v6 rec3 Φ) fun J4 =>
 (((ix x1 v5).Start) < 0 →
 J4 0) ∧
 (¬ (((ix x1 v5).Start) < 0) →
 (9007199254740991 < ((ix x1 v5).Start) →
 J4 0) ∧
 (¬ (9007199254740991 < ((ix x1 v5).Start)) →
 J4 ((ix x1 v5).Start)))) ∧
 (¬ (v5 < (x1.length : Int)) →
 Φ v6)
def Z69 (x1 : List api_Extent) (Φ : List (BitVec 8) → Prop) : (Int × List (BitVec 8)) → ((Int × List (BitVec 8)) → Prop) → Prop
 | (v3, v4), rec2 =>
 (128 ≤ v3 →
 (0 ≤ v3 ∧ 128 ≠ (0 : Int)) ∧
 lenOk (v4 ++ ([((BitVec.ofInt 8 (v3 % 128)) ||| (128#8))] : List (BitVec 8))).length 1 ∧
 (0 ≤ v3 ∧ inI v3 ∧ (0 : Int) < 128) ∧
 rec2 ((v3 / 128), (v4 ++ ([((BitVec.ofInt 8 (v3 % 128)) ||| (128#8))] : List (BitVec 8))))) ∧
 (¬ (128 ≤ v3) →
 lenOk (v4 ++ ([(BitVec.ofInt 8 v3)] : List (BitVec 8))).length 1 ∧
 LoopW (Z68 x1 Φ) (0, (v4 ++ ([(BitVec.ofInt 8 v3)] : List (BitVec 8)))))
def Z70 (x1 : List api_Extent) (v1 : List (BitVec 8)) (Φ : List (BitVec 8) → Prop) : Int → Prop
 | v2 =>
 LoopW (Z69 x1 Φ) (v2, v1)
def Z71 (x0 : List (BitVec 8)) (x1 : List api_Extent) (Φ : List (BitVec 8) → Prop) : Prop :=
 Z55 x0 fun v1 =>
 Join (Z70 x1 v1 Φ) fun J1 =>
 ((x1.length : Int) < 0 →
 J1 0) ∧
 (¬ ((x1.length : Int) < 0) →
 (9007199254740991 < (x1.length : Int) →
 J1 0) ∧
 (¬ (9007199254740991 < (x1.length : Int)) →
 J1 (x1.length : Int)))
def Z72 (x0 : api_Tracker) (v4 : Int) (rec1 : (Int × List (BitVec 8)) → Prop) (_ : List (BitVec 8) → Prop) : (Int × List (BitVec 8)) → ((Int × List (BitVec 8)) → Prop) → Prop
 | (v8, v9), rec2 =>
 (v8 < (((ix x0.Peers v4).Dirty).length : Int) →
 inX v8 ((ix x0.Peers v4).Dirty).length ∧
 Z50 (ix ((ix x0.Peers v4).Dirty) v8) fun v10 =>
 Z71 v9 v10 fun v11 =>
 inI (v8 + 1) ∧
 rec2 ((v8 + 1), v11)) ∧
 (¬ (v8 < (((ix x0.Peers v4).Dirty).length : Int)) →
 inI (v4 + 1) ∧
 rec1 ((v4 + 1), v9))
def Z73 (x0 : api_Tracker) (Φ : List (BitVec 8) → Prop) : (Int × List (BitVec 8)) → ((Int × List (BitVec 8)) → Prop) → Prop
 | (v4, v5), rec1 =>
 (v4 < (x0.Peers.length : Int) →
 inX v4 x0.Peers.length ∧
 ∃ v6 : List (BitVec 8) × Unit, wire_PutInt_W v5 ((ix x0.Peers v4).Site) (fun z => (z, ()) = v6) ∧
 ∃ v7 : List (BitVec 8) × Unit, wire_PutInt_W v6.1 ((ix x0.Peers v4).Common) (fun z => (z, ()) = v7) ∧
 LoopW (Z72 x0 v4 rec1 Φ) (0, v7.1)) ∧
 (¬ (v4 < (x0.Peers.length : Int)) →
 Φ v5)
def Z74 (x0 : api_Tracker) (Φ : List (BitVec 8) → Prop) : Prop :=
 Z20 x0 fun v1 =>
 (v1 ≠ 0 →
 Φ ([] : List (BitVec 8))) ∧
 (¬ (v1 ≠ 0) →
 ∃ v2 : List (BitVec 8) × Unit, Z61 ([] : List (BitVec 8)) x0.Sizes (fun z => (z, ()) = v2) ∧
 ∃ v3 : List (BitVec 8) × Unit, wire_PutInt_W v2.1 (x0.Peers.length : Int) (fun z => (z, ()) = v3) ∧
 LoopW (Z73 x0 Φ) (0, v3.1))
def Z75 (Φ : Bool → Prop) : Unit → Prop
 | _ =>
 tracker_New_W ([4] : List Int) ([2] : List Int) 5 fun v7 =>
 Z31 v7.1 (api_Write.mk 0 0 ([(Sec.mk (1#8) (0#8) (0#8) (0#8) (0#8) (0#8) (0#8) (0#8)), (Sec.mk (1#8) (0#8) (0#8) (0#8) (0#8) (0#8) (0#8) (0#8))] : List Sec)) fun v8 =>
 (v7.2 = 0 →
 (v8.2 = 0 →
 Z74 v8.1 fun v9 =>
 (∀ x, x ∈ v9 → true = true) ∧
 Φ (decide ((bsOf (v9.map fun x => x)) = strK1))) ∧
 (¬ (v8.2 = 0) →
 Φ false)) ∧
 (¬ (v7.2 = 0) →
 Φ false)
def law43_awake_W (Φ : Bool → Prop) : Prop :=
 tracker_New_W ([4, 2] : List Int) ([3, 1] : List Int) 0 fun v1 =>
 Z31 v1.1 (api_Write.mk 0 0 ([(Sec.mk (1#8) (0#8) (0#8) (0#8) (0#8) (0#8) (0#8) (0#8)), (Sec.mk (1#8) (0#8) (0#8) (0#8) (0#8) (0#8) (0#8) (0#8))] : List Sec)) fun v2 =>
 Z31 v2.1 (api_Write.mk 1 1 ([(Sec.mk (1#8) (0#8) (0#8) (0#8) (0#8) (0#8) (0#8) (0#8))] : List Sec)) fun v3 =>
 Z33 v3.1 1 fun v4 =>
 Z45 v3.1 3 1 ([(api_Cycle.mk 1 2 0 ([] : List Int) ([(api_Write.mk 0 1 ([(Sec.mk (1#8) (0#8) (0#8) (0#8) (0#8) (0#8) (0#8) (0#8))] : List Sec))] : List api_Write))] : List api_Cycle) fun v5 =>
 Z33 v5.1 3 fun v6 =>
 Join (Z75 Φ) fun J1 =>
 inI (v1.2 + v2.2) ∧
 inI ((v1.2 + v2.2) + v3.2) ∧
 inI (((v1.2 + v2.2) + v3.2) + v4.2.2) ∧
 inI ((((v1.2 + v2.2) + v3.2) + v4.2.2) + v5.2) ∧
 inI (((((v1.2 + v2.2) + v3.2) + v4.2.2) + v5.2) + v6.2.2) ∧
 ((((((v1.2 + v2.2) + v3.2) + v4.2.2) + v5.2) + v6.2.2) ≠ 0 →
 Φ false) ∧
 (¬ ((((((v1.2 + v2.2) + v3.2) + v4.2.2) + v5.2) + v6.2.2) ≠ 0) →
 (v4.2.1 ≠ 0 →
 Φ false) ∧
 (¬ (v4.2.1 ≠ 0) →
 (v6.2.1 ≠ 1 →
 Φ false) ∧
 (¬ (v6.2.1 ≠ 1) →
 Z54 v4.1 ([([(api_Extent.mk 0 2)] : List api_Extent), ([(api_Extent.mk 1 1)] : List api_Extent)] : List (List api_Extent)) fun v10 =>
 (¬ (v10 = true) →
 Φ false) ∧
 (¬ (¬ (v10 = true)) →
 Z54 v6.1 ([([(api_Extent.mk 1 1)] : List api_Extent), ([] : List api_Extent)] : List (List api_Extent)) fun v11 =>
 (¬ (v11 = true) →
 Φ false) ∧
 (¬ (¬ (v11 = true)) →
 J1 ())))))
def bitmap_Or_1_W (x0 : BitVec 64) (x1 : BitVec 64) (Φ : BitVec 64 → Prop) : Prop :=
 Φ (x0 ||| x1)
def bitmap_Or_L1 (x0 : api_Bitmap) (x1 : api_Bitmap) (Φ : api_Bitmap × Int → Prop) : (Int × List (BitVec 64)) → ((Int × List (BitVec 64)) → Prop) → Prop
 | (v3, v4), rec1 =>
 (v3 < ((List.replicate (x0.Words.length : Int).toNat (0#64 : BitVec 64)).length : Int) →
 inX v3 x0.Words.length ∧
 inX v3 x1.Words.length ∧
 ∃ v5 : BitVec 64 × Unit, bitmap_Or_1_W (ix x0.Words v3) (ix x1.Words v3) (fun z => (z, ()) = v5) ∧
 inX v3 v4.length ∧
 inI (v3 + 1) ∧
 rec1 ((v3 + 1), (put v4 v3 v5.1))) ∧
 (¬ (v3 < ((List.replicate (x0.Words.length : Int).toNat (0#64 : BitVec 64)).length : Int)) →
 Φ ((api_Bitmap.mk x0.Size v4), 0))
def bitmap_Or_W (x0 : api_Bitmap) (x1 : api_Bitmap) (Φ : api_Bitmap × Int → Prop) : Prop :=
 Z15 x0 fun v1 =>
 (v1 ≠ 0 →
 Φ ((api_Bitmap.mk 0 ([] : List (BitVec 64))), v1)) ∧
 (¬ (v1 ≠ 0) →
 Z15 x1 fun v2 =>
 (v2 ≠ 0 →
 Φ ((api_Bitmap.mk 0 ([] : List (BitVec 64))), v2)) ∧
 (¬ (v2 ≠ 0) →
 (x0.Size ≠ x1.Size →
 Φ ((api_Bitmap.mk 0 ([] : List (BitVec 64))), 22)) ∧
 (¬ (x0.Size ≠ x1.Size) →
 0 ≤ (x0.Words.length : Int) ∧
 lenOk (x0.Words.length : Int).toNat 8 ∧
 LoopW (bitmap_Or_L1 x0 x1 Φ) (0, (List.replicate (x0.Words.length : Int).toNat (0#64 : BitVec 64))))))
def Z76 (x0 : List api_Bitmap) (x1 : List api_Bitmap) (Φ : List api_Bitmap × Int → Prop) : (Int × List api_Bitmap) → ((Int × List api_Bitmap) → Prop) → Prop
 | (v1, v2), rec1 =>
 (v1 < (x0.length : Int) →
 inX v1 x0.length ∧
 inX v1 x1.length ∧
 ∃ v3 : api_Bitmap × Int × Unit, bitmap_Or_W (ix x0 v1) (ix x1 v1) (fun z => (z.1, z.2, ()) = v3) ∧
 (v3.2.1 ≠ 0 →
 Φ (([] : List api_Bitmap), v3.2.1)) ∧
 (¬ (v3.2.1 ≠ 0) →
 lenOk (v2 ++ ([v3.1] : List api_Bitmap)).length 32 ∧
 inI (v1 + 1) ∧
 rec1 ((v1 + 1), (v2 ++ ([v3.1] : List api_Bitmap))))) ∧
 (¬ (v1 < (x0.length : Int)) →
 Φ (v2, 0))
def Z77 (x0 : List api_Bitmap) (x1 : List api_Bitmap) (Φ : List api_Bitmap × Int → Prop) : Prop :=
 ((x0.length : Int) ≠ (x1.length : Int) →
 Φ (([] : List api_Bitmap), 6)) ∧
 (¬ ((x0.length : Int) ≠ (x1.length : Int)) →
 LoopW (Z76 x0 x1 Φ) (0, ([] : List api_Bitmap)))
def bitmap_Get_W (x0 : api_Bitmap) (x1 : Int) (Φ : Bool → Prop) : Prop :=
 Z15 x0 fun v1 =>
 (v1 = 0 →
 (0 ≤ x1 →
 (x1 < x0.Size →
 (0 ≤ x1 ∧ inI x1 ∧ (0 : Int) < 64) ∧
 inX (x1 / 64) x0.Words.length ∧
 (0 ≤ x1 ∧ 64 ≠ (0 : Int)) ∧
 0 ≤ (x1 % 64) ∧
 Φ (decide ((((ix x0.Words (x1 / 64)) >>> ((x1 % 64) : Int).toNat) &&& (1#64)) = (1#64)))) ∧
 (¬ (x1 < x0.Size) →
 Φ false)) ∧
 (¬ (0 ≤ x1) →
 Φ false)) ∧
 (¬ (v1 = 0) →
 Φ false)
def Z78 (x0 : List api_Bitmap) (x1 : List api_Bitmap) (v3 : List api_Bitmap × Int) (v5 : Int) (rec2 : (Int) → Prop) (v6 : Int) (rec3 : (Int) → Prop) (Φ : Bool → Prop) : Bool → Prop
 | v7 =>
 (v7 = true →
 inX v5 v3.1.length ∧
 ∃ v8 : Bool × Unit, bitmap_Get_W (ix v3.1 v5) v6 (fun z => (z, ()) = v8) ∧
 inX v5 x0.length ∧
 ∃ v9 : Bool × Unit, bitmap_Get_W (ix x0 v5) v6 (fun z => (z, ()) = v9) ∧
 (v9.1 = true →
 (v8.1 ≠ true →
 Φ false) ∧
 (¬ (v8.1 ≠ true) →
 inI (v6 + 1) ∧
 rec3 (v6 + 1))) ∧
 (¬ (v9.1 = true) →
 inX v5 x1.length ∧
 ∃ v10 : Bool × Unit, bitmap_Get_W (ix x1 v5) v6 (fun z => (z, ()) = v10) ∧
 (v8.1 ≠ v10.1 →
 Φ false) ∧
 (¬ (v8.1 ≠ v10.1) →
 inI (v6 + 1) ∧
 rec3 (v6 + 1)))) ∧
 (¬ (v7 = true) →
 inI (v5 + 1) ∧
 rec2 (v5 + 1))
def Z79 (x0 : List api_Bitmap) (x1 : List api_Bitmap) (v3 : List api_Bitmap × Int) (v5 : Int) (rec2 : (Int) → Prop) (Φ : Bool → Prop) : (Int) → ((Int) → Prop) → Prop
 | v6, rec3 =>
 Join (Z78 x0 x1 v3 v5 rec2 v6 rec3 Φ) fun J4 =>
 inX v5 x0.length ∧
 (v6 < ((ix x0 v5).Size) →
 J4 (decide (v6 < 200))) ∧
 (¬ (v6 < ((ix x0 v5).Size)) →
 J4 false)
def Z80 (x0 : List api_Bitmap) (x1 : List api_Bitmap) (v3 : List api_Bitmap × Int) (Φ : Bool → Prop) : (Int) → ((Int) → Prop) → Prop
 | v5, rec2 =>
 (v5 < (x0.length : Int) →
 LoopW (Z79 x0 x1 v3 v5 rec2 Φ) 0) ∧
 (¬ (v5 < (x0.length : Int)) →
 law43_awake_W fun v11 =>
 Φ v11)
def Z81 (x0 : List api_Bitmap) (x1 : List api_Bitmap) (Φ : Bool → Prop) : Bool → Prop
 | v1 =>
 (v1 = true →
 law43_awake_W fun v2 =>
 Φ v2) ∧
 (¬ (v1 = true) →
 Z77 x0 x1 fun v3 =>
 (v3.2 ≠ 0 →
 law43_awake_W fun v4 =>
 (v4 = true →
 Φ (decide ((v3.1.length : Int) = 0))) ∧
 (¬ (v4 = true) →
 Φ false)) ∧
 (¬ (v3.2 ≠ 0) →
 ((v3.1.length : Int) ≠ (x0.length : Int) →
 Φ false) ∧
 (¬ ((v3.1.length : Int) ≠ (x0.length : Int)) →
 ((x0.length : Int) ≠ (x1.length : Int) →
 Φ false) ∧
 (¬ ((x0.length : Int) ≠ (x1.length : Int)) →
 LoopW (Z80 x0 x1 v3 Φ) 0))))
def Z82 (x0 : List api_Bitmap) (x1 : List api_Bitmap) (Φ : Bool → Prop) : Prop :=
 Join (Z81 x0 x1 Φ) fun J1 =>
 Z2 x0 fun v12 =>
 (¬ (v12 = true) →
 J1 true) ∧
 (¬ (¬ (v12 = true)) →
 Z2 x1 fun v13 =>
 J1 (decide (¬ (v13 = true))))
def gh : Hp → Prop := fun H => TabH H 0
theorem ghUp : GUp gh := fun _ _ h hle => h.mono hle
def ct4 : Ct DD := ⟨4, [22], [4], [[false]], true, fun x Φ => Z2 x.1 fun y => Φ (y, ())⟩
def pl4 : List PE := [⟨[4, 1, 0, 1], [], [], ⟨[.int], [(0, .kp 0), (3, .v .int)], [], [], []⟩, false⟩, ⟨[0, 5, 4, 1, 0, 1], [], [], ⟨[.bool], [(0, .kp 0), (3, .kp 3), (11, .v .bool)], [], [], []⟩, true⟩]
def ct58 : Ct DD := ⟨58, [3], [4], [[false]], true, fun x Φ => Z3 x.1 fun y => Φ (y, ())⟩
def pl58 : List PE := []
def ct37 : Ct DD := ⟨37, [35], [25], [[false]], true, fun x Φ => Z5 x.1 fun y => Φ (y, ())⟩
def pl37 : List PE := [⟨[4, 1, 0, 1, 12, 0, 1, 11, 0, 0, 1, 1], [], [], ⟨[.int], [(0, .kp 0), (1, .kp 1), (7, .kp 4), (8, .v .int)], [], [], []⟩, false⟩]
def ct39 : Ct DD := ⟨39, [3], [42], [[true]], false, fun x Φ => image_New_1_W x.1 fun y => Φ (y, ())⟩
def pl39 : List PE := []
def ct17 : Ct DD := ⟨17, [35], [63, 25], [[true], [false]], false, fun x Φ => image_New_W x.1 fun y => Φ (y.1, y.2, ())⟩
def pl17 : List PE := [⟨[4, 1, 0, 1, 1, 11, 0, 1, 1], [], [], ⟨[.int, .lst 42], [(1, .kp 2), (5, .own 0), (11, .kp 8), (12, .kp 9), (13, .v .int)], [], [42], []⟩, false⟩]
def ct20 : Ct DD := ⟨20, [3, 3, 3], [4], [[false]], true, fun x Φ => Z6 x.1 x.2.1 x.2.2.1 fun y => Φ (y, ())⟩
def pl20 : List PE := []
def ct18 : Ct DD := ⟨18, [3], [4], [[false]], true, fun x Φ => Z7 x.1 fun y => Φ (y, ())⟩
def pl18 : List PE := []
def ct36 : Ct DD := ⟨36, [3], [3], [[false]], true, fun x Φ => Z8 x.1 fun y => Φ (y, ())⟩
def pl36 : List PE := []
def ct40 : Ct DD := ⟨40, [3], [30, 25], [[false, true], [false]], false, fun x Φ => bitmap_New_W x.1 fun y => Φ (y.1, y.2, ())⟩
def pl40 : List PE := [⟨[0, 1], [], [0], ⟨[.bool], [(0, .kp 1), (2, .kp 2), (9, .v .bool)], [], [], []⟩, true⟩]
def ct19 : Ct DD := ⟨19, [35], [22, 25], [[true], [false]], false, fun x Φ => Z10 x.1 fun y => Φ (y.1, y.2, ())⟩
def pl19 : List PE := [⟨[4, 1, 0, 1, 1], [], [], ⟨[.int, .lst 30], [(4, .own 0), (9, .kp 4), (10, .kp 5), (11, .v .int)], [], [30], []⟩, false⟩]
def ct21 : Ct DD := ⟨21, [35], [35], [[true]], false, fun x Φ => Z11 x.1 fun y => Φ (y, ())⟩
def pl21 : List PE := []
def sk41 : Sk DD := ⟨41, 61, 3, 70, true, inI, sortZ⟩
def ct8 : Ct DD := ⟨8, [35, 35, 3], [38, 25], [[true, true], [false]], false, fun x Φ => tracker_New_W x.1 x.2.1 x.2.2.1 fun y => Φ (y.1, y.2, ())⟩
def pl8 : List PE := [⟨[4, 1, 0, 1, 1, 1], [], [1], ⟨[.int], [(0, .kp 2), (1, .kp 3), (2, .kp 4), (6, .kp 5), (32, .kp 19), (33, .kp 20), (34, .v .int)], [(0, 38, [.kp 22,.kp 23])], [], []⟩, false⟩, ⟨[4, 1, 0, 1, 1, 1, 1, 1], [], [1], ⟨[.int, .mp 3 70], [(0, .kp 2), (2, .kp 4), (6, .kp 5), (12, .kp 28), (44, .kp 3), (45, .kp 29), (46, .v .int)], [(0, 38, [.kp 22,.kp 23])], [], [(24, .map 3 70 false true)]⟩, false⟩, ⟨[4, 1, 0, 1, 1, 13, 0, 1, 1, 1, 1, 1, 1, 1], [], [33, 32, 31, 0, 24, 1], ⟨[.int, .lst 70], [(0, .kp 28), (3, .own 0), (8, .kp 37), (9, .kp 38), (10, .v .int)], [], [70], []⟩, false⟩]
def ct16 : Ct DD := ⟨16, [30], [25], [[false]], true, fun x Φ => Z15 x.1 fun y => Φ (y, ())⟩
def pl16 : List PE := []
def ct63 : Ct DD := ⟨63, [30, 3], [4, 25], [[false], [false]], true, fun x Φ => Z16 x.1 x.2.1 fun y => Φ (y.1, y.2, ())⟩
def pl63 : List PE := []
def ct43 : Ct DD := ⟨43, [22, 35], [25], [[false]], true, fun x Φ => Z18 x.1 x.2.1 fun y => Φ (y, ())⟩
def pl43 : List PE := [⟨[4, 1, 0, 1, 1, 12, 0, 1, 1], [], [], ⟨[.int, .lst 4], [(0, .kp 0), (1, .kp 1), (2, .kp 2), (8, .own 0), (13, .kp 7), (14, .v .int)], [], [4], []⟩, false⟩]
def ct23 : Ct DD := ⟨23, [38], [25], [[false]], true, fun x Φ => Z20 x.1 fun y => Φ (y, ())⟩
def pl23 : List PE := [⟨[4, 1, 0, 1, 1, 1, 1], [], [1, 0], ⟨[.int, .int], [(1, .kp 3), (5, .v .int), (23, .kp 21), (24, .kp 22), (25, .v .int)], [], [], []⟩, false⟩]
def ct79 : Ct DD := ⟨79, [42], [3], [[false]], true, fun x Φ => Z21 x.1 fun y => Φ (y, ())⟩
def pl79 : List PE := []
def ct64 : Ct DD := ⟨64, [63], [35], [[true]], false, fun x Φ => image_sizes_W x.1 fun y => Φ (y, ())⟩
def pl64 : List PE := [⟨[4, 1, 0, 1, 1, 11, 0, 1], [], [], ⟨[.int, .lst 3], [(1, .kp 2), (5, .own 0), (11, .kp 8), (12, .kp 9), (13, .v .int)], [], [3], []⟩, false⟩]
def ct44 : Ct DD := ⟨44, [63], [25], [[false]], true, fun x Φ => image_Check_W x.1 fun y => Φ (y, ())⟩
def pl44 : List PE := []
def ct45 : Ct DD := ⟨45, [63, 44], [25], [[false]], true, fun x Φ => image_fits_W x.1 x.2.1 fun y => Φ (y, ())⟩
def pl45 : List PE := [⟨[4, 0, 1], [], [0], ⟨[.bool], [(0, .kp 1), (3, .kp 3), (5, .v .bool)], [], [], []⟩, true⟩]
def ct24 : Ct DD := ⟨24, [63, 44], [25], [[false]], true, fun x Φ => image_Fits_W x.1 x.2.1 fun y => Φ (y, ())⟩
def pl24 : List PE := []
def ct80 : Ct DD := ⟨80, [28], [28], [[true]], false, fun x Φ => Z23 x.1 fun y => Φ (y, ())⟩
def pl80 : List PE := []
def ct65 : Ct DD := ⟨65, [30], [30], [[false, true]], false, fun x Φ => tracker_own_W x.1 fun y => Φ (y, ())⟩
def pl65 : List PE := []
def ct46 : Ct DD := ⟨46, [22], [22], [[true]], false, fun x Φ => Z25 x.1 fun y => Φ (y, ())⟩
def pl46 : List PE := [⟨[4, 1, 0, 1, 1], [], [], ⟨[.int, .lst 30], [(3, .own 0), (6, .kp 3), (7, .kp 4), (8, .v .int)], [], [30], []⟩, false⟩]
def ct81 : Ct DD := ⟨81, [54, 3], [4], [[false]], true, fun x Φ => bitmap_fits_W x.1 x.2.1 fun y => Φ (y, ())⟩
def pl81 : List PE := []
def ct72 : Ct DD := ⟨72, [3, 3, 3], [61], [[false]], true, fun x Φ => bitmap_mask_W x.1 x.2.1 x.2.2.1 fun y => Φ (y, ())⟩
def pl72 : List PE := []
def ct66 : Ct DD := ⟨66, [61, 61], [61], [[false]], true, fun x Φ => Z26 x.1 x.2.1 fun y => Φ (y, ())⟩
def pl66 : List PE := []
def ct47 : Ct DD := ⟨47, [30, 54], [30, 25], [[false, true], [false]], false, fun x Φ => bitmap_Set_W x.1 x.2.1 fun y => Φ (y.1, y.2, ())⟩
def pl47 : List PE := [⟨[4, 1, 0, 1, 1, 1, 1, 13, 0, 1], [], [6, 5, 4, 3, 2, 1, 0], ⟨[.int, .lst 61], [(3, .kp 11), (4, .kp 12), (5, .kp 13), (6, .kp 14), (9, .own 0), (27, .kp 31), (28, .v .int)], [], [61], []⟩, false⟩]
def ct9 : Ct DD := ⟨9, [38, 44], [38, 25], [[true, true], [false]], false, fun x Φ => Z31 x.1 x.2.1 fun y => Φ (y.1, y.2, ())⟩
def pl9 : List PE := [⟨[4, 1, 0, 1, 1, 11, 0, 1, 1, 1, 1, 1], [], [4, 3, 2, 1, 0], ⟨[.int, .dm 3 70 30], [(3, .kp 10), (8, .kp 12), (9, .kp 13), (10, .v .int)], [], [], [(5, .dmp 3 70 false true 2 30)]⟩, false⟩, ⟨[4, 1, 0, 1, 1, 1, 1, 1, 1], [], [4, 3, 1, 0], ⟨[.itr, .dm 3 70 30], [(2, .kp 27), (3, .kp 28), (4, .kp 29), (10, .kp 10), (39, .kp 53)], [(2, 38, [.kp 17,.kp 18])], [], [(24, .itr 5), (5, .dmp 3 70 false true 2 30)]⟩, false⟩, ⟨[4, 1, 0, 1, 1, 14, 0, 1, 12, 0, 1, 1, 1, 1, 1, 1, 1], [], [58, 57, 5, 56, 55, 54, 2, 24, 4, 3, 1, 0], ⟨[.int, .lst 70], [(0, .kp 10), (3, .own 0), (8, .kp 62), (9, .kp 63), (10, .v .int)], [], [70], []⟩, false⟩, ⟨[4, 1, 0, 1, 14, 0, 0, 1, 4, 1, 1, 5, 4, 1, 0, 1, 1, 1, 1, 1, 1], [], [56, 55, 24, 5, 2], ⟨[.int, .lst 30], [(0, .kp 57), (10, .kp 61), (11, .kp 62), (12, .v .int)], [], [], [(54, .row 30)]⟩, false⟩]
def ct10 : Ct DD := ⟨10, [38, 3], [22, 3, 25], [[false], [false], [false]], false, fun x Φ => Z33 x.1 x.2.1 fun y => Φ (y.1, y.2.1, y.2.2, ())⟩
def pl10 : List PE := [⟨[4, 1, 0, 1, 1, 11, 0, 1, 1], [], [1, 0], ⟨[.int, .mp 3 70], [(3, .kp 7), (8, .kp 9), (9, .kp 10), (10, .v .int)], [], [], [(2, .map 3 70 false true)]⟩, false⟩]
def ct48 : Ct DD := ⟨48, [3, 3, 3], [4], [[false]], true, fun x Φ => cycle_in_W x.1 x.2.1 x.2.2.1 fun y => Φ (y, ())⟩
def pl48 : List PE := []
def ct68 : Ct DD := ⟨68, [3], [4], [[false]], true, fun x Φ => Z34 x.1 fun y => Φ (y, ())⟩
def pl68 : List PE := []
def ct49 : Ct DD := ⟨49, [35, 3], [25], [[false]], true, fun x Φ => Z36 x.1 x.2.1 fun y => Φ (y, ())⟩
def pl49 : List PE := [⟨[4, 1, 0, 1, 12, 0, 1, 11, 0, 0, 1, 1], [], [], ⟨[.int], [(0, .kp 0), (1, .kp 1), (7, .kp 4), (8, .v .int)], [], [], []⟩, false⟩]
def ct50 : Ct DD := ⟨50, [47, 35], [25], [[false]], true, fun x Φ => Z38 x.1 x.2.1 fun y => Φ (y, ())⟩
def pl50 : List PE := [⟨[4, 1, 0, 1, 12, 0, 1, 1, 1], [0], [1, 0], ⟨[.int], [(0, .kp 2), (1, .kp 3), (9, .kp 5), (10, .kp 6), (11, .v .int)], [], [], []⟩, false⟩]
def ct28 : Ct DD := ⟨28, [49, 35], [25], [[false]], true, fun x Φ => cycle_Check_W x.1 x.2.1 fun y => Φ (y, ())⟩
def pl28 : List PE := [⟨[4, 0, 1, 1], [], [1, 0], ⟨[.bool], [(1, .kp 3), (2, .kp 4), (16, .v .bool)], [], [], []⟩, true⟩]
def ct11 : Ct DD := ⟨11, [38, 3, 3, 50], [38, 25], [[true, true], [false]], false, fun x Φ => Z45 x.1 x.2.1 x.2.2.1 x.2.2.2.1 fun y => Φ (y.1, y.2, ())⟩
def pl11 : List PE := [⟨[4, 1, 0, 1, 1, 11, 0, 1, 1], [], [2, 1, 0], ⟨[.int, .mp 3 70], [(3, .kp 8), (8, .kp 10), (9, .kp 11), (10, .v .int)], [], [], [(3, .map 3 70 false true)]⟩, false⟩, ⟨[4, 1, 0, 1, 1, 1, 1, 1, 1, 1, 1], [], [19, 3, 2, 0], ⟨[.int, .int, .lst 30], [(1, .kp 22), (2, .kp 23), (4, .kp 25), (8, .kp 26), (11, .kp 8), (14, .own 0), (16, .v .int), (60, .kp 64), (61, .kp 65), (62, .v .int)], [(1, 38, [.kp 15,.kp 16])], [30], []⟩, false⟩, ⟨[0, 1, 1, 1, 4, 0, 1, 1, 5, 4, 1, 0, 1, 1, 1, 1, 1, 1, 1, 1], [], [71, 1], ⟨[.int, .lst 30], [(1, .kp 22), (2, .kp 23), (4, .kp 25), (8, .kp 26), (11, .kp 8), (14, .own 0), (15, .v .int), (18, .kp 78), (60, .kp 64), (61, .kp 65), (62, .kp 74)], [], [30], []⟩, true⟩, ⟨[4, 1, 0, 1, 13, 0, 0, 1, 1, 1, 4, 0, 1, 1, 5, 4, 1, 0, 1, 1, 1, 1, 1, 1, 1, 1], [], [], ⟨[.int, .lst 30], [(0, .kp 72), (10, .kp 93), (11, .kp 96), (12, .v .int)], [], [], [(70, .row 30)]⟩, false⟩, ⟨[4, 1, 0, 1, 1, 14, 0, 1, 12, 0, 1, 1, 1, 1, 1, 1, 1, 1, 1, 1], [], [75, 74, 73, 72, 71, 1, 70, 19, 3, 2, 0], ⟨[.int, .lst 70], [(0, .kp 8), (3, .own 0), (8, .kp 79), (9, .kp 80), (10, .v .int)], [], [70], []⟩, false⟩]
def ct73 : Ct DD := ⟨73, [61], [3], [[false]], true, fun x Φ => Z46 x.1 fun y => Φ (y, ())⟩
def it71 : It DD := ⟨71, [30, 3], [3], fun x l => bitmap_elements_1_I x.1 x.2.1 l⟩
def pl71 : List PE := [⟨[4, 1, 1], [], [], ⟨[.int], [(0, .kp 0), (1, .kp 3), (2, .kp 4), (10, .kp 9), (11, .kp 10), (12, .v .int)], [], [], []⟩, false⟩, ⟨[4, 1, 1, 4, 0, 1, 1, 5, 4, 1, 1], [], [], ⟨[.word], [(0, .kp 0), (1, .kp 3), (2, .kp 4), (4, .kp 17), (5, .v .word), (10, .kp 9), (11, .kp 10), (12, .kp 12)], [], [], []⟩, false⟩]
def ct30 : Ct DD := ⟨30, [30], [55], [[true]], false, fun x Φ => Z50 x.1 fun y => Φ (y, ())⟩
def pl30 : List PE := [⟨[4, 1, 0, 1, 1], [2, 3], [3, 2, 0], ⟨[.lst 54], [], [(1, 55, [.own 0])], [54], []⟩, false⟩]
def ct29 : Ct DD := ⟨29, [55, 55], [4], [[false]], true, fun x Φ => Z52 x.1 x.2.1 fun y => Φ (y, ())⟩
def pl29 : List PE := [⟨[4, 1, 0, 1, 1], [], [], ⟨[.int], [(0, .kp 0), (1, .kp 1), (5, .v .int)], [], [], []⟩, false⟩]
def ct12 : Ct DD := ⟨12, [22, 82], [4], [[false]], true, fun x Φ => Z54 x.1 x.2.1 fun y => Φ (y, ())⟩
def pl12 : List PE := [⟨[4, 1, 0, 1, 1], [], [], ⟨[.int], [(0, .kp 0), (1, .kp 1), (5, .v .int)], [], [], []⟩, false⟩]
def ct53 : Ct DD := ⟨53, [56], [56], [[true]], false, fun x Φ => Z55 x.1 fun y => Φ (y, ())⟩
def pl53 : List PE := []
def ct32 : Ct DD := ⟨32, [56, 35], [56], [[true]], false, fun x Φ => Z61 x.1 x.2.1 fun y => Φ (y, ())⟩
def pl32 : List PE := [⟨[4, 0, 1, 1, 13, 0, 1, 13, 0, 1], [], [], ⟨[.int, .lst 5], [(0, .own 0), (1, .v .int)], [], [5], []⟩, false⟩, ⟨[4, 1, 0, 1, 1, 13, 0, 1], [], [6], ⟨[.int, .lst 5], [(0, .own 0), (2, .kp 10), (13, .kp 16), (14, .kp 17), (15, .v .int)], [], [5], []⟩, false⟩, ⟨[4, 0, 1, 1, 13, 1, 4, 0, 1, 1, 5, 4, 1, 0, 1, 1, 13, 0, 1], [], [], ⟨[.int, .lst 5], [(0, .own 0), (1, .v .int)], [], [5], []⟩, false⟩, ⟨[1, 13, 1, 4, 0, 1, 1, 5, 4, 1, 0, 1, 1, 13, 0, 1], [], [19], ⟨[.int], [(0, .kp 20), (1, .v .int)], [], [], []⟩, true⟩, ⟨[1, 13, 0, 1, 13, 0, 1], [], [0], ⟨[.int], [(0, .kp 1), (1, .v .int)], [], [], []⟩, true⟩]
def ct31 : Ct DD := ⟨31, [56, 3], [56], [[true]], false, fun x Φ => wire_PutInt_W x.1 x.2.1 fun y => Φ (y, ())⟩
def pl31 : List PE := [⟨[4, 0, 1, 1, 13, 0, 1], [], [], ⟨[.int, .lst 5], [(0, .own 0), (1, .v .int)], [], [5], []⟩, false⟩, ⟨[1, 13, 0, 1], [], [0], ⟨[.int], [(0, .kp 1), (1, .v .int)], [], [], []⟩, true⟩]
def ct33 : Ct DD := ⟨33, [56, 55], [56], [[true]], false, fun x Φ => Z71 x.1 x.2.1 fun y => Φ (y, ())⟩
def pl33 : List PE := [⟨[4, 0, 1, 1, 13, 0, 1, 13, 0, 1], [], [], ⟨[.int, .lst 5], [(0, .own 0), (1, .v .int)], [], [5], []⟩, false⟩, ⟨[4, 1, 0, 1, 1, 13, 0, 1], [], [6], ⟨[.int, .lst 5], [(0, .own 0), (2, .kp 10), (13, .kp 16), (14, .kp 17), (15, .v .int)], [], [5], []⟩, false⟩, ⟨[0, 1, 13, 1, 4, 0, 1, 1, 5, 4, 1, 0, 1, 1, 13, 0, 1], [21], [21], ⟨[], [(0, .kp 0), (1, .kp 0), (2, .kp 0), (4, .kp 0), (5, .kp 0)], [], [0, 0, 0, 1, 2, 4, 5, 3, 6, 7], []⟩, false⟩, ⟨[4, 0, 1, 1, 13, 0, 1, 13, 1, 4, 0, 1, 1, 5, 4, 1, 0, 1, 1, 13, 0, 1], [], [20], ⟨[.int, .lst 5], [(0, .own 0), (1, .v .int)], [], [5], []⟩, false⟩, ⟨[4, 0, 1, 1, 16, 0, 1, 13, 1, 4, 0, 1, 1, 5, 4, 1, 0, 1, 1, 13, 0, 1], [], [32, 20], ⟨[.int, .lst 5], [(0, .own 0), (1, .v .int)], [], [5], []⟩, false⟩, ⟨[1, 16, 0, 1, 13, 1, 4, 0, 1, 1, 5, 4, 1, 0, 1, 1, 13, 0, 1], [], [32, 33, 20], ⟨[.int], [(0, .kp 34), (1, .v .int)], [], [], []⟩, true⟩, ⟨[1, 13, 0, 1, 13, 1, 4, 0, 1, 1, 5, 4, 1, 0, 1, 1, 13, 0, 1], [], [20, 19], ⟨[.int], [(0, .kp 22), (1, .v .int)], [], [], []⟩, true⟩, ⟨[1, 13, 0, 1, 13, 0, 1], [], [0], ⟨[.int], [(0, .kp 1), (1, .v .int)], [], [], []⟩, true⟩]
def ct13 : Ct DD := ⟨13, [38], [56], [[true]], false, fun x Φ => Z74 x.1 fun y => Φ (y, ())⟩
def pl13 : List PE := [⟨[4, 1, 0, 1, 1, 1], [], [1, 0], ⟨[.int, .lst 5], [(3, .own 0), (19, .kp 18), (20, .kp 19), (21, .v .int)], [], [5], []⟩, false⟩, ⟨[4, 1, 1, 1, 4, 0, 1, 1, 5, 4, 1, 0, 1, 1, 1], [], [25, 23, 24], ⟨[.int, .lst 5], [(3, .own 0), (19, .kp 18), (20, .kp 19), (21, .kp 28), (33, .kp 41), (34, .kp 42), (35, .v .int)], [], [5], []⟩, false⟩]
def ct5 : Ct DD := ⟨5, [], [4], [[false]], true, fun _ Φ => law43_awake_W fun y => Φ (y, ())⟩
def pl5 : List PE := [⟨[1, 1, 1, 1, 1, 1, 1, 1, 1], [], [15, 16, 14, 13, 12, 10, 11, 9, 7, 8, 6, 5, 3, 4, 2, 1, 0], ⟨[], [(1, .kp 19)], [], [], []⟩, true⟩]
def ct35 : Ct DD := ⟨35, [61, 61], [61], [[false]], true, fun x Φ => bitmap_Or_1_W x.1 x.2.1 fun y => Φ (y, ())⟩
def pl35 : List PE := []
def ct15 : Ct DD := ⟨15, [30, 30], [30, 25], [[false, true], [false]], false, fun x Φ => bitmap_Or_W x.1 x.2.1 fun y => Φ (y.1, y.2, ())⟩
def pl15 : List PE := [⟨[4, 1, 0, 1, 1, 1, 1, 1, 12, 0, 1], [], [5, 4, 3, 2, 1, 0], ⟨[.int, .lst 61], [(2, .kp 9), (3, .kp 10), (4, .kp 11), (6, .kp 12), (10, .own 0), (35, .kp 35), (36, .v .int)], [], [61], []⟩, false⟩]
def ct6 : Ct DD := ⟨6, [22, 22], [22, 25], [[true], [false]], false, fun x Φ => Z77 x.1 x.2.1 fun y => Φ (y.1, y.2, ())⟩
def pl6 : List PE := [⟨[4, 1, 0, 1, 1, 12, 0, 1, 1], [], [], ⟨[.int, .lst 30], [(0, .kp 0), (1, .kp 1), (2, .kp 2), (8, .own 0), (13, .kp 7), (14, .v .int)], [], [30], []⟩, false⟩]
def ct7 : Ct DD := ⟨7, [30, 3], [4], [[false]], true, fun x Φ => bitmap_Get_W x.1 x.2.1 fun y => Φ (y, ())⟩
def pl7 : List PE := []
def ct3 : Ct DD := ⟨3, [22, 22], [4], [[false]], true, fun x Φ => Z82 x.1 x.2.1 fun y => Φ (y, ())⟩
def pl3 : List PE := [⟨[4, 1, 0, 1, 1, 1, 1, 1], [], [3], ⟨[.int], [(0, .kp 0), (1, .kp 1), (5, .kp 9), (7, .v .int)], [], [], []⟩, false⟩, ⟨[4, 1, 4, 0, 1, 5, 4, 1, 0, 1, 1, 1, 1, 1], [], [], ⟨[.int], [(0, .kp 0), (1, .kp 1), (5, .kp 9), (7, .kp 23), (8, .v .int)], [], [], []⟩, false⟩, ⟨[0, 5, 4, 1, 4, 0, 1, 5, 4, 1, 0, 1, 1, 1, 1, 1], [], [], ⟨[.bool], [(0, .kp 0), (1, .kp 1), (5, .kp 9), (7, .kp 23), (8, .kp 28), (60, .v .bool)], [], [], []⟩, true⟩, ⟨[0, 1], [], [], ⟨[.bool], [(0, .kp 0), (1, .kp 1), (16, .v .bool)], [], [], []⟩, true⟩]
theorem eq9 (x : TupD DD ct9.ps) (Φ : TupD DD ct9.rs → Prop) : ct9.W x Φ = topF ⟨Tryd.prog, tab, [ct17, ct21, ct23, ct24, ct46, ct47], pl9, [], gh, [], [([10, 0, 1, 11, 0, 1, 1, 1, 1, 1], 30002), ([10, 0, 4, 1, 1, 5, 4, 1, 0, 1, 1, 1, 1, 1, 1], 30002), ([10, 0, 11, 0, 0, 1, 1, 14, 0, 1, 12, 0, 1, 1, 1, 1, 1, 1, 1], 30002), ([11, 0, 0, 1, 1, 1, 1, 1, 1], 30002), ([13, 1, 1, 4, 1, 1, 5, 4, 1, 0, 1, 1, 1, 1, 1, 1], 30002), ([14, 1, 1, 4, 0, 1, 1, 5, 4, 1, 0, 1, 1, 11, 0, 1, 1, 1, 1, 1], 30002)], [sk41]⟩ 9 ct9.f ct9.ps ct9.rs ct9.own x Φ := by kernel_rfl
theorem eq30 (x : TupD DD ct30.ps) (Φ : TupD DD ct30.rs → Prop) : ct30.W x Φ = topF ⟨Tryd.prog, tab, [], pl30, [it71], gh, [], [], []⟩ 9 ct30.f ct30.ps ct30.rs ct30.own x Φ := by kernel_rfl
theorem eq15 (x : TupD DD ct15.ps) (Φ : TupD DD ct15.rs → Prop) : ct15.W x Φ = topF ⟨Tryd.prog, tab, [ct16, ct35], pl15, [], gh, [], [], []⟩ 9 ct15.f ct15.ps ct15.rs ct15.own x Φ := by kernel_rfl
theorem eq72 (x : TupD DD ct72.ps) (Φ : TupD DD ct72.rs → Prop) : ct72.W x Φ = topF ⟨Tryd.prog, tab, [], pl72, [], gh, [], [], []⟩ 9 ct72.f ct72.ps ct72.rs ct72.own x Φ := by kernel_rfl
theorem eq6 (x : TupD DD ct6.ps) (Φ : TupD DD ct6.rs → Prop) : ct6.W x Φ = topF ⟨Tryd.prog, tab, [ct15], pl6, [], gh, [], [], []⟩ 9 ct6.f ct6.ps ct6.rs ct6.own x Φ := by kernel_rfl
theorem eq43 (x : TupD DD ct43.ps) (Φ : TupD DD ct43.rs → Prop) : ct43.W x Φ = topF ⟨Tryd.prog, tab, [ct63], pl43, [], gh, [], [], []⟩ 9 ct43.f ct43.ps ct43.rs ct43.own x Φ := by kernel_rfl
theorem eq37 (x : TupD DD ct37.ps) (Φ : TupD DD ct37.rs → Prop) : ct37.W x Φ = topF ⟨Tryd.prog, tab, [ct58], pl37, [], gh, [], [], []⟩ 9 ct37.f ct37.ps ct37.rs ct37.own x Φ := by kernel_rfl
theorem eq64 (x : TupD DD ct64.ps) (Φ : TupD DD ct64.rs → Prop) : ct64.W x Φ = topF ⟨Tryd.prog, tab, [ct79], pl64, [], gh, [], [], []⟩ 9 ct64.f ct64.ps ct64.rs ct64.own x Φ := by kernel_rfl
theorem eq81 (x : TupD DD ct81.ps) (Φ : TupD DD ct81.rs → Prop) : ct81.W x Φ = topF ⟨Tryd.prog, tab, [], pl81, [], gh, [], [], []⟩ 9 ct81.f ct81.ps ct81.rs ct81.own x Φ := by kernel_rfl
theorem eq65 (x : TupD DD ct65.ps) (Φ : TupD DD ct65.rs → Prop) : ct65.W x Φ = topF ⟨Tryd.prog, tab, [ct80], pl65, [], gh, [], [], []⟩ 9 ct65.f ct65.ps ct65.rs ct65.own x Φ := by kernel_rfl
theorem eq48 (x : TupD DD ct48.ps) (Φ : TupD DD ct48.rs → Prop) : ct48.W x Φ = topF ⟨Tryd.prog, tab, [], pl48, [], gh, [], [], []⟩ 9 ct48.f ct48.ps ct48.rs ct48.own x Φ := by kernel_rfl
theorem eq68 (x : TupD DD ct68.ps) (Φ : TupD DD ct68.rs → Prop) : ct68.W x Φ = topF ⟨Tryd.prog, tab, [ct48], pl68, [], gh, [], [], []⟩ 9 ct68.f ct68.ps ct68.rs ct68.own x Φ := by kernel_rfl
theorem eq79 (x : TupD DD ct79.ps) (Φ : TupD DD ct79.rs → Prop) : ct79.W x Φ = topF ⟨Tryd.prog, tab, [], pl79, [], gh, [], [], []⟩ 9 ct79.f ct79.ps ct79.rs ct79.own x Φ := by kernel_rfl
theorem eq11 (x : TupD DD ct11.ps) (Φ : TupD DD ct11.rs → Prop) : ct11.W x Φ = topF ⟨Tryd.prog, tab, [ct19, ct20, ct21, ct23, ct28, ct46, ct47], pl11, [], gh, [], [], [sk41]⟩ 9 ct11.f ct11.ps ct11.rs ct11.own x Φ := by kernel_rfl
theorem eq32 (x : TupD DD ct32.ps) (Φ : TupD DD ct32.rs → Prop) : ct32.W x Φ = topF ⟨Tryd.prog, tab, [ct53], pl32, [], gh, [], [], []⟩ 9 ct32.f ct32.ps ct32.rs ct32.own x Φ := by kernel_rfl
theorem eqi71 (x : TupD DD it71.cs) (l : List (TupD DD it71.ts)) : it71.W x l = iterF ⟨Tryd.prog, tab, [ct16, ct72, ct73], pl71, [], gh, [], [], []⟩ it71.f it71.cs it71.ts x l := by kernel_rfl
theorem eq10 (x : TupD DD ct10.ps) (Φ : TupD DD ct10.rs → Prop) : ct10.W x Φ = topF ⟨Tryd.prog, tab, [ct23, ct46], pl10, [], gh, [], [], []⟩ 9 ct10.f ct10.ps ct10.rs ct10.own x Φ := by kernel_rfl
theorem eq45 (x : TupD DD ct45.ps) (Φ : TupD DD ct45.rs → Prop) : ct45.W x Φ = topF ⟨Tryd.prog, tab, [], pl45, [], gh, [], [], []⟩ 9 ct45.f ct45.ps ct45.rs ct45.own x Φ := by kernel_rfl
theorem eq17 (x : TupD DD ct17.ps) (Φ : TupD DD ct17.rs → Prop) : ct17.W x Φ = topF ⟨Tryd.prog, tab, [ct37, ct39], pl17, [], gh, [], [], []⟩ 9 ct17.f ct17.ps ct17.rs ct17.own x Φ := by kernel_rfl
theorem eq29 (x : TupD DD ct29.ps) (Φ : TupD DD ct29.rs → Prop) : ct29.W x Φ = topF ⟨Tryd.prog, tab, [], pl29, [], gh, [], [], []⟩ 9 ct29.f ct29.ps ct29.rs ct29.own x Φ := by kernel_rfl
theorem eq40 (x : TupD DD ct40.ps) (Φ : TupD DD ct40.rs → Prop) : ct40.W x Φ = topF ⟨Tryd.prog, tab, [ct36], pl40, [], gh, [], [], []⟩ 9 ct40.f ct40.ps ct40.rs ct40.own x Φ := by kernel_rfl
theorem eq53 (x : TupD DD ct53.ps) (Φ : TupD DD ct53.rs → Prop) : ct53.W x Φ = topF ⟨Tryd.prog, tab, [], pl53, [], gh, [], [], []⟩ 9 ct53.f ct53.ps ct53.rs ct53.own x Φ := by kernel_rfl
theorem eq36 (x : TupD DD ct36.ps) (Φ : TupD DD ct36.rs → Prop) : ct36.W x Φ = topF ⟨Tryd.prog, tab, [], pl36, [], gh, [], [], []⟩ 9 ct36.f ct36.ps ct36.rs ct36.own x Φ := by kernel_rfl
theorem eq39 (x : TupD DD ct39.ps) (Φ : TupD DD ct39.rs → Prop) : ct39.W x Φ = topF ⟨Tryd.prog, tab, [], pl39, [], gh, [], [], []⟩ 9 ct39.f ct39.ps ct39.rs ct39.own x Φ := by kernel_rfl
theorem eq66 (x : TupD DD ct66.ps) (Φ : TupD DD ct66.rs → Prop) : ct66.W x Φ = topF ⟨Tryd.prog, tab, [], pl66, [], gh, [], [], []⟩ 9 ct66.f ct66.ps ct66.rs ct66.own x Φ := by kernel_rfl
theorem eq33 (x : TupD DD ct33.ps) (Φ : TupD DD ct33.rs → Prop) : ct33.W x Φ = topF ⟨Tryd.prog, tab, [ct53], pl33, [], gh, [], [], []⟩ 9 ct33.f ct33.ps ct33.rs ct33.own x Φ := by kernel_rfl
theorem eq5 (x : TupD DD ct5.ps) (Φ : TupD DD ct5.rs → Prop) : ct5.W x Φ = topF ⟨Tryd.prog, tab, [ct8, ct9, ct10, ct11, ct12, ct13], pl5, [], gh, [], [], []⟩ 9 ct5.f ct5.ps ct5.rs ct5.own x Φ := by kernel_rfl
theorem eq50 (x : TupD DD ct50.ps) (Φ : TupD DD ct50.rs → Prop) : ct50.W x Φ = topF ⟨Tryd.prog, tab, [ct17, ct24], pl50, [], gh, [], [], []⟩ 9 ct50.f ct50.ps ct50.rs ct50.own x Φ := by kernel_rfl
theorem eq23 (x : TupD DD ct23.ps) (Φ : TupD DD ct23.rs → Prop) : ct23.W x Φ = topF ⟨Tryd.prog, tab, [ct17, ct18, ct20, ct43], pl23, [], gh, [], [], []⟩ 9 ct23.f ct23.ps ct23.rs ct23.own x Φ := by kernel_rfl
theorem eq31 (x : TupD DD ct31.ps) (Φ : TupD DD ct31.rs → Prop) : ct31.W x Φ = topF ⟨Tryd.prog, tab, [ct53], pl31, [], gh, [], [], []⟩ 9 ct31.f ct31.ps ct31.rs ct31.own x Φ := by kernel_rfl
theorem eq16 (x : TupD DD ct16.ps) (Φ : TupD DD ct16.rs → Prop) : ct16.W x Φ = topF ⟨Tryd.prog, tab, [ct36], pl16, [], gh, [], [], []⟩ 9 ct16.f ct16.ps ct16.rs ct16.own x Φ := by kernel_rfl
theorem eq49 (x : TupD DD ct49.ps) (Φ : TupD DD ct49.rs → Prop) : ct49.W x Φ = topF ⟨Tryd.prog, tab, [ct48, ct68], pl49, [], gh, [], [], []⟩ 9 ct49.f ct49.ps ct49.rs ct49.own x Φ := by kernel_rfl
theorem eq46 (x : TupD DD ct46.ps) (Φ : TupD DD ct46.rs → Prop) : ct46.W x Φ = topF ⟨Tryd.prog, tab, [ct65], pl46, [], gh, [], [], []⟩ 9 ct46.f ct46.ps ct46.rs ct46.own x Φ := by kernel_rfl
theorem eq63 (x : TupD DD ct63.ps) (Φ : TupD DD ct63.rs → Prop) : ct63.W x Φ = topF ⟨Tryd.prog, tab, [ct16], pl63, [], gh, [], [], []⟩ 9 ct63.f ct63.ps ct63.rs ct63.own x Φ := by kernel_rfl
theorem eq24 (x : TupD DD ct24.ps) (Φ : TupD DD ct24.rs → Prop) : ct24.W x Φ = topF ⟨Tryd.prog, tab, [ct44, ct45], pl24, [], gh, [], [], []⟩ 9 ct24.f ct24.ps ct24.rs ct24.own x Φ := by kernel_rfl
theorem eq20 (x : TupD DD ct20.ps) (Φ : TupD DD ct20.rs → Prop) : ct20.W x Φ = topF ⟨Tryd.prog, tab, [], pl20, [], gh, [], [], []⟩ 9 ct20.f ct20.ps ct20.rs ct20.own x Φ := by kernel_rfl
theorem eq58 (x : TupD DD ct58.ps) (Φ : TupD DD ct58.rs → Prop) : ct58.W x Φ = topF ⟨Tryd.prog, tab, [], pl58, [], gh, [], [], []⟩ 9 ct58.f ct58.ps ct58.rs ct58.own x Φ := by kernel_rfl
theorem eq35 (x : TupD DD ct35.ps) (Φ : TupD DD ct35.rs → Prop) : ct35.W x Φ = topF ⟨Tryd.prog, tab, [], pl35, [], gh, [], [], []⟩ 9 ct35.f ct35.ps ct35.rs ct35.own x Φ := by kernel_rfl
theorem eq3 (x : TupD DD ct3.ps) (Φ : TupD DD ct3.rs → Prop) : ct3.W x Φ = topF ⟨Tryd.prog, tab, [ct4, ct5, ct6, ct7], pl3, [], gh, [], [], []⟩ 9 ct3.f ct3.ps ct3.rs ct3.own x Φ := by kernel_rfl
theorem eq8 (x : TupD DD ct8.ps) (Φ : TupD DD ct8.rs → Prop) : ct8.W x Φ = topF ⟨Tryd.prog, tab, [ct17, ct18, ct19, ct20, ct21], pl8, [], gh, [], [], [sk41]⟩ 9 ct8.f ct8.ps ct8.rs ct8.own x Φ := by kernel_rfl
theorem eq13 (x : TupD DD ct13.ps) (Φ : TupD DD ct13.rs → Prop) : ct13.W x Φ = topF ⟨Tryd.prog, tab, [ct23, ct30, ct31, ct32, ct33], pl13, [], gh, [], [], []⟩ 9 ct13.f ct13.ps ct13.rs ct13.own x Φ := by kernel_rfl
theorem eq4 (x : TupD DD ct4.ps) (Φ : TupD DD ct4.rs → Prop) : ct4.W x Φ = topF ⟨Tryd.prog, tab, [], pl4, [], gh, [], [], []⟩ 9 ct4.f ct4.ps ct4.rs ct4.own x Φ := by kernel_rfl
theorem eq47 (x : TupD DD ct47.ps) (Φ : TupD DD ct47.rs → Prop) : ct47.W x Φ = topF ⟨Tryd.prog, tab, [ct16, ct66, ct72, ct80, ct81], pl47, [], gh, [], [], []⟩ 9 ct47.f ct47.ps ct47.rs ct47.own x Φ := by kernel_rfl
theorem eq28 (x : TupD DD ct28.ps) (Φ : TupD DD ct28.rs → Prop) : ct28.W x Φ = topF ⟨Tryd.prog, tab, [ct17, ct48, ct49, ct50], pl28, [], gh, [], [], []⟩ 9 ct28.f ct28.ps ct28.rs ct28.own x Φ := by kernel_rfl
theorem eq12 (x : TupD DD ct12.ps) (Φ : TupD DD ct12.rs → Prop) : ct12.W x Φ = topF ⟨Tryd.prog, tab, [ct29, ct30], pl12, [], gh, [], [], []⟩ 9 ct12.f ct12.ps ct12.rs ct12.own x Φ := by kernel_rfl
theorem eq19 (x : TupD DD ct19.ps) (Φ : TupD DD ct19.rs → Prop) : ct19.W x Φ = topF ⟨Tryd.prog, tab, [ct40], pl19, [], gh, [], [], []⟩ 9 ct19.f ct19.ps ct19.rs ct19.own x Φ := by kernel_rfl
theorem eq7 (x : TupD DD ct7.ps) (Φ : TupD DD ct7.rs → Prop) : ct7.W x Φ = topF ⟨Tryd.prog, tab, [ct16], pl7, [], gh, [], [], []⟩ 9 ct7.f ct7.ps ct7.rs ct7.own x Φ := by kernel_rfl
theorem eq80 (x : TupD DD ct80.ps) (Φ : TupD DD ct80.rs → Prop) : ct80.W x Φ = topF ⟨Tryd.prog, tab, [], pl80, [], gh, [], [], []⟩ 9 ct80.f ct80.ps ct80.rs ct80.own x Φ := by kernel_rfl
theorem eq21 (x : TupD DD ct21.ps) (Φ : TupD DD ct21.rs → Prop) : ct21.W x Φ = topF ⟨Tryd.prog, tab, [], pl21, [], gh, [], [], []⟩ 9 ct21.f ct21.ps ct21.rs ct21.own x Φ := by kernel_rfl
theorem eq44 (x : TupD DD ct44.ps) (Φ : TupD DD ct44.rs → Prop) : ct44.W x Φ = topF ⟨Tryd.prog, tab, [ct37, ct64], pl44, [], gh, [], [], []⟩ 9 ct44.f ct44.ps ct44.rs ct44.own x Φ := by kernel_rfl
theorem eq18 (x : TupD DD ct18.ps) (Φ : TupD DD ct18.rs → Prop) : ct18.W x Φ = topF ⟨Tryd.prog, tab, [ct20], pl18, [], gh, [], [], []⟩ 9 ct18.f ct18.ps ct18.rs ct18.own x Φ := by kernel_rfl
end Go.Proofs.YtgojhiknicmopaaDoor
namespace Go.Proofs.YtgojhiknicmopaaDoor
open Go
def rwd {α : Type} : Result α → World
  | .ok _ w => w
  | .halt _ w => w
theorem ask_up {α : Type} (a : Ask α) : ∀ w : World, w.drawn ≤ (w.ask a).2.drawn := by
  induction a with
  | done a => intro w; exact Nat.le_refl _
  | ask what range k ih =>
    intro w
    simp only [World.ask]
    split
    · exact ih _ _
    · exact Nat.le_trans (Nat.le_succ _) (ih _ { w with drawn := w.drawn + 1 })
theorem sys_up (w : World) (c : Sys) : w.drawn ≤ (w.sys c).2.drawn := by
  have h := ask_up (Kernel.perform c w.os) w
  unfold World.sys
  generalize w.ask (Kernel.perform c w.os) = r at h
  obtain ⟨⟨r, os⟩, w'⟩ := r
  cases r <;> first | exact h | exact Nat.le_refl _
theorem viewStore_up {p : Program} {w w' : World} {a k : Addr} {u : TypeId} {v : Value} {b : Bool} {l : List Addr} (h : w.viewStore p a u k v b = .ok (w', l)) : w'.drawn = w.drawn := by
  unfold World.viewStore at h
  simp only [bind, Except.bind, pure, Except.pure] at h
  (repeat' split at h) <;> first | contradiction | (simp only [Except.ok.injEq, Prod.mk.injEq] at h; obtain ⟨rfl, _⟩ := h; rfl)
theorem farStore_up {p : Program} {w w' : World} {a : Addr} {v : Value} {b : Bool} {l : List Addr} (h : w.farStore p a v b = .ok (w', l)) : w'.drawn = w.drawn := by
  unfold World.farStore at h
  split at h
  · split at h
    · rename_i r hr
      simp only [Except.ok.injEq] at h
      subst h
      exact viewStore_up hr
    · contradiction
  · contradiction
theorem freeze_drawn (w : World) (a : Addr) (n : Nat) : (w.freeze a n).drawn = w.drawn := by
  unfold World.freeze; split <;> rfl
theorem run_up {α : Type} (p : Program) (s : Sem α) : ∀ w : World, w.drawn ≤ (rwd (s.run p w)).drawn := by
  induction s with
  | pure a => intro w; exact Nat.le_refl _
  | load m a k ih =>
    intro w
    simp only [Sem.run]
    split
    · exact ih _ _
    · split
      · exact ih _ _
      · exact Nat.le_refl _
  | store m a v k ih =>
    intro w
    have hk : w.drawn ≤ (rwd (match w.cell? a with
      | some _ => if w.frozen? a then Result.halt (.unsupported (.unsafePointer "a write to bytes that a string shares")) w else k.run p (w.setCell a v)
      | none => match w.farStore p a v (m == .atomic) with
        | .ok (w, _) => k.run p w
        | .error h => .halt h w)).drawn := by
      split
      · split
        · exact Nat.le_refl _
        · exact ih (w.setCell a _)
      · split
        · rename_i hf
          exact Nat.le_trans (Nat.le_of_eq (farStore_up hf).symm) (ih _)
        · exact Nat.le_refl _
    cases v <;> simp only [Sem.run] <;> first | exact hk | exact Nat.le_refl _
  | new o k ih => intro w; exact ih _ { w with heap := w.heap.push o }
  | shape r k ih => intro w; exact ih _ _
  | freeze a n k ih => intro w; exact Nat.le_trans (Nat.le_of_eq (freeze_drawn w a n).symm) (ih (w.freeze a n))
  | frozen a k ih => intro w; exact ih _ _
  | getObj r k ih =>
    intro w
    simp only [Sem.run]
    split
    · exact Nat.le_refl _
    · exact ih _ _
    · exact Nat.le_refl _
  | setObj r o k ih =>
    intro w
    simp only [Sem.run]
    split
    · exact Nat.le_refl _
    · exact ih { w with heap := w.heap.setIfInBounds r o }
    · exact Nat.le_refl _
  | choose q k ih =>
    intro w
    simp only [Sem.run]
    split
    · exact ih _ _
    · exact Nat.le_trans (Nat.le_succ _) (ih _ { w with drawn := w.drawn + 1 })
  | sys c k ih => intro w; exact Nat.le_trans (sys_up w c) (ih _ _)
  | program k ih => intro w; exact ih _ _
  | mark m k ih => intro w; exact ih _
  | halt h => intro w; exact Nat.le_refl _
theorem run_ok {α : Type} {p : Program} {s : Sem α} {w w' : World} {a : α} (h : s.run p w = .ok a w') : w.drawn ≤ w'.drawn := by
  have := run_up p s w
  rw [h] at this
  exact this
theorem run_halt {α : Type} {p : Program} {s : Sem α} {w w' : World} {x : Halt} (h : s.run p w = .halt x w') : w.drawn ≤ w'.drawn := by
  have := run_up p s w
  rw [h] at this
  exact this
def gw : GStep → World
  | .go _ w _ => w
  | .comm _ _ _ _ w _ => w
  | .spawn _ _ w _ => w
  | .count _ w _ => w
  | .timer _ _ w _ => w
  | .alone _ _ w _ => w
  | .newcoro _ _ _ w _ => w
  | .coroswitch _ _ _ w _ => w
  | .collect _ w _ => w
  | .watch _ w _ => w
  | .ended _ w _ => w
theorem gw_after (es : Array Event) (s : GStep) : gw (s.after es) = gw s := by cases s <;> rfl
theorem gw_go (g : Goroutine) (w : World) (es : Array Event) : gw (.go g w es) = w := rfl
theorem gw_comm (g : Goroutine) (c : Array CommCase) (b : Bool) (s : CommShape) (w : World) (es : Array Event) : gw (.comm g c b s w es) = w := rfl
theorem gw_spawn (g c : Goroutine) (w : World) (es : Array Event) : gw (.spawn g c w es) = w := rfl
theorem gw_count (g : Goroutine) (w : World) (es : Array Event) : gw (.count g w es) = w := rfl
theorem gw_timer (g : Goroutine) (o : TimerOp) (w : World) (es : Array Event) : gw (.timer g o w es) = w := rfl
theorem gw_alone (g : Goroutine) (o : Bool) (w : World) (es : Array Event) : gw (.alone g o w es) = w := rfl
theorem gw_newcoro (g : Goroutine) (c : Nat) (d : Deferred) (w : World) (es : Array Event) : gw (.newcoro g c d w es) = w := rfl
theorem gw_coroswitch (g : Goroutine) (c : Nat) (x : Bool) (w : World) (es : Array Event) : gw (.coroswitch g c x w es) = w := rfl
theorem gw_collect (g : Goroutine) (w : World) (es : Array Event) : gw (.collect g w es) = w := rfl
theorem gw_watch (g : Goroutine) (w : World) (es : Array Event) : gw (.watch g w es) = w := rfl
theorem gw_ended (o : Outcome) (w : World) (es : Array Event) : gw (.ended o w es) = w := rfl
theorem endThrow_gw (fr : Frame) (m : String) (w : World) : gw (endThrow fr m w) = w := rfl
theorem endWith_up (w : World) (fd : Nat) (t : ByteArray) (o : Outcome) : w.drawn ≤ (gw (endWith w fd t o)).drawn := by
  have h := sys_up w (.write fd t)
  unfold endWith
  generalize w.sys (.write fd t) = r at h
  obtain ⟨r, w'⟩ := r
  cases r <;> simp only <;> (try split) <;> exact h
theorem endPrinting_gw (p : Program) (fr : Frame) (v : Value) (w : World) : gw (endPrinting p fr v w) = w := by
  unfold endPrinting
  simp only
  split <;> rfl
theorem endFatal_up (p : Program) (fr : Frame) (cs : List Frame) (d : Option Dying) (m : String) (w : World) : w.drawn ≤ (gw (endFatal p fr cs d m w)).drawn := by
  unfold endFatal
  extract_lets chain raw shown
  clear_value shown
  split <;> (repeat (first | rw [gw_after] | rw [gw_go] | rw [gw_comm] | rw [gw_spawn] | rw [gw_count] | rw [gw_timer] | rw [gw_alone] | rw [gw_newcoro] | rw [gw_coroswitch] | rw [gw_collect] | rw [gw_watch] | rw [gw_ended])) <;> (first | exact Nat.le_refl _ | exact run_ok (by assumption) | exact run_halt (by assumption))
theorem writeOn_up (p : Program) (fr : Frame) (d : Dying) (f : Fatal) (w : World) : w.drawn ≤ (gw (writeOn p fr d f w)).drawn := by
  unfold writeOn
  extract_lets on
  split
  · exact Nat.le_refl _
  · extract_lets write
    clear_value write
    simp only [Sem.runT_eq]
    split <;> rename_i h <;> simp only [Prod.mk.injEq] at h <;> (try simp only [on]) <;> (repeat (first | rw [gw_after] | rw [gw_go] | rw [gw_comm] | rw [gw_spawn] | rw [gw_count] | rw [gw_timer] | rw [gw_alone] | rw [gw_newcoro] | rw [gw_coroswitch] | rw [gw_collect] | rw [gw_watch] | rw [gw_ended])) <;> first | exact run_ok h.1 | exact run_halt h.1
theorem die_up (p : Program) (fr : Frame) (d : Dying) (w : World) : w.drawn ≤ (gw (die p fr d w)).drawn := by
  unfold die
  split
  · exact writeOn_up _ _ _ _ _
  · split
    · split
      · exact Nat.le_refl _
      · exact endWith_up _ _ _ _
    · simp only [Sem.runT_eq]
      (repeat' split) <;> (repeat (first | rw [gw_after] | rw [gw_go] | rw [gw_comm] | rw [gw_spawn] | rw [gw_count] | rw [gw_timer] | rw [gw_alone] | rw [gw_newcoro] | rw [gw_coroswitch] | rw [gw_collect] | rw [gw_watch] | rw [gw_ended])) <;> (try simp only [endPrinting_gw]) <;> (first | exact Nat.le_refl _ | exact run_ok (by assumption) | exact run_halt (by assumption))
theorem doReturn_gw (p : Program) (main : Bool) (fr : Frame) (cs : List Frame) (d : Option Dying) (v : Value) (w : World) : gw (doReturn p main fr cs d v w) = w := by
  unfold doReturn
  (repeat' split) <;> rfl
theorem callDeferred_up (p : Program) (fr : Frame) (cs : List Frame) (dy : Option Dying) (d : Deferred) (w : World) : w.drawn ≤ (gw (callDeferred p fr cs dy d w)).drawn := by
  unfold callDeferred
  simp only [Sem.runT_eq]
  (repeat' split) <;> (repeat (first | rw [gw_after] | rw [gw_go] | rw [gw_comm] | rw [gw_spawn] | rw [gw_count] | rw [gw_timer] | rw [gw_alone] | rw [gw_newcoro] | rw [gw_coroswitch] | rw [gw_collect] | rw [gw_watch] | rw [gw_ended])) <;> (try simp only [endThrow_gw]) <;> first | (first | exact Nat.le_refl _ | exact run_ok (by assumption) | exact run_halt (by assumption)) | exact Nat.le_trans (run_halt (by assumption)) (endFatal_up _ _ _ _ _ _)
theorem unwind_up (p : Program) (main : Bool) (fr : Frame) (cs : List Frame) (dy : Option Dying) (w : World) : w.drawn ≤ (gw (unwind p main fr cs dy w)).drawn := by
  unfold unwind
  simp only [Sem.runT_eq]
  (repeat' split) <;> (repeat (first | rw [gw_after] | rw [gw_go] | rw [gw_comm] | rw [gw_spawn] | rw [gw_count] | rw [gw_timer] | rw [gw_alone] | rw [gw_newcoro] | rw [gw_coroswitch] | rw [gw_collect] | rw [gw_watch] | rw [gw_ended])) <;> (try simp only [doReturn_gw, endPrinting_gw]) <;> first | (first | exact Nat.le_refl _ | exact run_ok (by assumption) | exact run_halt (by assumption)) | exact callDeferred_up _ _ _ _ _ _
theorem early_up (p : Program) (fr : Frame) (cs : List Frame) (dy : Option Dying) (g : Nat) (w : World) : w.drawn ≤ (gw (early p fr cs dy g w)).drawn := by
  unfold early
  extract_lets refuse notYet
  have hn : ∀ w', w.drawn ≤ w'.drawn → w.drawn ≤ (gw (notYet w')).drawn := fun w' h => by
    simp only [notYet]
    (repeat' split) <;> (repeat (first | rw [gw_after] | rw [gw_go] | rw [gw_comm] | rw [gw_spawn] | rw [gw_count] | rw [gw_timer] | rw [gw_alone] | rw [gw_newcoro] | rw [gw_coroswitch] | rw [gw_collect] | rw [gw_watch] | rw [gw_ended])) <;> exact h
  have hr : w.drawn ≤ (gw refuse).drawn := Nat.le_refl _
  clear_value refuse notYet
  (repeat' split) <;> (repeat (first | rw [gw_after] | rw [gw_go] | rw [gw_comm] | rw [gw_spawn] | rw [gw_count] | rw [gw_timer] | rw [gw_alone] | rw [gw_newcoro] | rw [gw_coroswitch] | rw [gw_collect] | rw [gw_watch] | rw [gw_ended])) <;> first | exact hr | exact hn _ (Nat.le_refl _) | exact hn _ (run_ok (by assumption)) | (first | exact Nat.le_refl _ | exact run_ok (by assumption) | exact run_halt (by assumption))
theorem apply_up (p : Program) (l : Bool) (fr : Frame) (cs : List Frame) (dy : Option Dying) (s : Sem Next) (w : World) : w.drawn ≤ (gw (stepG.apply p l fr cs dy s w)).drawn := by
  unfold stepG.apply
  have hs : (if l = true then s.runT p w #[] else (s.run p w, #[])).1 = s.run p w := by
    cases l <;> simp [Sem.runT_eq]
  generalize (if l = true then s.runT p w #[] else (s.run p w, #[])) = r at hs
  obtain ⟨r, es⟩ := r
  simp only at hs
  subst hs
  simp only [gw_after]
  (repeat' split) <;> (repeat (first | rw [gw_after] | rw [gw_go] | rw [gw_comm] | rw [gw_spawn] | rw [gw_count] | rw [gw_timer] | rw [gw_alone] | rw [gw_newcoro] | rw [gw_coroswitch] | rw [gw_collect] | rw [gw_watch] | rw [gw_ended])) <;> (try simp only [endThrow_gw]) <;> first | (first | exact Nat.le_refl _ | exact run_ok (by assumption) | exact run_halt (by assumption)) | exact Nat.le_trans (run_halt (by assumption)) (endFatal_up _ _ _ _ _ _) | exact Nat.le_trans (run_halt (by assumption)) (early_up _ _ _ _ _ _)
theorem oper_up (p : Program) (l : Bool) (fr : Frame) (cs : List Frame) (dy : Option Dying) (w : World) : w.drawn ≤ (gw (stepG.oper p l fr cs dy w)).drawn := by
  unfold stepG.oper
  (repeat' split) <;> (repeat (first | rw [gw_after] | rw [gw_go] | rw [gw_comm] | rw [gw_spawn] | rw [gw_count] | rw [gw_timer] | rw [gw_alone] | rw [gw_newcoro] | rw [gw_coroswitch] | rw [gw_collect] | rw [gw_watch] | rw [gw_ended])) <;> first | (first | exact Nat.le_refl _ | exact run_ok (by assumption) | exact run_halt (by assumption)) | exact apply_up _ _ _ _ _ _ _
theorem elim_up {α : Type} (d : Nat) (o : Option α) (x : GStep) (f : α → GStep) (hx : d ≤ (gw x).drawn) (hf : ∀ a, d ≤ (gw (f a)).drawn) : d ≤ (gw (o.elim x f)).drawn := by
  cases o
  · exact hx
  · exact hf _
theorem exec_up (p : Program) (main l : Bool) (fr : Frame) (cs : List Frame) (dy : Option Dying) (w : World) : w.drawn ≤ (gw (stepG.exec p main l fr cs dy w)).drawn := by
  unfold stepG.exec
  extract_lets go to lost leave
  have hgo : ∀ fr w', w.drawn ≤ w'.drawn → w.drawn ≤ (gw (go fr w')).drawn := fun _ _ h => h
  have hto : ∀ k, w.drawn ≤ (gw (to k)).drawn := fun _ => Nat.le_refl _
  have hlost : ∀ s, w.drawn ≤ (gw (lost s)).drawn := fun _ => Nat.le_refl _
  have hleave : ∀ j, w.drawn ≤ (gw (leave j)).drawn := fun j => by
    simp only [leave]
    clear_value go to lost leave
    split
    · split <;> first | exact hgo _ _ (Nat.le_refl _) | exact hlost _ | (split <;> first | exact hgo _ _ (Nat.le_refl _) | exact hlost _)
    · simp only [Sem.runT_eq, gw_after]
      split
      · rw [doReturn_gw]; (first | exact Nat.le_refl _ | exact run_ok (by assumption) | exact run_halt (by assumption))
      · (repeat (first | rw [gw_after] | rw [gw_go] | rw [gw_comm] | rw [gw_spawn] | rw [gw_count] | rw [gw_timer] | rw [gw_alone] | rw [gw_newcoro] | rw [gw_coroswitch] | rw [gw_collect] | rw [gw_watch] | rw [gw_ended])) <;> (first | exact Nat.le_refl _ | exact run_ok (by assumption) | exact run_halt (by assumption))
  clear_value go to lost leave
  simp only [Sem.runT_eq]
  split
  all_goals first
    | exact hleave _
    | exact hto _
    | exact hlost _
    | exact oper_up _ _ _ _ _ _
    | exact apply_up _ _ _ _ _ _ _
    | exact elim_up _ _ _ _ (hleave _) hto
    | exact elim_up _ _ _ _ (hlost _) fun _ => apply_up _ _ _ _ _ _ _
    | ((repeat' split) <;> (repeat (first | rw [gw_after] | rw [gw_go] | rw [gw_comm] | rw [gw_spawn] | rw [gw_count] | rw [gw_timer] | rw [gw_alone] | rw [gw_newcoro] | rw [gw_coroswitch] | rw [gw_collect] | rw [gw_watch] | rw [gw_ended])) <;> (repeat' split) <;> (repeat (first | rw [gw_after] | rw [gw_go] | rw [gw_comm] | rw [gw_spawn] | rw [gw_count] | rw [gw_timer] | rw [gw_alone] | rw [gw_newcoro] | rw [gw_coroswitch] | rw [gw_collect] | rw [gw_watch] | rw [gw_ended])) <;> first
        | exact hleave _
        | exact hto _
        | exact hlost _
        | (first | exact Nat.le_refl _ | exact run_ok (by assumption) | exact run_halt (by assumption))
        | exact oper_up _ _ _ _ _ _
        | exact hgo _ _ (Nat.le_refl _)
        | exact hgo _ _ (run_ok (by assumption))
        | exact hgo _ _ (run_halt (by assumption))
        | exact Nat.le_trans (run_ok (by assumption)) (apply_up _ _ _ _ _ _ _))
theorem stepG_up (p : Program) (main : Bool) (g : Goroutine) (w : World) (l : Bool) : w.drawn ≤ (gw (stepG p main g w l)).drawn := by
  unfold stepG
  obtain ⟨fr, cs, st, dy, of⟩ := g
  simp only
  split
  · exact die_up _ _ _ _
  · exact exec_up _ _ _ _ _ _ _
  · exact unwind_up _ _ _ _ _ _
def upS (d : Nat) : Stepped → Prop
  | .next m => d ≤ m.world.drawn
  | .ended _ _ => True
theorem upS_next {d : Nat} {m : Machine} (h : d ≤ m.world.drawn) : upS d (.next m) := h
theorem upS_ended {d : Nat} {o : Outcome} {w : World} : upS d (.ended o w) := trivial
theorem upS_le {d d' : Nat} {s : Stepped} (h : d ≤ d') (hs : upS d' s) : upS d s := by
  cases s with
  | next m => exact Nat.le_trans h hs
  | ended o w => trivial
theorem look_up (p : Program) (gs : Array Goroutine) (rest : Rest) (w : World) : upS w.drawn (look p gs rest w) := by
  unfold look
  split
  · split
    extract_lets set
    split
    split
    · exact upS_ended
    · split
      · exact upS_ended
      · extract_lets pick
        clear_value pick
        split
        · rename_i h
          exact upS_next (run_ok h : w.drawn ≤ _)
        · exact upS_ended
        · exact upS_ended
  · exact upS_ended
theorem waitingAt_drawn {rest : Rest} {cs : Array CommCase} {w w' : World} (h : waitingAt rest cs w = some w') : w'.drawn = w.drawn := by
  unfold waitingAt at h
  split at h
  · split at h
    · simp only [Option.some.injEq] at h; subst h; rfl
    · contradiction
  · simp only [Option.some.injEq] at h; subst h; rfl
theorem communicate_up (p : Program) (rest : Rest) (gs : Array Goroutine) (i : Nat) (g : Goroutine) (cs : Array CommCase) (b : Bool) (s : CommShape) (w : World) :
    upS w.drawn (communicate p rest gs i g cs b s w).1 := by
  unfold communicate
  extract_lets put illMade me other ready pick
  have hput : ∀ g gs w' ops, w.drawn ≤ w'.drawn → upS w.drawn (put g gs w' ops).1 := fun _ _ _ _ h => h
  clear_value put illMade me other ready pick
  split
  · exact upS_ended
  · split
    · split
      · split
        · rename_i h
          exact upS_next (Nat.le_of_eq (waitingAt_drawn h).symm)
        · exact upS_ended
      · exact hput _ _ _ _ (Nat.le_refl _)
    · split
      · exact upS_ended
      · rename_i h1
        have hl := run_ok h1
        clear h1
        simp only
        (repeat' split) <;> first
          | exact upS_ended
          | exact hput _ _ _ _ hl
          | (refine hput _ _ _ _ (Nat.le_trans hl ?_); (try dsimp only); exact run_ok (by assumption))
          | (refine hput _ _ _ _ (Nat.le_trans hl ?_); (try dsimp only); exact run_halt (by assumption))
theorem drain_drawn (w : World) (c : Nat) : (drain w c).2.drawn = w.drawn := by
  unfold drain
  split <;> rfl
theorem retime_drawn (m : Machine) (k : Nat) (t : Timer) (a b : Nat) : (retime m k t a b).2.world.drawn = m.world.drawn := by
  unfold retime
  cases t.chan with
  | none => rfl
  | some c => exact drain_drawn m.world c
theorem timerOp_drawn {m m' : Machine} {op : TimerOp} {v : Value} (h : timerOp m op = .ok (v, m')) : m'.world.drawn = m.world.drawn := by
  have hn : ∀ (n : Machine) var f, (∀ k t, (f k t).2.world.drawn = n.world.drawn) → timerOp.named m var f = .ok (v, m') → m'.world.drawn = n.world.drawn := fun n var f hf h => by
    unfold timerOp.named at h
    split at h
    · simp only [Except.ok.injEq] at h
      rw [← hf, h]
    · contradiction
  unfold timerOp at h
  split at h
  · split at h
    · simp only [Except.ok.injEq, Prod.mk.injEq] at h
      obtain ⟨_, rfl⟩ := h
      rfl
    · split at h
      · split at h
        · contradiction
        · simp only [Except.ok.injEq, Prod.mk.injEq] at h
          obtain ⟨_, rfl⟩ := h
          rfl
      · contradiction
  · exact hn m _ _ (fun k t => retime_drawn _ _ _ _ _) h
  · split at h
    · rename_i m2 ho
      have h2 := hn m2 _ _ (fun k t => retime_drawn _ _ _ _ _) h
      rw [h2]
      unfold timerOp.opened at ho
      (repeat' split at ho) <;> first | contradiction | (simp only [Option.some.injEq] at ho; subst ho; rfl)
    · contradiction
  · simp only [Except.ok.injEq, Prod.mk.injEq] at h
    obtain ⟨_, rfl⟩ := h
    rfl
theorem serve_up (p : Program) (m : Machine) (k : Nat) : upS m.world.drawn (serve p m k) := by
  unfold serve
  split
  · exact upS_ended
  · exact upS_next (Nat.le_refl _)
  · simp only
    split
    · exact upS_ended
    · exact upS_next (Nat.le_refl _)
def upM (d : Nat) : Move → Prop
  | .goroutine m _ => d ≤ m.world.drawn
  | .machine s _ => upS d s
theorem upM_go {d : Nat} {m : Machine} {i : Nat} (h : d ≤ m.world.drawn) : upM d (.goroutine m i) := h
theorem upM_st {d : Nat} {s : Stepped} {o : Array MemOp} (h : upS d s) : upM d (.machine s o) := h
theorem askOn_up (p : Program) (m : Machine) : upM m.world.drawn (askOn p m) := by
  unfold askOn
  extract_lets mono rs ds pick
  have hp : ∀ m' : Machine, upM m'.world.drawn (pick m') := fun m' => by
    simp only [pick]
    split
    · exact upM_st upS_ended
    · rename_i h1
      have h1 := run_ok h1
      split
      · exact upM_go h1
      · split
        · exact upM_st upS_ended
        · rename_i h2
          exact upM_go (Nat.le_trans h1 (run_ok h2))
  have hp' : ∀ m' : Machine, m.world.drawn ≤ m'.world.drawn → upM m.world.drawn (pick m') := fun m' h => by
    have := hp m'
    generalize pick m' = r at this
    cases r with
    | goroutine m i => exact Nat.le_trans h this
    | machine s o => exact upS_le h this
  clear_value pick
  clear hp
  clear_value rs ds mono
  split
  · exact upM_st upS_ended
  · rename_i h1
    have hl := run_ok h1
    clear h1
    simp only
    split
    · exact upM_st (upS_le hl (serve_up _ _ _))
    · split
      · split
        · exact upM_st (upS_next hl)
        · split
          · exact upM_st (upS_next hl)
          · split
            · exact upM_st upS_ended
            · exact upM_st upS_ended
      · split
        · exact hp' _ hl
        · split
          · exact upM_st upS_ended
          · rename_i h2
            have h2 := run_ok h2
            exact hp' _ (Nat.le_trans hl h2)
          · rename_i h2
            have h2 := run_ok h2
            exact upM_st (upS_next (Nat.le_trans hl h2))
          · rename_i h2
            have h2 := run_ok h2
            exact hp' _ (Nat.le_trans hl h2)
theorem upM_le {d d' : Nat} {s : Move} (h : d ≤ d') (hs : upM d' s) : upM d s := by
  cases s with
  | goroutine m i => exact Nat.le_trans h hs
  | machine s o => exact upS_le h hs
theorem ask_upM (p : Program) (m : Machine) : upM m.world.drawn (ask p m) := by
  unfold ask
  split
  · split
    · exact upM_st upS_ended
    · rename_i h1
      have h1 := run_ok h1
      split
      · rename_i w' _ _ m' h2
        have h3 := look_up p m.gs m.rest w'
        rw [h2] at h3
        exact upM_le (Nat.le_trans h1 h3) (askOn_up _ _)
      · rename_i w' _ _ _
        exact upM_st (upS_le h1 (look_up _ _ _ _))
    · rename_i h1
      have h1 := run_ok h1
      exact upM_le h1 (askOn_up _ _)
  · exact askOn_up _ _
theorem move_up (p : Program) (m : Machine) : upM m.world.drawn (move p m) := by
  unfold move
  split
  · split
    · exact upM_go (Nat.le_refl _)
    · exact upM_st upS_ended
  · split
    · split
      · exact upM_go (Nat.le_refl _)
      · exact ask_upM _ _
    · exact ask_upM _ _
theorem runT_up (p : Program) (m : Machine) (i : Nat) (l : Bool) : upS m.world.drawn (runT p m i l).1 := by
  unfold runT
  extract_lets rest world
  split
  extract_lets wake fn pos s ops done
  have hs : m.world.drawn ≤ (gw s).drawn := stepG_up _ _ _ _ _
  clear_value s
  cases s <;> simp only [done] <;> simp only [gw] at hs
  case ended => exact upS_ended
  case comm => exact upS_le hs (communicate_up _ _ _ _ _ _ _ _ _)
  case go => exact upS_next hs
  case spawn => exact upS_next hs
  case count =>
    split
    · exact upS_ended
    · exact upS_next hs
  case alone => exact upS_next hs
  case collect => exact upS_le hs (look_up _ _ _ _)
  case watch => exact upS_next hs
  case newcoro => exact upS_next hs
  case coroswitch =>
    split
    · exact upS_next hs
    · split
      · rename_i g w es he
        have h := congrArg gw he
        rw [endThrow_gw] at h
        simp only [gw] at h
        exact upS_next (h ▸ hs)
      · exact upS_ended
    · exact upS_ended
  case timer =>
    split
    · rename_i ht
      exact upS_next (Nat.le_trans hs (Nat.le_of_eq (timerOp_drawn ht).symm))
    · split
      · rename_i g w es he
        have h := congrArg gw he
        rw [endThrow_gw] at h
        simp only [gw] at h
        exact upS_next (h ▸ hs)
      · exact upS_ended
    · exact upS_ended
    · exact upS_ended
theorem step_up (p : Program) (m : Machine) : upS m.world.drawn (step p m) := by
  unfold step stepT
  have h := move_up p m
  generalize move p m = r at h
  cases r with
  | goroutine m' i => exact upS_le h (runT_up _ _ _ _)
  | machine s o => exact h
theorem step_le {P : Program} {m m' : Machine} (h : step P m = .next m') : m.world.drawn ≤ m'.world.drawn := by
  have h1 := step_up P m
  rw [h] at h1
  exact h1
theorem steps_up {P : Program} {m m' : Machine} (h : Steps P m m') : m.world.drawn ≤ m'.world.drawn := by
  have h2 := StepsIn.of_steps h
  clear h
  induction h2 with
  | refl => exact Nat.le_refl _
  | head _ hs _ ih => exact Nat.le_trans (step_le hs) ih
theorem Calls.grows {P : Program} {f : FuncId} {args : Array Value} {w : World} {R : Ending → World → Prop} (h : Calls P f args w R) (ho : ∀ w', ¬ R .outgrown w') :
    Calls P f args w fun e w' => R e w' ∧ w.drawn ≤ w'.drawn := fun cs => by
  obtain ⟨e, w', fr, hR, hc, hf, hl⟩ := h cs
  refine ⟨e, w', fr, ⟨hR, ?_⟩, hc, hf, hl⟩
  cases e with
  | returned v => exact steps_up hc
  | panicked c => exact steps_up hc
  | outgrown => exact absurd hR (ho w')
end Go.Proofs.YtgojhiknicmopaaDoor
namespace Go.Proofs.YtgojhiknicmopaaDoor
open Go.RowKit
def R0 (_ : Value) : Option (DataW Unit × List MemPlace) := some (.nil, [])
theorem EsR.keysZ {ν : Type} [Dt ν] {H : Hp} {va : Bool} : ∀ {l : List (Int × ν)} {i : Nat} {es : List MapEntry}, EsR (κ := Int) (ν := ν) H false va i es l → (es.map fun x => x.key) = l.map fun p => Value.int .i64 p.1
  | [], _, _, h => by
    have h : _ = [] := h
    rw [h]; rfl
  | p :: l, _, _, ⟨e, r, h1, h2, ⟨ss, f, h3, h4⟩, h5, h6⟩ => by
    cases h3
    rw [h1, List.map_cons, List.map_cons, EsR.keysZ h6, h4]
    rfl
theorem wfZ {a : Int} (h : inI a) : (Lit.int .i64 a).wf = true := by
  obtain ⟨h1, h2⟩ := h
  simp only [Lit.wf, Bool.and_eq_true, decide_eq_true_eq]
  exact ⟨h1, h2⟩
theorem owns_of {P : Program} {K : TypeId} (hK : P.underlying K = some (.int .i64)) {ν : Type} [Dt ν] {H : Hp} {va : Bool} {w : World} {m : Nat} {es : List MapEntry} {l : List (Int × ν)} (hm : w.heap[m]? = some (.map es.toArray es.length)) (he : EsR (κ := Int) (ν := ν) H false va 0 es l) (hnd : (l.map fun p => p.1).Nodup) (hok : ∀ p, p ∈ l → inI p.1) (hlen : l.length ≤ maxLen) :
    ∃ D : DataW Unit, w.ownsMap P K R0 m l.length D ∧ Maps.size D = l.length ∧ (intKeys D).Perm (l.map fun p => p.1) := by
  have hk := he.keysZ
  have hl := he.len
  have hb := he.born
  have hrd : ∀ x ∈ es, ∃ a, inI a ∧ x.key = .int .i64 a := fun x hx => by
    have : x.key ∈ l.map fun p => Value.int .i64 p.1 := by rw [← hk]; exact List.mem_map_of_mem hx
    obtain ⟨p, hp, e⟩ := List.mem_map.1 this
    exact ⟨p.1, hok p hp, e.symm⟩
  have hrg : (es.map (Go.WideElems.rg P K R0)).map (fun p => Go.intOf p.1) = l.map fun p => p.1 := by
    have h1 : (es.map (Go.WideElems.rg P K R0)).map (fun p => Go.intOf p.1) = (es.map fun x => x.key).map fun v => match v with | .int _ a => a | _ => 0 := by
      rw [List.map_map, List.map_map]
      refine List.map_congr_left fun x hx => ?_
      obtain ⟨a, h1, h2⟩ := hrd x hx
      have h3 : Go.WideElems.rd P K R0 x = some (.int .i64 a, (.nil : DataW Unit)) := Go.WideElems.rd_mk (key := x.key) (val := x.val) (born := x.born) (yv := (.nil, [])) (by rw [h2]; exact Maps.keyOf_int_mk hK (wfZ h1)) rfl
      have h4 : Go.WideElems.rg P K R0 x = (.int .i64 a, .nil) := Go.WideElems.rg_of h3
      simp only [Function.comp, h4, h2, Go.intOf]
    rw [h1, hk, List.map_map]
    rfl
  refine ⟨_, ⟨es.toArray, es.length, hm, ⟨by simpa [hl] using hlen, ⟨fun x hx => ?_, ?_, ?_⟩, fun x hx => ?_⟩, by simp [hl], rfl⟩, ?_, ?_⟩
  · have : x.born ∈ es.map (·.born) := List.mem_map_of_mem (by simpa using hx)
    rw [hb, List.mem_range'_1] at this
    omega
  · show (es.map (·.born)).Nodup
    rw [hb]; exact List.nodup_range'
  · show (es.map fun x => x.key).Nodup
    rw [hk]
    have : (l.map fun p => Value.int .i64 p.1) = (l.map fun p => p.1).map fun a => Value.int .i64 a := by rw [List.map_map]; rfl
    rw [this]
    exact List.pairwise_map.2 (hnd.imp fun h e => h (by cases e; rfl))
  · obtain ⟨a, h1, h2⟩ := hrd x (by simpa using hx)
    exact ⟨_, Go.WideElems.rd_mk (key := x.key) (val := x.val) (born := x.born) (by rw [h2]; exact Maps.keyOf_int_mk hK (wfZ h1)) rfl⟩
  · show (((es.map (Go.WideElems.rg P K R0)).foldr DataW.insert []).length) = l.length
    rw [(Go.WideShapes.sorted_perm _).length_eq, List.length_map, hl]
  · show (((es.map (Go.WideElems.rg P K R0)).foldr DataW.insert []).map fun p => Go.intOf p.1).Perm _
    rw [← hrg]
    exact (Go.WideShapes.sorted_perm _).map _
theorem sortZ_perm {l l' : List Int} (h : l.Perm l') : l.mergeSort (fun x y => decide (x ≤ y)) = sortZ l' := by
  refine List.Perm.eq_of_pairwise (le := fun a b => a ≤ b) (fun a b _ _ h1 h2 => Int.le_antisymm h1 h2) ?_ (sortZ_sorted l') (((List.mergeSort_perm l _).trans h).trans (sortZ_self l').symm)
  have := List.pairwise_mergeSort (le := fun x y : Int => decide (x ≤ y)) (fun a b c h1 h2 => by simp only [decide_eq_true_eq] at *; exact Int.le_trans h1 h2) (fun a b => by simp only [Bool.or_eq_true, decide_eq_true_eq]; exact Int.le_total a b) l
  exact this.imp fun h => by simpa using h
theorem DtL.ofZ {H : Hp} : ∀ l : List Int, DtL (α := Int) H (l.map encZ) l
  | [] => rfl
  | x :: l => ⟨[encZ x], l.map encZ, rfl, rfl, DtL.ofZ l⟩
end Go.Proofs.YtgojhiknicmopaaDoor
namespace Go.Proofs.YtgojhiknicmopaaDoor
open Go.RowKit Go.Maps Go.Sort Go.Shelf
def Tryd.keysA41_ren : Go.Shelf.Ren := ⟨fun | 7 => 42 | 10 => 61 | n => n, fun | 23 => 68 | 26 => 3 | 3 => 70 | 28 => 98 | 0 => 0 | 27 => 97 | 33 => 66 | 4 => 4 | n => n, fun | n => n⟩
theorem Tryd.keysA41 : Go.Proofs.SlLaysZI.n7 Tryd.prog Tryd.keysA41_ren := {
  mixed := by kernel_rfl
  f7 := ⟨Tryd.f42.name, by decide, Tryd.func42.trans (congrArg some (by kernel_rfl))⟩
  f10 := ⟨Tryd.f61.name, by decide, Tryd.func61.trans (congrArg some (by kernel_rfl))⟩
  t0 := Tryd.underlying0
  a0 := Tryd.isAgg0
  z0 := Tryd.sizeOf0
  v0 := Tryd.zeroValue0
  t4 := Tryd.underlying4
  a4 := Tryd.isAgg4
  z4 := Tryd.sizeOf4
  v4 := Tryd.zeroValue4
  t23 := Tryd.underlying68
  a23 := Tryd.isAgg68
  z23 := Tryd.sizeOf68
  v23 := Tryd.zeroValue68
  t26 := Tryd.underlying3
  a26 := Tryd.isAgg3
  z26 := Tryd.sizeOf3
  v26 := Tryd.zeroValue3
  t27 := Tryd.underlying97
  a27 := Tryd.isAgg97
  z27 := Tryd.sizeOf97
  v27 := Tryd.zeroValue97
  t28 := Tryd.underlying98
  a28 := Tryd.isAgg98
  z28 := Tryd.sizeOf98
  v28 := Tryd.zeroValue98
  t33 := Tryd.underlying66
  a33 := Tryd.isAgg66
  z33 := Tryd.sizeOf66
  v33 := Tryd.zeroValue66 }
def Tryd.sortedA41_ren : Go.Shelf.Ren := ⟨fun | 6 => 41 | 8 => 59 | 9 => 60 | 11 => 75 | 13 => 77 | 12 => 76 | 23 => 91 | 24 => 92 | 14 => 82 | 15 => 83 | 16 => 84 | 17 => 85 | 18 => 86 | 19 => 87 | 20 => 88 | 21 => 89 | 22 => 90 | 25 => 93 | 26 => 94 | 27 => 95 | 28 => 96 | 29 => 97 | 30 => 98 | 31 => 99 | n => n, fun | 26 => 3 | 28 => 98 | 24 => 35 | 0 => 0 | 3 => 3 | 37 => 129 | 48 => 146 | 50 => 61 | 4 => 4 | 40 => 138 | 39 => 137 | 45 => 143 | 5 => 5 | 9 => 9 | 51 => 147 | 55 => 151 | 57 => 153 | 58 => 154 | 33 => 66 | n => n, fun | n => n⟩
theorem Tryd.sortedA41 : Go.Proofs.SlLaysZI.n6 Tryd.prog Tryd.sortedA41_ren := {
  mixed := by kernel_rfl
  f6 := ⟨Tryd.f41.name, by decide, Tryd.func41.trans (congrArg some (by kernel_rfl))⟩
  f8 := ⟨Tryd.f59.name, by decide, Tryd.func59.trans (congrArg some (by kernel_rfl))⟩
  f11 := ⟨Tryd.f75.name, by decide, Tryd.func75.trans (congrArg some (by kernel_rfl))⟩
  t0 := Tryd.underlying0
  a0 := Tryd.isAgg0
  z0 := Tryd.sizeOf0
  v0 := Tryd.zeroValue0
  t24 := Tryd.underlying35
  a24 := Tryd.isAgg35
  z24 := Tryd.sizeOf35
  v24 := Tryd.zeroValue35
  t26 := Tryd.underlying3
  a26 := Tryd.isAgg3
  z26 := Tryd.sizeOf3
  v26 := Tryd.zeroValue3
  t28 := Tryd.underlying98
  a28 := Tryd.isAgg98
  z28 := Tryd.sizeOf98
  v28 := Tryd.zeroValue98
  i26 := by kernel_rfl }
def Tryd.sortA41_ren : Go.Shelf.Ren := ⟨fun | 5 => 60 | 8 => 77 | 7 => 76 | 19 => 91 | 20 => 92 | 10 => 82 | 11 => 83 | 12 => 84 | 13 => 85 | 14 => 86 | 15 => 87 | 16 => 88 | 17 => 89 | 18 => 90 | 30 => 93 | 31 => 94 | 32 => 95 | 33 => 96 | 34 => 97 | 35 => 98 | 40 => 99 | n => n, fun | 23 => 35 | 25 => 3 | 3 => 3 | 32 => 129 | 22 => 35 | 0 => 0 | 44 => 146 | 46 => 61 | 4 => 4 | 36 => 138 | 35 => 137 | 41 => 143 | 5 => 5 | 9 => 9 | 53 => 147 | 57 => 151 | 63 => 153 | 64 => 154 | n => n, fun | n => n⟩
theorem Tryd.sortA41 : Go.Proofs.SlLaysM.n5 Tryd.prog Tryd.sortA41_ren := {
  mixed := by kernel_rfl
  f5 := ⟨Tryd.f60.name, by decide, Tryd.func60.trans (congrArg some (by kernel_rfl))⟩
  f7 := ⟨Tryd.f76.name, by decide, Tryd.func76.trans (congrArg some (by kernel_rfl))⟩
  f8 := Tryd.func77.trans (congrArg some (by kernel_rfl))
  f10 := ⟨Tryd.f82.name, by decide, Tryd.func82.trans (congrArg some (by kernel_rfl))⟩
  f11 := ⟨Tryd.f83.name, by decide, Tryd.func83.trans (congrArg some (by kernel_rfl))⟩
  f12 := ⟨Tryd.f84.name, by decide, Tryd.func84.trans (congrArg some (by kernel_rfl))⟩
  f13 := ⟨Tryd.f85.name, by decide, Tryd.func85.trans (congrArg some (by kernel_rfl))⟩
  f14 := ⟨Tryd.f86.name, by decide, Tryd.func86.trans (congrArg some (by kernel_rfl))⟩
  f15 := ⟨Tryd.f87.name, by decide, Tryd.func87.trans (congrArg some (by kernel_rfl))⟩
  f16 := ⟨Tryd.f88.name, by decide, Tryd.func88.trans (congrArg some (by kernel_rfl))⟩
  f17 := ⟨Tryd.f89.name, by decide, Tryd.func89.trans (congrArg some (by kernel_rfl))⟩
  f18 := ⟨Tryd.f90.name, by decide, Tryd.func90.trans (congrArg some (by kernel_rfl))⟩
  f19 := Tryd.func91.trans (congrArg some (by kernel_rfl))
  f20 := Tryd.func92.trans (congrArg some (by kernel_rfl))
  f30 := ⟨Tryd.f93.name, by decide, Tryd.func93.trans (congrArg some (by kernel_rfl))⟩
  f31 := Tryd.func94.trans (congrArg some (by kernel_rfl))
  f32 := Tryd.func95.trans (congrArg some (by kernel_rfl))
  f33 := ⟨Tryd.f96.name, by decide, Tryd.func96.trans (congrArg some (by kernel_rfl))⟩
  f34 := ⟨Tryd.f97.name, by decide, Tryd.func97.trans (congrArg some (by kernel_rfl))⟩
  f35 := ⟨Tryd.f98.name, by decide, Tryd.func98.trans (congrArg some (by kernel_rfl))⟩
  f40 := ⟨Tryd.f99.name, by decide, Tryd.func99.trans (congrArg some (by kernel_rfl))⟩
  t0 := Tryd.underlying0
  a0 := Tryd.isAgg0
  z0 := Tryd.sizeOf0
  v0 := Tryd.zeroValue0
  t3 := Tryd.underlying3
  a3 := Tryd.isAgg3
  z3 := Tryd.sizeOf3
  v3 := Tryd.zeroValue3
  t4 := Tryd.underlying4
  a4 := Tryd.isAgg4
  z4 := Tryd.sizeOf4
  v4 := Tryd.zeroValue4
  t5 := Tryd.underlying5
  a5 := Tryd.isAgg5
  z5 := Tryd.sizeOf5
  v5 := Tryd.zeroValue5
  t9 := Tryd.underlying9
  a9 := Tryd.isAgg9
  z9 := Tryd.sizeOf9
  v9 := Tryd.zeroValue9
  t22 := Tryd.underlying35
  a22 := Tryd.isAgg35
  z22 := Tryd.sizeOf35
  v22 := Tryd.zeroValue35
  t23 := Tryd.underlying35
  a23 := Tryd.isAgg35
  z23 := Tryd.sizeOf35
  v23 := Tryd.zeroValue35
  t25 := Tryd.underlying3
  a25 := Tryd.isAgg3
  z25 := Tryd.sizeOf3
  v25 := Tryd.zeroValue3
  t32 := Tryd.underlying129
  a32 := Tryd.isAgg129
  z32 := Tryd.sizeOf129
  v32 := Tryd.zeroValue129
  t35 := Tryd.underlying137
  a35 := Tryd.isAgg137
  z35 := Tryd.sizeOf137
  v35 := Tryd.zeroValue137
  t36 := Tryd.underlying138
  a36 := Tryd.isAgg138
  z36 := Tryd.sizeOf138
  v36 := Tryd.zeroValue138
  t41 := Tryd.underlying143
  a41 := Tryd.isAgg143
  z41 := Tryd.sizeOf143
  v41 := Tryd.zeroValue143
  t44 := Tryd.underlying146
  a44 := Tryd.isAgg146
  z44 := Tryd.sizeOf146
  v44 := Tryd.zeroValue146
  t46 := Tryd.underlying61
  a46 := Tryd.isAgg61
  z46 := Tryd.sizeOf61
  v46 := Tryd.zeroValue61
  t53 := Tryd.underlying147
  a53 := Tryd.isAgg147
  z53 := Tryd.sizeOf147
  v53 := Tryd.zeroValue147
  t57 := Tryd.underlying151
  a57 := Tryd.isAgg151
  z57 := Tryd.sizeOf151
  v57 := Tryd.zeroValue151
  t63 := Tryd.underlying153
  a63 := Tryd.isAgg153
  z63 := Tryd.sizeOf153
  v63 := Tryd.zeroValue153
  t64 := Tryd.underlying154
  a64 := Tryd.isAgg154
  z64 := Tryd.sizeOf154
  v64 := Tryd.zeroValue154 }
theorem sorts41 (m : Nat) : AnyZI.SortsIn Tryd.prog Tryd.sortedA41_ren Fence.wide m :=
  ⟨fun blk off cap ss W hH hblk hsz => callsIn_wide.2 (AnyM.slices_Sort_int Tryd.sortA41 blk off cap ss W hH hblk hsz), fun p cap W => callsIn_wide.2 (AnyM.slices_Sort_int_none Tryd.sortA41 p cap W)⟩
theorem skh41 {ν : Type} [Dt ν] {H : Hp} {va : Bool} {w : World} {bx m T : Nat} {es : List MapEntry} {l : List (Int × ν)} (hbx : w.heap[bx]? = some (.cells #[.map (some m)] T (0, 0))) (hm : w.heap[m]? = some (.map es.toArray es.length)) (he : EsR (κ := Int) (ν := ν) H false va 0 es l) (hnd : (l.map fun p => p.1).Nodup) (hok : ∀ p, p ∈ l → inI p.1) (hlen : lenOk l.length 8) :
    Calls Tryd.prog 41 #[.func (.func 61) #[] #[.pointer (some ⟨bx, 0, none⟩)]] w fun e w' => ∃ v s, e = .returned v ∧ Below w.heap.size w w' ∧ w'.ownsRow w.heap.size 3 1 v (sortZ (l.map fun p => p.1)).length s ∧ DtL (α := Int) H s (sortZ (l.map fun p => p.1)) := by
  obtain ⟨D0, hown, hsz, hperm⟩ := owns_of (P := Tryd.prog) (K := 3) (by kernel_rfl) hm he hnd hok hlen.2
  have hcell : w.cell? ⟨bx, 0, none⟩ = some (.map (some m)) := by simp [World.cell?, hbx]
  have hseq : SeqGives Fence.wide 2 Tryd.prog 61 #[.pointer (some ⟨bx, 0, none⟩)] encZ (fun ss => ss.Perm (intKeys D0)) (Maps.size D0) w :=
    AnyZI.keys_gives (ρ := Tryd.keysA41_ren) { Tryd.keysA41 with } Fence.wide _ trivial rfl (by omega) bx m l.length D0 _ (lt_of_heap hbx) hcell hown
  have cS := AnyZI.sorted_in Tryd.sortedA41 Fence.wide 5 trivial trivial trivial trivial rfl (by omega) (sorts41 _) (enters_of Tryd.func60 (by kernel_rfl) rfl) 61 #[.pointer (some ⟨bx, 0, none⟩)] trivial (enters_of Tryd.func61 (by kernel_rfl) rfl) _ _ (by rw [hsz]; exact hlen.2) (by rw [hsz]; exact hlen.1) _ hseq
  change CallsIn _ _ Tryd.prog 41 _ _ _ at cS
  have cG := Calls.grows (callsIn_wide.1 cS) fun w' ⟨_, _, h, _⟩ => by cases h
  refine cG.mono fun e w' ⟨⟨v, ss, h1, h2, h3, h4, h5⟩, hd⟩ => ?_
  have hs := sortZ_perm (h2.trans hperm)
  have hn : ss.length = (sortZ (l.map fun p => p.1)).length := by rw [← hs, List.length_mergeSort]
  rw [hs, hn] at h3
  exact ⟨v, _, h1, ⟨h5, hd⟩, h3, DtL.ofZ _⟩
theorem skok41 : sk41.Ok Tryd.prog := fun _ _ _ _ _ _ _ hbx hm he hnd hok hlen => skh41 hbx hm he hnd hok hlen
end Go.Proofs.YtgojhiknicmopaaDoor
namespace Go.Proofs.YtgojhiknicmopaaDoor
open Go.RowKit
theorem mo : Tryd.prog.follows .mixedOrders = true := by kernel_rfl
theorem ok4 : ct4.Ok Tryd.prog tab gh := Ct.lift (E := ⟨Tryd.prog, tab, [], pl4, [], gh, [], [], []⟩) ⟨tabOk, trivial, mo, trivial, ghUp, trivial, trivial⟩ 9 ct4 fun x Φ => by rw [eq4]; exact id
theorem ok58 : ct58.Ok Tryd.prog tab gh := Ct.lift (E := ⟨Tryd.prog, tab, [], pl58, [], gh, [], [], []⟩) ⟨tabOk, trivial, mo, trivial, ghUp, trivial, trivial⟩ 9 ct58 fun x Φ => by rw [eq58]; exact id
theorem ok37 : ct37.Ok Tryd.prog tab gh := Ct.lift (E := ⟨Tryd.prog, tab, [ct58], pl37, [], gh, [], [], []⟩) ⟨tabOk, ⟨ok58, trivial⟩, mo, trivial, ghUp, trivial, trivial⟩ 9 ct37 fun x Φ => by rw [eq37]; exact id
theorem ok39 : ct39.Ok Tryd.prog tab gh := Ct.lift (E := ⟨Tryd.prog, tab, [], pl39, [], gh, [], [], []⟩) ⟨tabOk, trivial, mo, trivial, ghUp, trivial, trivial⟩ 9 ct39 fun x Φ => by rw [eq39]; exact id
theorem ok17 : ct17.Ok Tryd.prog tab gh := Ct.lift (E := ⟨Tryd.prog, tab, [ct37, ct39], pl17, [], gh, [], [], []⟩) ⟨tabOk, ⟨ok37, ok39, trivial⟩, mo, trivial, ghUp, trivial, trivial⟩ 9 ct17 fun x Φ => by rw [eq17]; exact id
theorem ok20 : ct20.Ok Tryd.prog tab gh := Ct.lift (E := ⟨Tryd.prog, tab, [], pl20, [], gh, [], [], []⟩) ⟨tabOk, trivial, mo, trivial, ghUp, trivial, trivial⟩ 9 ct20 fun x Φ => by rw [eq20]; exact id
theorem ok18 : ct18.Ok Tryd.prog tab gh := Ct.lift (E := ⟨Tryd.prog, tab, [ct20], pl18, [], gh, [], [], []⟩) ⟨tabOk, ⟨ok20, trivial⟩, mo, trivial, ghUp, trivial, trivial⟩ 9 ct18 fun x Φ => by rw [eq18]; exact id
theorem ok36 : ct36.Ok Tryd.prog tab gh := Ct.lift (E := ⟨Tryd.prog, tab, [], pl36, [], gh, [], [], []⟩) ⟨tabOk, trivial, mo, trivial, ghUp, trivial, trivial⟩ 9 ct36 fun x Φ => by rw [eq36]; exact id
theorem ok40 : ct40.Ok Tryd.prog tab gh := Ct.lift (E := ⟨Tryd.prog, tab, [ct36], pl40, [], gh, [], [], []⟩) ⟨tabOk, ⟨ok36, trivial⟩, mo, trivial, ghUp, trivial, trivial⟩ 9 ct40 fun x Φ => by rw [eq40]; exact id
theorem ok19 : ct19.Ok Tryd.prog tab gh := Ct.lift (E := ⟨Tryd.prog, tab, [ct40], pl19, [], gh, [], [], []⟩) ⟨tabOk, ⟨ok40, trivial⟩, mo, trivial, ghUp, trivial, trivial⟩ 9 ct19 fun x Φ => by rw [eq19]; exact id
theorem ok21 : ct21.Ok Tryd.prog tab gh := Ct.lift (E := ⟨Tryd.prog, tab, [], pl21, [], gh, [], [], []⟩) ⟨tabOk, trivial, mo, trivial, ghUp, trivial, trivial⟩ 9 ct21 fun x Φ => by rw [eq21]; exact id
theorem ok8 : ct8.Ok Tryd.prog tab gh := Ct.lift (E := ⟨Tryd.prog, tab, [ct17, ct18, ct19, ct20, ct21], pl8, [], gh, [], [], [sk41]⟩) ⟨tabOk, ⟨ok17, ok18, ok19, ok20, ok21, trivial⟩, mo, trivial, ghUp, trivial, ⟨skok41, trivial⟩⟩ 9 ct8 fun x Φ => by rw [eq8]; exact id
theorem ok16 : ct16.Ok Tryd.prog tab gh := Ct.lift (E := ⟨Tryd.prog, tab, [ct36], pl16, [], gh, [], [], []⟩) ⟨tabOk, ⟨ok36, trivial⟩, mo, trivial, ghUp, trivial, trivial⟩ 9 ct16 fun x Φ => by rw [eq16]; exact id
theorem ok63 : ct63.Ok Tryd.prog tab gh := Ct.lift (E := ⟨Tryd.prog, tab, [ct16], pl63, [], gh, [], [], []⟩) ⟨tabOk, ⟨ok16, trivial⟩, mo, trivial, ghUp, trivial, trivial⟩ 9 ct63 fun x Φ => by rw [eq63]; exact id
theorem ok43 : ct43.Ok Tryd.prog tab gh := Ct.lift (E := ⟨Tryd.prog, tab, [ct63], pl43, [], gh, [], [], []⟩) ⟨tabOk, ⟨ok63, trivial⟩, mo, trivial, ghUp, trivial, trivial⟩ 9 ct43 fun x Φ => by rw [eq43]; exact id
theorem ok23 : ct23.Ok Tryd.prog tab gh := Ct.lift (E := ⟨Tryd.prog, tab, [ct17, ct18, ct20, ct43], pl23, [], gh, [], [], []⟩) ⟨tabOk, ⟨ok17, ok18, ok20, ok43, trivial⟩, mo, trivial, ghUp, trivial, trivial⟩ 9 ct23 fun x Φ => by rw [eq23]; exact id
theorem ok79 : ct79.Ok Tryd.prog tab gh := Ct.lift (E := ⟨Tryd.prog, tab, [], pl79, [], gh, [], [], []⟩) ⟨tabOk, trivial, mo, trivial, ghUp, trivial, trivial⟩ 9 ct79 fun x Φ => by rw [eq79]; exact id
theorem ok64 : ct64.Ok Tryd.prog tab gh := Ct.lift (E := ⟨Tryd.prog, tab, [ct79], pl64, [], gh, [], [], []⟩) ⟨tabOk, ⟨ok79, trivial⟩, mo, trivial, ghUp, trivial, trivial⟩ 9 ct64 fun x Φ => by rw [eq64]; exact id
theorem ok44 : ct44.Ok Tryd.prog tab gh := Ct.lift (E := ⟨Tryd.prog, tab, [ct37, ct64], pl44, [], gh, [], [], []⟩) ⟨tabOk, ⟨ok37, ok64, trivial⟩, mo, trivial, ghUp, trivial, trivial⟩ 9 ct44 fun x Φ => by rw [eq44]; exact id
theorem ok45 : ct45.Ok Tryd.prog tab gh := Ct.lift (E := ⟨Tryd.prog, tab, [], pl45, [], gh, [], [], []⟩) ⟨tabOk, trivial, mo, trivial, ghUp, trivial, trivial⟩ 9 ct45 fun x Φ => by rw [eq45]; exact id
theorem ok24 : ct24.Ok Tryd.prog tab gh := Ct.lift (E := ⟨Tryd.prog, tab, [ct44, ct45], pl24, [], gh, [], [], []⟩) ⟨tabOk, ⟨ok44, ok45, trivial⟩, mo, trivial, ghUp, trivial, trivial⟩ 9 ct24 fun x Φ => by rw [eq24]; exact id
theorem ok80 : ct80.Ok Tryd.prog tab gh := Ct.lift (E := ⟨Tryd.prog, tab, [], pl80, [], gh, [], [], []⟩) ⟨tabOk, trivial, mo, trivial, ghUp, trivial, trivial⟩ 9 ct80 fun x Φ => by rw [eq80]; exact id
theorem ok65 : ct65.Ok Tryd.prog tab gh := Ct.lift (E := ⟨Tryd.prog, tab, [ct80], pl65, [], gh, [], [], []⟩) ⟨tabOk, ⟨ok80, trivial⟩, mo, trivial, ghUp, trivial, trivial⟩ 9 ct65 fun x Φ => by rw [eq65]; exact id
theorem ok46 : ct46.Ok Tryd.prog tab gh := Ct.lift (E := ⟨Tryd.prog, tab, [ct65], pl46, [], gh, [], [], []⟩) ⟨tabOk, ⟨ok65, trivial⟩, mo, trivial, ghUp, trivial, trivial⟩ 9 ct46 fun x Φ => by rw [eq46]; exact id
theorem ok81 : ct81.Ok Tryd.prog tab gh := Ct.lift (E := ⟨Tryd.prog, tab, [], pl81, [], gh, [], [], []⟩) ⟨tabOk, trivial, mo, trivial, ghUp, trivial, trivial⟩ 9 ct81 fun x Φ => by rw [eq81]; exact id
theorem ok72 : ct72.Ok Tryd.prog tab gh := Ct.lift (E := ⟨Tryd.prog, tab, [], pl72, [], gh, [], [], []⟩) ⟨tabOk, trivial, mo, trivial, ghUp, trivial, trivial⟩ 9 ct72 fun x Φ => by rw [eq72]; exact id
theorem ok66 : ct66.Ok Tryd.prog tab gh := Ct.lift (E := ⟨Tryd.prog, tab, [], pl66, [], gh, [], [], []⟩) ⟨tabOk, trivial, mo, trivial, ghUp, trivial, trivial⟩ 9 ct66 fun x Φ => by rw [eq66]; exact id
theorem ok47 : ct47.Ok Tryd.prog tab gh := Ct.lift (E := ⟨Tryd.prog, tab, [ct16, ct66, ct72, ct80, ct81], pl47, [], gh, [], [], []⟩) ⟨tabOk, ⟨ok16, ok66, ok72, ok80, ok81, trivial⟩, mo, trivial, ghUp, trivial, trivial⟩ 9 ct47 fun x Φ => by rw [eq47]; exact id
theorem ok9 : ct9.Ok Tryd.prog tab gh := Ct.lift (E := ⟨Tryd.prog, tab, [ct17, ct21, ct23, ct24, ct46, ct47], pl9, [], gh, [], [([10, 0, 1, 11, 0, 1, 1, 1, 1, 1], 30002), ([10, 0, 4, 1, 1, 5, 4, 1, 0, 1, 1, 1, 1, 1, 1], 30002), ([10, 0, 11, 0, 0, 1, 1, 14, 0, 1, 12, 0, 1, 1, 1, 1, 1, 1, 1], 30002), ([11, 0, 0, 1, 1, 1, 1, 1, 1], 30002), ([13, 1, 1, 4, 1, 1, 5, 4, 1, 0, 1, 1, 1, 1, 1, 1], 30002), ([14, 1, 1, 4, 0, 1, 1, 5, 4, 1, 0, 1, 1, 11, 0, 1, 1, 1, 1, 1], 30002)], [sk41]⟩) ⟨tabOk, ⟨ok17, ok21, ok23, ok24, ok46, ok47, trivial⟩, mo, trivial, ghUp, trivial, ⟨skok41, trivial⟩⟩ 9 ct9 fun x Φ => by rw [eq9]; exact id
theorem ok10 : ct10.Ok Tryd.prog tab gh := Ct.lift (E := ⟨Tryd.prog, tab, [ct23, ct46], pl10, [], gh, [], [], []⟩) ⟨tabOk, ⟨ok23, ok46, trivial⟩, mo, trivial, ghUp, trivial, trivial⟩ 9 ct10 fun x Φ => by rw [eq10]; exact id
theorem ok48 : ct48.Ok Tryd.prog tab gh := Ct.lift (E := ⟨Tryd.prog, tab, [], pl48, [], gh, [], [], []⟩) ⟨tabOk, trivial, mo, trivial, ghUp, trivial, trivial⟩ 9 ct48 fun x Φ => by rw [eq48]; exact id
theorem ok68 : ct68.Ok Tryd.prog tab gh := Ct.lift (E := ⟨Tryd.prog, tab, [ct48], pl68, [], gh, [], [], []⟩) ⟨tabOk, ⟨ok48, trivial⟩, mo, trivial, ghUp, trivial, trivial⟩ 9 ct68 fun x Φ => by rw [eq68]; exact id
theorem ok49 : ct49.Ok Tryd.prog tab gh := Ct.lift (E := ⟨Tryd.prog, tab, [ct48, ct68], pl49, [], gh, [], [], []⟩) ⟨tabOk, ⟨ok48, ok68, trivial⟩, mo, trivial, ghUp, trivial, trivial⟩ 9 ct49 fun x Φ => by rw [eq49]; exact id
theorem ok50 : ct50.Ok Tryd.prog tab gh := Ct.lift (E := ⟨Tryd.prog, tab, [ct17, ct24], pl50, [], gh, [], [], []⟩) ⟨tabOk, ⟨ok17, ok24, trivial⟩, mo, trivial, ghUp, trivial, trivial⟩ 9 ct50 fun x Φ => by rw [eq50]; exact id
theorem ok28 : ct28.Ok Tryd.prog tab gh := Ct.lift (E := ⟨Tryd.prog, tab, [ct17, ct48, ct49, ct50], pl28, [], gh, [], [], []⟩) ⟨tabOk, ⟨ok17, ok48, ok49, ok50, trivial⟩, mo, trivial, ghUp, trivial, trivial⟩ 9 ct28 fun x Φ => by rw [eq28]; exact id
theorem ok11 : ct11.Ok Tryd.prog tab gh := Ct.lift (E := ⟨Tryd.prog, tab, [ct19, ct20, ct21, ct23, ct28, ct46, ct47], pl11, [], gh, [], [], [sk41]⟩) ⟨tabOk, ⟨ok19, ok20, ok21, ok23, ok28, ok46, ok47, trivial⟩, mo, trivial, ghUp, trivial, ⟨skok41, trivial⟩⟩ 9 ct11 fun x Φ => by rw [eq11]; exact id
theorem pk61 (v : Value) (cs : List Value) : PkR Tryd.prog 61 v cs = (cs = [v]) := by kernel_rfl
theorem Ret.toP {P : Program} {f : FuncId} {args : Array Value} {H : Hp} {Φ : Hp → Value → Prop} (h : Ret P f args H Φ) : RetP P f args H (fun H' v L => Φ H' v ∧ L = []) := fun w hw =>
  (h w hw).mono fun _ _ ⟨v, H', h1, h2, h3, h4, h5, h6⟩ => ⟨v, H', [], h1, ⟨h5, h2, h4, h3, by simp, List.Pairwise.nil, by simp⟩, h6, rfl⟩
theorem tz_ret (H : Hp) (x : BitVec 64) (hx : x ≠ 0#64) (hT : TabH H 0) : RetV Tryd.prog 73 #[u64 x] H (.int .i64 (Lib.ctz 64 x.toNat : Int)) := by
  obtain ⟨cs, T, fr, hb, hc⟩ := hT
  obtain ⟨hi, htab, hk⟩ := tz_idx hx
  refine Ret.of_code Tryd.func73 rfl (Nat.le_of_ble_eq_true rfl) fun w0 hM => ?_
  refine CW.seq (CW.region (RW.step (Ex.assign (.int .i64 0) rfl) rfl rfl rfl (RW.nil ?_)))
  refine CW.seq (CW.seq (CW.region (RW.step (Ex.move (u64 x) rfl) rfl rfl rfl (RW.step (Ex.eql64 (a := x) (b := 0#64) rfl rfl) rfl rfl rfl (RW.nil ?_)))))
  refine CW.cond_dec rfl (fun h => absurd h hx) fun _ => CW.skip ?_
  refine CW.seq (CW.region ?_)
  refine RW.step (Ex.move (u64 x) rfl) rfl rfl rfl ?_
  refine RW.step (Ex.move (u64 x) rfl) rfl rfl rfl ?_
  refine RW.step (Ex.neg64 (a := x) rfl) rfl rfl rfl ?_
  refine RW.step (Ex.and64 (a := x) (b := -x) rfl rfl) rfl rfl rfl ?_
  refine RW.step (Ex.mul64 (a := x &&& -x) (b := 285870213051353865#64) rfl rfl) rfl rfl rfl ?_
  refine RW.step (Ex.shr64 (a := (x &&& -x) * 285870213051353865#64) (n := 58) rfl rfl (by omega)) rfl rfl rfl ?_
  refine RW.step (Ex.indexArr (arrT_of (n := 64) (e := 5) (sz := 1) (by kernel_rfl)) rfl rfl (((x &&& -x) * 285870213051353865#64) >>> (58 : Int).toNat).toNat rfl hi) rfl rfl rfl ?_
  refine RW.step (Ex.loadH hM (Hp.le.refl _) hb to5 rfl (by rw [Nat.zero_add, Nat.mul_one, hc _ hi, htab])) rfl rfl rfl ?_
  refine RW.step (Ex.conv Tryd.underlying5 Tryd.underlying3 rfl (wrap_i64 (by omega) (by omega))) rfl rfl rfl ?_
  refine RW.step (Ex.assign (.int .i64 (Lib.ctz 64 x.toNat : Int)) rfl) rfl rfl rfl (RW.nil ?_)
  refine CW.ret ?_
  refine end_tmp (.inl rfl) rfl (.int .i64 (Lib.ctz 64 x.toNat : Int)) rfl ?_
  exact ⟨_, _, hM, rfl⟩
set_option maxRecDepth 100000 in
theorem ok73 : ct73.Ok Tryd.prog tab gh := by
  intro x Φ hW H vs hG hA
  obtain ⟨v0, k0, q0, rfl, p0, r0, hq⟩ := hA
  obtain rfl : q0 = [] := hq
  rw [pk61] at p0
  subst p0
  have e0 : [v0] = [u64 x.1] := r0
  cases e0
  have hW : x.1 ≠ 0#64 ∧ Φ ((Lib.ctz 64 (x.1 : BitVec 64).toNat : Int), ()) := hW
  refine RetP.mono (Ret.toP (tz_ret H x.1 hW.1 hG)) fun H' v L _ ⟨hv, hL⟩ => ⟨_, hW.2, fun nx ρ0 hn0 s b m hre => ?_⟩
  rw [show resE Tryd.prog tab ct73.rs ct73.own ((Lib.ctz 64 (x.1 : BitVec 64).toNat : Int), ()) nx = some (.i .i64 (Lib.ctz 64 (x.1 : BitVec 64).toNat : Int), [], nx) by kernel_rfl] at hre
  cases hre
  exact ⟨ρ0, RM.le.refl _, Nat.le_refl _, hn0, fun _ _ => rfl, hv, hL⟩
theorem itok71 : it71.Ok Tryd.prog gh := It.lift (E := ⟨Tryd.prog, tab, [ct16, ct72, ct73], pl71, [], gh, [], [], []⟩) ⟨tabOk, ⟨ok16, ok72, ok73, trivial⟩, mo, trivial, ghUp, trivial, trivial⟩ it71 fun x l => by rw [eqi71]; exact id
theorem ok30 : ct30.Ok Tryd.prog tab gh := Ct.lift (E := ⟨Tryd.prog, tab, [], pl30, [it71], gh, [], [], []⟩) ⟨tabOk, trivial, mo, ⟨itok71, trivial⟩, ghUp, trivial, trivial⟩ 9 ct30 fun x Φ => by rw [eq30]; exact id
theorem ok29 : ct29.Ok Tryd.prog tab gh := Ct.lift (E := ⟨Tryd.prog, tab, [], pl29, [], gh, [], [], []⟩) ⟨tabOk, trivial, mo, trivial, ghUp, trivial, trivial⟩ 9 ct29 fun x Φ => by rw [eq29]; exact id
theorem ok12 : ct12.Ok Tryd.prog tab gh := Ct.lift (E := ⟨Tryd.prog, tab, [ct29, ct30], pl12, [], gh, [], [], []⟩) ⟨tabOk, ⟨ok29, ok30, trivial⟩, mo, trivial, ghUp, trivial, trivial⟩ 9 ct12 fun x Φ => by rw [eq12]; exact id
theorem ok53 : ct53.Ok Tryd.prog tab gh := Ct.lift (E := ⟨Tryd.prog, tab, [], pl53, [], gh, [], [], []⟩) ⟨tabOk, trivial, mo, trivial, ghUp, trivial, trivial⟩ 9 ct53 fun x Φ => by rw [eq53]; exact id
theorem ok32 : ct32.Ok Tryd.prog tab gh := Ct.lift (E := ⟨Tryd.prog, tab, [ct53], pl32, [], gh, [], [], []⟩) ⟨tabOk, ⟨ok53, trivial⟩, mo, trivial, ghUp, trivial, trivial⟩ 9 ct32 fun x Φ => by rw [eq32]; exact id
theorem ok31 : ct31.Ok Tryd.prog tab gh := Ct.lift (E := ⟨Tryd.prog, tab, [ct53], pl31, [], gh, [], [], []⟩) ⟨tabOk, ⟨ok53, trivial⟩, mo, trivial, ghUp, trivial, trivial⟩ 9 ct31 fun x Φ => by rw [eq31]; exact id
theorem ok33 : ct33.Ok Tryd.prog tab gh := Ct.lift (E := ⟨Tryd.prog, tab, [ct53], pl33, [], gh, [], [], []⟩) ⟨tabOk, ⟨ok53, trivial⟩, mo, trivial, ghUp, trivial, trivial⟩ 9 ct33 fun x Φ => by rw [eq33]; exact id
theorem ok13 : ct13.Ok Tryd.prog tab gh := Ct.lift (E := ⟨Tryd.prog, tab, [ct23, ct30, ct31, ct32, ct33], pl13, [], gh, [], [], []⟩) ⟨tabOk, ⟨ok23, ok30, ok31, ok32, ok33, trivial⟩, mo, trivial, ghUp, trivial, trivial⟩ 9 ct13 fun x Φ => by rw [eq13]; exact id
theorem ok5 : ct5.Ok Tryd.prog tab gh := Ct.lift (E := ⟨Tryd.prog, tab, [ct8, ct9, ct10, ct11, ct12, ct13], pl5, [], gh, [], [], []⟩) ⟨tabOk, ⟨ok8, ok9, ok10, ok11, ok12, ok13, trivial⟩, mo, trivial, ghUp, trivial, trivial⟩ 9 ct5 fun x Φ => by rw [eq5]; exact id
theorem ok35 : ct35.Ok Tryd.prog tab gh := Ct.lift (E := ⟨Tryd.prog, tab, [], pl35, [], gh, [], [], []⟩) ⟨tabOk, trivial, mo, trivial, ghUp, trivial, trivial⟩ 9 ct35 fun x Φ => by rw [eq35]; exact id
theorem ok15 : ct15.Ok Tryd.prog tab gh := Ct.lift (E := ⟨Tryd.prog, tab, [ct16, ct35], pl15, [], gh, [], [], []⟩) ⟨tabOk, ⟨ok16, ok35, trivial⟩, mo, trivial, ghUp, trivial, trivial⟩ 9 ct15 fun x Φ => by rw [eq15]; exact id
theorem ok6 : ct6.Ok Tryd.prog tab gh := Ct.lift (E := ⟨Tryd.prog, tab, [ct15], pl6, [], gh, [], [], []⟩) ⟨tabOk, ⟨ok15, trivial⟩, mo, trivial, ghUp, trivial, trivial⟩ 9 ct6 fun x Φ => by rw [eq6]; exact id
theorem ok7 : ct7.Ok Tryd.prog tab gh := Ct.lift (E := ⟨Tryd.prog, tab, [ct16], pl7, [], gh, [], [], []⟩) ⟨tabOk, ⟨ok16, trivial⟩, mo, trivial, ghUp, trivial, trivial⟩ 9 ct7 fun x Φ => by rw [eq7]; exact id
theorem ok3 : ct3.Ok Tryd.prog tab gh := Ct.lift (E := ⟨Tryd.prog, tab, [ct4, ct5, ct6, ct7], pl3, [], gh, [], [], []⟩) ⟨tabOk, ⟨ok4, ok5, ok6, ok7, trivial⟩, mo, trivial, ghUp, trivial, trivial⟩ 9 ct3 fun x Φ => by rw [eq3]; exact id
section
theorem iI {x : Int} (h1 : -9223372036854775808 ≤ x) (h2 : x ≤ 9223372036854775807) : inI x := ⟨h1, h2⟩
theorem iX {i : Int} {n : Nat} (h1 : 0 ≤ i) (h2 : i < (n : Int)) : inX i n := ⟨h1, h2⟩
theorem iL {n b : Nat} (h : n ≤ 1000000) (hb : b ≤ 1000000) : lenOk n b := by
  have := Nat.mul_le_mul h hb
  refine ⟨by omega, ?_⟩
  simp only [maxLen]
  omega
section
variable {α : Type} [Dt α]
theorem ix_get {xs : List α} {k : Nat} (h : k < xs.length) : ix xs (k : Int) = xs[k] := by
  show xs.getD k default = _
  rw [List.getD_eq_getElem?_getD, List.getElem?_eq_getElem h]; rfl
theorem take_ix {xs : List α} {k : Nat} (h : k < xs.length) : xs.take (k + 1) = xs.take k ++ [ix xs (k : Int)] := by
  rw [ix_get h]; exact (List.take_append_getElem h).symm
theorem ix_mem {xs : List α} {i : Int} (h : inX i xs.length) : ix xs i ∈ xs := by
  have e := h.nat
  have hl := h.lt
  rw [e, ix_get hl]
  exact List.getElem_mem hl
theorem drop_ix {xs : List α} {k : Nat} (h : k < xs.length) : xs.drop k = ix xs (k : Int) :: xs.drop (k + 1) := by
  rw [ix_get h]; exact List.drop_eq_getElem_cons h
theorem ext_ix {xs ys : List α} (hl : xs.length = ys.length) (h : ∀ k : Nat, k < xs.length → ix xs (k : Int) = ix ys (k : Int)) : xs = ys := by
  apply List.ext_getElem hl
  intro k h1 h2
  have := h k h1
  rwa [ix_get h1, ix_get h2] at this
omit [Dt α] in
theorem put_nat (xs : List α) (k : Nat) (x : α) : put xs (k : Int) x = xs.set k x := rfl
end
section
variable {A : Type}
theorem LoopW.up {step : Int → (Int → Prop) → Prop} (n : Nat) (Inv : Nat → Prop) (h : ∀ (k : Nat) rec, k ≤ n → Inv k → (k < n → Inv (k + 1) → rec ((k : Int) + 1)) → step (k : Int) rec) {k0 : Nat} {i0 : Int} (hi : i0 = (k0 : Int)) (hk : k0 ≤ n) (h0 : Inv k0) : LoopW step i0 := by
  subst hi
  refine LoopW.of_inv (fun i => ∃ k : Nat, i = (k : Int) ∧ k ≤ n ∧ Inv k) (fun i => n - i.toNat) ?_ ⟨k0, rfl, hk, h0⟩
  rintro _ rec ⟨k, rfl, hk, hI⟩ hrec
  refine h k rec hk hI fun hlt hI' => hrec _ ⟨k + 1, rfl, hlt, hI'⟩ ?_
  simp only [Int.toNat_natCast]
  omega
theorem LoopW.upS {S : Type} {step : S → (S → Prop) → Prop} (n : Nat) (idx : S → Int) (Inv : Nat → S → Prop) (h : ∀ (k : Nat) s rec, k ≤ n → idx s = (k : Int) → Inv k s → (∀ s', k < n → idx s' = (k : Int) + 1 → Inv (k + 1) s' → rec s') → step s rec) {s0 : S} (k0 : Nat) (hi : idx s0 = (k0 : Int)) (hk : k0 ≤ n) (h0 : Inv k0 s0) : LoopW step s0 := by
  refine LoopW.of_inv (fun s => ∃ k : Nat, idx s = (k : Int) ∧ k ≤ n ∧ Inv k s) (fun s => n - (idx s).toNat) ?_ ⟨k0, hi, hk, h0⟩
  rintro s rec ⟨k, he, hk, hI⟩ hrec
  refine h k s rec hk he hI fun s' hlt he' hI' => hrec s' ⟨k + 1, by rw [he']; rfl, hlt, hI'⟩ ?_
  show n - (idx s').toNat < n - (idx s).toNat
  rw [he, he']
  omega
def firstN (f : Nat → Int) : Nat → Int
  | 0 => 0
  | n + 1 => if firstN f n ≠ 0 then firstN f n else f n
theorem firstN_hit {f : Nat → Int} : ∀ {n k : Nat}, k < n → (∀ j, j < k → f j = 0) → f k ≠ 0 → firstN f n = f k
  | 0, _, hk, _, _ => by omega
  | n + 1, k, hk, h0, h1 => by
    unfold firstN
    rcases Nat.lt_or_ge k n with h | h
    · rw [firstN_hit h h0 h1, if_pos h1]
    · have e : k = n := by omega
      subst e
      have : firstN f k = 0 := by
        clear h1 hk h
        induction k with
        | zero => rfl
        | succ k ih => unfold firstN; rw [ih fun j hj => h0 j (by omega), if_neg (by simp), h0 k (by omega)]
      rw [this, if_neg (by simp)]
theorem firstN_zero {f : Nat → Int} : ∀ {n : Nat}, firstN f n = 0 ↔ ∀ k, k < n → f k = 0
  | 0 => by simp [firstN]
  | n + 1 => by
    unfold firstN
    constructor
    · intro h k hk
      by_cases h1 : firstN f n ≠ 0
      · rw [if_pos h1] at h; exact absurd h h1
      · rw [if_neg h1] at h
        rcases Nat.lt_or_ge k n with hlt | hge
        · exact (firstN_zero.1 (Classical.not_not.1 h1)) k hlt
        · have : k = n := by omega
          subst this; exact h
    · intro h
      rw [if_neg (by rw [firstN_zero.2 fun k hk => h k (by omega)]; simp), h n (by omega)]
def allN (p : Nat → Bool) (n : Nat) : Bool := (List.range n).all p
theorem allN_true {p : Nat → Bool} {n : Nat} : allN p n = true ↔ ∀ k, k < n → p k = true := by simp [allN]
theorem allN_false {p : Nat → Bool} {n k : Nat} (hk : k < n) (h : p k = false) : allN p n = false := by
  cases hx : allN p n with
  | false => rfl
  | true => rw [allN_true.1 hx k hk] at h; cases h
theorem LoopW.allL {step : Int → (Int → Prop) → Prop} (n : Nat) (p : Nat → Bool) {Φ : Bool → Prop} (hΦ : Φ (allN p n)) (h : ∀ (k : Nat) rec, k < n → (∀ j, j < k → p j = true) → (p k = false → Φ false) → (p k = true → rec ((k : Int) + 1)) → step (k : Int) rec)
    (he : ∀ rec, Φ true → (∀ j, j < n → p j = true) → step (n : Int) rec) : LoopW step 0 := by
  refine LoopW.up n (fun k => ∀ j, j < k → p j = true) ?_ rfl (Nat.zero_le _) (fun j hj => absurd hj (Nat.not_lt_zero j))
  intro k rec hk hI hrec
  rcases Nat.lt_or_ge k n with hlt | hge
  · refine h k rec hlt hI (fun h1 => by rw [allN_false hlt h1] at hΦ; exact hΦ) fun h0 => hrec hlt fun j hj => ?_
    rcases Nat.lt_or_ge j k with h2 | h2
    · exact hI j h2
    · have : j = k := by omega
      subst this; exact h0
  · have e : k = n := by omega
    subst e
    exact he rec (by rw [allN_true.2 hI] at hΦ; exact hΦ) hI
end
end
def chkB (b : api_Bitmap) : Int := chk b.Size b.Words
theorem bitmap_words_ok {n : Int} {Φ : Int → Prop} (h0 : 0 ≤ n) (h1 : n ≤ 1000000) (hΦ : Φ ((n + 64 - 1) / 64)) : Z8 n Φ :=
  ⟨iI (by omega) (by omega), iI (by omega) (by omega), ⟨by omega, iI (by omega) (by omega), by omega⟩, hΦ⟩
theorem bitmap_Check_ok {b : api_Bitmap} {Φ : Int → Prop} (hΦ : Φ (chkB b)) : Z15 b Φ := by
  unfold chkB at hΦ
  refine ⟨fun h => ?_, fun h1 => ⟨fun h2 => ?_, fun h2 => ⟨((b.Size + 64 - 1) / 64, ()), bitmap_words_ok (by omega) (by omega) rfl, fun h3 => ?_, fun h3 => ?_⟩⟩⟩
  · rw [chk_bad (by omega)] at hΦ; exact hΦ
  · rw [chk_bad (by omega)] at hΦ; exact hΦ
  · rw [chk_bad (by simp only at h3; omega)] at hΦ; exact hΦ
  · have h3 : (b.Words.length : Int) = (b.Size + 64 - 1) / 64 := Classical.not_not.1 h3
    have e : ∀ h : 0 < b.Size % 64, ix b.Words ((b.Words.length : Int) - 1) = b.Words.getD (b.Words.length - 1) 0#64 := fun h => by
      show b.Words.getD ((b.Words.length : Int) - 1).toNat default = _
      rw [show ((b.Words.length : Int) - 1).toNat = b.Words.length - 1 by omega]; rfl
    refine ⟨⟨by omega, by omega⟩, fun h4 => ⟨iI (by omega) (by omega), iX (by omega) (by omega), by omega, fun h5 => ?_, fun h5 => ?_⟩, fun h4 => ?_⟩
    · rw [e h4] at h5
      rw [chk_top (by omega) (by omega) (by omega) h4 h5] at hΦ; exact hΦ
    · rw [chk_top_ok (by omega) (by omega) (by omega) fun h6 => by rw [e h6] at h5; exact Classical.not_not.1 h5] at hΦ; exact hΦ
    · rw [chk_top_ok (by omega) (by omega) (by omega) fun h6 => absurd h6 h4] at hΦ; exact hΦ
theorem chkB_len {b : api_Bitmap} (h : ¬ chkB b ≠ 0) : 0 ≤ b.Size ∧ b.Size ≤ 4096 ∧ (b.Words.length : Int) = (b.Size + 63) / 64 := wf_len (Classical.not_not.1 h)
theorem LoopW.upI {S : Type} {step : S → (S → Prop) → Prop} (n : Nat) (st : Nat → S) (I : Nat → Prop) {s : S} (hs : s = st 0) (h0 : I 0)
    (h : ∀ (k : Nat) rec, k < n → I k → (I (k + 1) → ∀ s, s = st (k + 1) → rec s) → step (st k) rec) (he : ∀ rec, I n → step (st n) rec) : LoopW step s := by
  have key : ∀ m k, k + m = n → I k → LoopN step (m + 1) (st k) := by
    intro m
    induction m with
    | zero => intro k hk hI; obtain rfl : k = n := hk; exact he _ hI
    | succ m ih => intro k hk hI; exact h k _ (by omega) hI fun hI' s hs => by rw [hs]; exact ih (k + 1) (by omega) hI'
  exact ⟨n + 1, by rw [hs]; exact key n 0 (by omega) h0⟩
theorem LoopW.upT {S : Type} {step : S → (S → Prop) → Prop} (n : Nat) (st : Nat → S) {s : S} (hs : s = st 0)
    (h : ∀ (k : Nat) rec, k < n → (∀ s, s = st (k + 1) → rec s) → step (st k) rec) (he : ∀ rec, step (st n) rec) : LoopW step s :=
  LoopW.upI n st (fun _ => True) hs trivial (fun k rec hk _ hr => h k rec hk (hr trivial)) fun rec _ => he rec
theorem LoopW.findI {step : Int → (Int → Prop) → Prop} (n : Nat) (p : Nat → Bool) (h : ∀ (k : Nat) rec, k < n → (∀ j, j < k → p j = false) → (p k = false → rec ((k : Int) + 1)) → step (k : Int) rec)
    (he : ∀ rec, (∀ j, j < n → p j = false) → step (n : Int) rec) : LoopW step 0 :=
  LoopW.upI n (fun k => (k : Int)) (fun k => ∀ j, j < k → p j = false) rfl (fun j hj => absurd hj (Nat.not_lt_zero j)) (fun k rec hk hI hr => h k rec hk hI fun hp => hr (fun j hj => by
    rcases Nat.lt_or_ge j k with h2 | h2
    · exact hI j h2
    · obtain rfl : j = k := by omega
      exact hp) _ rfl) he
theorem any_ix {α : Type} [Dt α] {xs : List α} {p : α → Bool} : xs.any p = true ↔ ∃ k, k < xs.length ∧ p (ix xs (k : Int)) = true := by
  rw [List.any_eq_true]
  constructor
  · rintro ⟨x, hx, hp⟩
    obtain ⟨k, hk, rfl⟩ := List.getElem_of_mem hx
    exact ⟨k, hk, by rw [ix_get hk]; exact hp⟩
  · rintro ⟨k, hk, hp⟩
    exact ⟨xs[k], List.getElem_mem hk, by rw [ix_get hk] at hp; exact hp⟩
theorem any_false_ix {α : Type} [Dt α] {xs : List α} {p : α → Bool} (h : ∀ k, k < xs.length → p (ix xs (k : Int)) = false) : xs.any p = false := by
  rw [Bool.eq_false_iff]
  intro q
  obtain ⟨k, hk, hp⟩ := any_ix.1 q
  rw [h k hk] at hp; cases hp
theorem any_true_ix {α : Type} [Dt α] {xs : List α} {p : α → Bool} {k : Nat} (hk : k < xs.length) (h : p (ix xs (k : Int)) = true) : xs.any p = true := any_ix.2 ⟨k, hk, h⟩
theorem LoopW.anyL {α : Type} [Dt α] {step : Int → (Int → Prop) → Prop} (xs : List α) (p : α → Bool) {Φ : Bool → Prop} (hΦ : Φ (xs.any p)) (h : ∀ (k : Nat) rec, k < xs.length → (p (ix xs (k : Int)) = true → Φ true) → (p (ix xs (k : Int)) = false → rec ((k : Int) + 1)) → step (k : Int) rec)
    (he : ∀ rec, Φ false → step (xs.length : Int) rec) : LoopW step 0 :=
  LoopW.findI xs.length (fun k => p (ix xs (k : Int))) (fun k rec hk _ hr => h k rec hk (fun hp => by rw [any_true_ix hk hp] at hΦ; exact hΦ) hr) fun rec hn => he rec (by rw [any_false_ix hn] at hΦ; exact hΦ)
theorem len_snoc {α : Type} (xs : List α) (x : α) : (xs ++ [x]).length = xs.length + 1 := by simp
theorem lenT {α : Type} {xs : List α} {k : Nat} (h : k ≤ xs.length) : (xs.take k).length = k := by rw [List.length_take]; omega
theorem take_all {α : Type} (xs : List α) : xs.take xs.length = xs := List.take_length
theorem map_take_snoc {α β : Type} [Dt α] {xs : List α} {k : Nat} (f : α → β) (h : k < xs.length) : (xs.take (k + 1)).map f = (xs.take k).map f ++ [f (ix xs (k : Int))] := by rw [take_ix h, List.map_append]; rfl
theorem firstN_pos {f : Nat → Int} {n k : Nat} (hk : k < n) (h0 : ∀ j, j < k → f j = 0) (h1 : f k ≠ 0) : firstN f n = f k := firstN_hit hk h0 h1
theorem LoopW.errI {S : Type} {step : S → (S → Prop) → Prop} (n : Nat) (st : Nat → S) (f : Nat → Int) {Ψ : Int → Prop} {s : S} (hs : s = st 0) (hΨ : Ψ (firstN f n))
    (h : ∀ (k : Nat) rec, k < n → (∀ j, j < k → f j = 0) → (f k ≠ 0 → Ψ (f k)) → (f k = 0 → ∀ s, s = st (k + 1) → rec s) → step (st k) rec) (he : ∀ rec, (∀ j, j < n → f j = 0) → Ψ 0 → step (st n) rec) : LoopW step s :=
  LoopW.upI n st (fun k => ∀ j, j < k → f j = 0) hs (fun j hj => absurd hj (Nat.not_lt_zero j)) (fun k rec hk hI hr => h k rec hk hI (fun h1 => by rw [firstN_hit hk hI h1] at hΨ; exact hΨ) fun h0 => hr fun j hj => by
    rcases Nat.lt_or_ge j k with h2 | h2
    · exact hI j h2
    · obtain rfl : j = k := by omega
      exact h0) fun rec hI => he rec hI (by rw [firstN_zero.2 hI] at hΨ; exact hΨ)
def bmOf (r : BR) : api_Bitmap × Int := (⟨r.n, r.ws⟩, r.e)
def newB (n : Int) : api_Bitmap := ⟨n, List.replicate ((n + 63) / 64).toNat 0#64⟩
theorem bitmap_New_ok {n : Int} {Φ : api_Bitmap × Int → Prop} (h0 : 0 ≤ n) (h1 : n ≤ 4096) (hΦ : Φ (newB n, 0)) : bitmap_New_W n Φ := by
  refine ⟨fun q => absurd q (by omega), fun _ => ?_⟩
  rw [decide_eq_false (show ¬ 4096 < n by omega)]
  refine ⟨fun q => (by cases q), fun _ => bitmap_words_ok h0 (by omega) ⟨by omega, iL (by omega) (by omega), ?_⟩⟩
  rw [show n + 64 - 1 = n + 63 by omega]
  exact hΦ
theorem fits_of {s c n : Int} {Φ : Bool → Prop} (h0 : 0 ≤ n) (h1 : n ≤ 4096) (hΦ : Φ (fitsB s c n)) : (0 ≤ s → (0 ≤ c → (s ≤ n → inI (n - s) ∧ Φ (decide (c ≤ n - s))) ∧ (¬ s ≤ n → Φ false)) ∧ (¬ 0 ≤ c → Φ false)) ∧ (¬ 0 ≤ s → Φ false) := by
  have hf : ∀ q : ¬ (0 ≤ s ∧ 0 ≤ c ∧ s ≤ n ∧ c ≤ n - s), Φ false := fun q => by
    have : fitsB s c n = false := by rw [Bool.eq_false_iff]; exact fun z => q (fitsB_iff.1 z)
    rw [this] at hΦ; exact hΦ
  refine ⟨fun a => ⟨fun b => ⟨fun d => ⟨iI (by omega) (by omega), ?_⟩, fun d => hf (by omega)⟩, fun b => hf (by omega)⟩, fun a => hf (by omega)⟩
  by_cases hc : c ≤ n - s
  · have : fitsB s c n = true := fitsB_iff.2 ⟨a, b, d, hc⟩
    rw [this] at hΦ; rw [decide_eq_true hc]; exact hΦ
  · rw [decide_eq_false hc]; exact hf (by omega)
theorem bitmap_fits_ok {e : api_Extent} {n : Int} {Φ : Bool → Prop} (h0 : 0 ≤ n) (h1 : n ≤ 4096) (hΦ : Φ (fitsB e.Start e.Count n)) : bitmap_fits_W e n Φ := fits_of h0 h1 hΦ
def setBm (b : api_Bitmap) (e : api_Extent) : api_Bitmap × Int := bmOf (chR true b.Size b.Words e.Start e.Count)
theorem bitmap_mask_ok {i f g : Int} {Φ : BitVec 64 → Prop} (h0 : 0 ≤ i) (h1 : i ≤ 1000000) (h2 : -100000 ≤ f) (h3 : f ≤ 1000000) (h4 : -100000 ≤ g) (h5 : g ≤ 1000000) (hΦ : Φ (maskW i f g)) : bitmap_mask_W i f g Φ := by
  have hm : maskW i f g = if (if 64 < g - i * 64 then 64 else g - i * 64) ≤ (if f - i * 64 < 0 then 0 else f - i * 64) then 0#64 else 18446744073709551615#64 >>> (64 - ((if 64 < g - i * 64 then 64 else g - i * 64) - (if f - i * 64 < 0 then 0 else f - i * 64))).toNat <<< (if f - i * 64 < 0 then 0 else f - i * 64).toNat := rfl
  rw [hm] at hΦ
  refine ⟨iI (by omega) (by omega), iI (by omega) (by omega), iI (by omega) (by omega), iI (by omega) (by omega), fun q => ?_, fun q => ⟨iI (by split <;> split <;> omega) (by split <;> split <;> omega), iI (by split <;> split <;> omega) (by split <;> split <;> omega), by split <;> split <;> omega, by split <;> omega, ?_⟩⟩
  · rw [if_pos q] at hΦ; exact hΦ
  · rw [if_neg q] at hΦ; exact hΦ
theorem clone_word_ok {l : List (BitVec 64)} {Φ : List (BitVec 64) → Prop} (hl : l.length ≤ 1000000) (hΦ : Φ l) : Z23 l Φ :=
  ⟨fun h => by subst h; exact hΦ, iL (by rw [List.nil_append]; exact hl) (by omega), hΦ⟩
theorem bitmap_Set_ok {b : api_Bitmap} {e : api_Extent} {Φ : api_Bitmap × Int → Prop} (hΦ : Φ (setBm b e)) : bitmap_Set_W b e Φ := by
  unfold setBm at hΦ
  unfold bitmap_Set_W
  refine bitmap_Check_ok ⟨fun q => ?_, fun q => ?_⟩
  · rw [chR_form q] at hΦ; unfold chkB at *; rw [chk_ne q]; exact hΦ
  have hw := chkB_len q
  refine bitmap_fits_ok hw.1 hw.2.1 ⟨fun q2 => by rw [chR_range q q2] at hΦ; exact hΦ, fun q2 => ?_⟩
  have q3 := Classical.not_not.1 q2
  rw [chR_ok q q3] at hΦ
  have hf := fitsB_iff.1 q3
  refine clone_word_ok (by omega) ?_
  refine LoopW.upI b.Words.length (fun k => ((k : Int), chK true b.Words e.Start (e.Start + e.Count) k)) (fun _ => True) ?_ trivial (fun k rec hk _ hrec => ?_) fun rec _ => ?_
  · exact Prod.ext rfl (chK_zero true b.Words e.Start (e.Start + e.Count)).symm
  · have hl : (chK true b.Words e.Start (e.Start + e.Count) k).length = b.Words.length := chK_length _ _ _ _ _
    refine ⟨fun _ => ⟨iX (by omega) (by omega), iI (by omega) (by omega), (_, ()), bitmap_mask_ok (by omega) (by omega) (by omega) (by omega) (by omega) (by omega) rfl, (_, ()), rfl, iX (by omega) (by omega), iI (by omega) (by omega), hrec trivial _ (Prod.ext rfl ?_)⟩, fun hge => absurd (show (k : Int) < (b.Words.length : Int) by omega) hge⟩
    exact chK_step true b.Words e.Start (e.Start + e.Count) hk
  · refine ⟨fun hlt => absurd (show (b.Words.length : Int) < (b.Words.length : Int) from hlt) (by omega), fun _ => ?_⟩
    rw [← chK_full true b.Words e.Start (e.Start + e.Count) (Nat.le_refl _)] at hΦ
    exact hΦ
def orB (a b : api_Bitmap) : api_Bitmap × Int := bmOf (bothR (fun x y => x ||| y) a.Size a.Words b.Size b.Words)
theorem bitmap_Or_ok {a b : api_Bitmap} {Φ : api_Bitmap × Int → Prop} (hΦ : Φ (orB a b)) : bitmap_Or_W a b Φ := by
  unfold orB at hΦ
  unfold bitmap_Or_W
  refine bitmap_Check_ok ⟨fun h => ?_, fun h => bitmap_Check_ok ⟨fun h2 => ?_, fun h2 => ⟨fun h3 => ?_, fun h3 => ?_⟩⟩⟩
  · rw [bothR_bad (bothE_1 h) (by omega)] at hΦ; unfold chkB at *; rw [chk_ne h]; exact hΦ
  · rw [bothR_bad (bothE_2 h h2) (by omega)] at hΦ; unfold chkB at *; rw [chk_ne h2]; exact hΦ
  · rw [bothR_bad (bothE_3 h h2 h3) (by omega)] at hΦ; exact hΦ
  · have hw := chkB_len h
    have hw2 := chkB_len h2
    rw [bothR_ok (bothE_4 h h2 h3)] at hΦ
    have hl : a.Words.length = b.Words.length := by omega
    refine ⟨by omega, iL (by omega) (by omega), ?_⟩
    have hz : (List.zipWith (fun x y => x ||| y) a.Words b.Words).length = (List.replicate (a.Words.length : Int).toNat (0#64)).length := by rw [List.length_zipWith, List.length_replicate]; omega
    have hr : (List.replicate (a.Words.length : Int).toNat (0#64)).length = a.Words.length := by simp
    refine LoopW.upI a.Words.length (fun k => ((k : Int), mixK (List.zipWith (fun x y => x ||| y) a.Words b.Words) (List.replicate (a.Words.length : Int).toNat (0#64)) k)) (fun _ => True) (Prod.ext rfl (mixK_zero _ _).symm) trivial (fun k rec hk _ hrec => ?_) fun rec _ => ?_
    · have hml := mixK_length hz k
      refine ⟨fun _ => ⟨iX (by omega) (by omega), iX (by omega) (by omega), (_, ()), rfl, iX (by omega) (by omega), iI (by omega) (by omega), hrec trivial _ (Prod.ext rfl ?_)⟩, fun hge => absurd (show (k : Int) < ((List.replicate (a.Words.length : Int).toNat (0#64)).length : Int) by omega) hge⟩
      exact mixK_step hz (zip_get (by omega) (by omega))
    · refine ⟨fun hlt => absurd (show (a.Words.length : Int) < ((List.replicate (a.Words.length : Int).toNat (0#64)).length : Int) from hlt) (by omega), fun _ => ?_⟩
      rw [mixK_full hz (by omega)]
      exact hΦ
def orK (a b : List api_Bitmap) (k : Nat) : api_Bitmap × Int := orB (ix a (k : Int)) (ix b (k : Int))
def mrgT (a b : List api_Bitmap) : List api_Bitmap × Int :=
  if (a.length : Int) ≠ (b.length : Int) then ([], 6)
  else if firstN (fun k => (orK a b k).2) a.length ≠ 0 then ([], firstN (fun k => (orK a b k).2) a.length)
  else ((List.range a.length).map fun k => (orK a b k).1, 0)
theorem merge_loop {a b : List api_Bitmap} {Φ : List api_Bitmap × Int → Prop} {step : (Int × List api_Bitmap) → ((Int × List api_Bitmap) → Prop) → Prop} (hl : ¬ (a.length : Int) ≠ (b.length : Int)) (_ : a.length ≤ 100000) (hΦ : Φ (mrgT a b))
    (h1 : ∀ (k : Nat) (l : List api_Bitmap) rec, k < a.length → l.length = k → ((orK a b k).2 ≠ 0 → Φ ([], (orK a b k).2)) → (¬ (orK a b k).2 ≠ 0 → rec ((k : Int) + 1, l ++ [(orK a b k).1])) → step ((k : Int), l) rec)
    (h2 : ∀ l rec, Φ (l, 0) → step ((a.length : Int), l) rec) : LoopW step (0, []) := by
  unfold mrgT at hΦ
  rw [if_neg hl] at hΦ
  refine LoopW.upI a.length (fun k => ((k : Int), (List.range k).map fun k => (orK a b k).1)) (fun k => ∀ j, j < k → (orK a b j).2 = 0) rfl (fun j hj => absurd hj (Nat.not_lt_zero j)) (fun k rec hk hI hrec => ?_) fun rec hI => ?_
  · refine h1 k _ rec hk (by simp) (fun q => ?_) fun q => ?_
    · have e := firstN_pos (f := fun k => (orK a b k).2) hk hI q
      rw [e, if_pos q] at hΦ
      exact hΦ
    · refine hrec (fun j hj => ?_) _ (Prod.ext rfl ?_)
      · rcases Nat.lt_or_ge j k with h | h
        · exact hI j h
        · obtain rfl : j = k := by omega
          exact Classical.not_not.1 q
      · rw [List.range_succ, List.map_append]; rfl
  · refine h2 _ rec ?_
    have e : firstN (fun k => (orK a b k).2) a.length = 0 := firstN_zero.2 hI
    rw [e, if_neg (by simp)] at hΦ
    exact hΦ
theorem tracker_Merge_ok {a b : List api_Bitmap} {Φ : List api_Bitmap × Int → Prop} (hb : a.length ≤ 100000) (hΦ : Φ (mrgT a b)) : Z77 a b Φ := by
  refine ⟨fun q => by unfold mrgT at hΦ; rw [if_pos q] at hΦ; exact hΦ, fun q => merge_loop q hb hΦ (fun k l rec hk hl he hr => ⟨fun _ => ⟨iX (by omega) (by omega), iX (by omega) (by omega), ((orK a b k).1, (orK a b k).2, ()), bitmap_Or_ok rfl, he, fun z => ⟨iL (by simp only [List.length_append, List.length_cons, List.length_nil]; omega) (by omega), iI (by omega) (by omega), hr z⟩⟩, fun z => absurd (by omega) z⟩) fun l rec h => ⟨fun z => absurd z (by omega), fun _ => h⟩⟩
def sizesE (l : List Int) : Int := if (l.length : Int) < 1 ∨ 8 < (l.length : Int) then 6 else firstN (fun k => if ix l (k : Int) < 1 ∨ 4096 < ix l (k : Int) then 2 else 0) l.length
def szs (im : List (List Sec)) : List Int := im.map fun v => (v.length : Int)
def imgE (im : List (List Sec)) : Int := sizesE (szs im)
theorem szs_len (im : List (List Sec)) : (szs im).length = im.length := by unfold szs; rw [List.length_map]
theorem ix_szs {im : List (List Sec)} {k : Nat} (h : k < im.length) : ix (szs im) (k : Int) = ((ix im (k : Int)).length : Int) := by
  rw [ix_get (by rw [szs_len]; exact h), ix_get h]; unfold szs; rw [List.getElem_map]
theorem sizesE_len {l : List Int} (h : sizesE l = 0) : 1 ≤ l.length ∧ l.length ≤ 8 := by
  unfold sizesE at h
  by_cases hl : (l.length : Int) < 1 ∨ 8 < (l.length : Int)
  · rw [if_pos hl] at h; cases h
  · omega
theorem sizesE_ix {l : List Int} (h : sizesE l = 0) {k : Nat} (hk : k < l.length) : 1 ≤ ix l (k : Int) ∧ ix l (k : Int) ≤ 4096 := by
  unfold sizesE at h
  by_cases hl : (l.length : Int) < 1 ∨ 8 < (l.length : Int)
  · rw [if_pos hl] at h; cases h
  · rw [if_neg hl] at h
    have := firstN_zero.1 h k hk
    by_cases q : ix l (k : Int) < 1 ∨ 4096 < ix l (k : Int)
    · rw [if_pos q] at this; cases this
    · omega
theorem image_checkSizes_ok {l : List Int} {Φ : Int → Prop} (hΦ : Φ (sizesE l)) : Z5 l Φ := by
  unfold sizesE at hΦ
  by_cases h : (l.length : Int) < 1 ∨ 8 < (l.length : Int)
  · rw [if_pos h] at hΦ
    exact ⟨fun _ => hΦ, fun _ => ⟨fun _ => hΦ, fun _ => by omega⟩⟩
  · rw [if_neg h] at hΦ
    refine ⟨fun _ => by omega, fun _ => ⟨fun _ => by omega, fun _ => ?_⟩⟩
    refine LoopW.errI l.length (fun k => (k : Int)) _ rfl hΦ (fun k rec hk _ h1 h2 => ?_) fun rec _ h0 => ⟨fun _ => by omega, fun _ => ⟨fun _ => by omega, fun _ => h0⟩⟩
    have go : ∀ q : ix l (k : Int) < 1 ∨ 4096 < ix l (k : Int), Φ 2 := fun q => by
      have := h1 (by rw [if_pos q]; omega)
      rw [if_pos q] at this; exact this
    refine ⟨fun _ => ⟨iX (by omega) (by omega), fun q => ⟨fun _ => ⟨fun _ => go (.inl q), fun _ => by omega⟩, fun r => absurd rfl r⟩, fun q => ⟨fun r => ⟨fun _ => go (.inr (of_decide_eq_true r)), fun _ => by omega⟩, fun r => ⟨iI (by omega) (by omega), h2 (if_neg (by have := of_decide_eq_false (Bool.eq_false_iff.2 r); omega)) _ rfl⟩⟩⟩, fun _ => by omega⟩
theorem image_sizes_ok {im : List (List Sec)} {Φ : List Int → Prop} (hl : im.length ≤ 100000) (hΦ : Φ (szs im)) : image_sizes_W im Φ := by
  refine ⟨by omega, iL (by omega) (by omega), ?_⟩
  refine LoopW.upT im.length (fun k => ((k : Int), (im.take k).map fun v => (v.length : Int))) rfl (fun k rec hk hr => ?_) fun rec => ⟨fun _ => by omega, fun _ => by rw [take_all]; exact hΦ⟩
  refine ⟨fun _ => ⟨iX (by omega) (by omega), iL (by rw [len_snoc, List.length_map, lenT (by omega)]; omega) (by omega), iI (by omega) (by omega), hr _ (by rw [map_take_snoc _ hk]; rfl)⟩, fun _ => by omega⟩
theorem image_Check_ok {im : List (List Sec)} {Φ : Int → Prop} (hl : im.length ≤ 100000) (hΦ : Φ (imgE im)) : image_Check_W im Φ := image_sizes_ok hl (image_checkSizes_ok hΦ)
def zeroI (l : List Int) : List (List Sec) := l.map fun n => List.replicate n.toNat sec0
theorem zeroI_len (l : List Int) : (zeroI l).length = l.length := by unfold zeroI; rw [List.length_map]
theorem ix_zeroI {l : List Int} {k : Nat} (h : k < l.length) : ix (zeroI l) (k : Int) = List.replicate (ix l (k : Int)).toNat sec0 := by
  rw [ix_get (by rw [zeroI_len]; exact h), ix_get h]; unfold zeroI; rw [List.getElem_map]
theorem szs_zeroI {l : List Int} (h : sizesE l = 0) : szs (zeroI l) = l := by
  refine ext_ix (by rw [szs_len, zeroI_len]) fun k hk => ?_
  rw [szs_len, zeroI_len] at hk
  have := sizesE_ix h hk
  rw [ix_szs (by rw [zeroI_len]; exact hk), ix_zeroI hk, List.length_replicate]; omega
theorem image_New_ok {l : List Int} {Φ : List (List Sec) × Int → Prop} (h0 : sizesE l = 0 → Φ (zeroI l, 0)) (h1 : sizesE l ≠ 0 → Φ ([], sizesE l)) : image_New_W l Φ := by
  refine image_checkSizes_ok ⟨fun q => h1 q, fun q => ?_⟩
  have q : sizesE l = 0 := Classical.not_not.1 q
  have hl := sizesE_len q
  refine ⟨by omega, iL (by omega) (by omega), ?_⟩
  refine LoopW.upT l.length (fun k => ((k : Int), (l.take k).map fun n => List.replicate n.toNat sec0)) rfl (fun k rec hk hr => ?_) fun rec => ⟨fun _ => by omega, fun _ => by rw [take_all]; exact h0 q⟩
  have := sizesE_ix q hk
  refine ⟨fun _ => ⟨iX (by omega) (by omega), by omega, iL (by omega) (by omega), iL (by rw [len_snoc, List.length_map, lenT (by omega)]; omega) (by omega), iI (by omega) (by omega), hr _ (by rw [map_take_snoc _ hk]; rfl)⟩, fun _ => by omega⟩
def fitW (l : List Int) (w : api_Write) : Int := if w.Volume < 0 ∨ (l.length : Int) ≤ w.Volume then 7 else if (w.Data.length : Int) = 0 then 1 else if w.Start < 0 ∨ ix l w.Volume - w.Start < (w.Data.length : Int) then 2 else 0
theorem image_fits_ok {im : List (List Sec)} {w : api_Write} {Φ : Int → Prop} (hd : w.Data.length ≤ 1000000) (hv : ∀ k : Nat, k < im.length → (ix im (k : Int)).length ≤ 1000000) (hΦ : Φ (fitW (szs im) w)) : image_fits_W im w Φ := by
  unfold fitW at hΦ
  rw [szs_len] at hΦ
  show (_ → image_fits_J1 _ _ _ _) ∧ _
  have tail : ¬ (w.Volume < 0 ∨ (im.length : Int) ≤ w.Volume) → image_fits_J1 im w Φ false := fun q => by
    rw [if_neg q] at hΦ
    refine ⟨fun r => (Bool.noConfusion r), fun _ => ⟨fun r => by rw [if_pos (by omega)] at hΦ; exact hΦ, fun r => ?_⟩⟩
    rw [if_neg (by omega)] at hΦ
    obtain ⟨v, hw⟩ := Int.eq_ofNat_of_zero_le (show 0 ≤ w.Volume by omega)
    have hvl : v < im.length := by omega
    rw [hw, ix_szs hvl] at hΦ
    have := hv v hvl
    refine ⟨fun s => by rw [if_pos (.inl s)] at hΦ; exact hΦ, fun s => ⟨iX (by omega) (by omega), ?_⟩⟩
    rw [hw]
    exact ⟨iI (by omega) (by omega), fun t => by rw [if_pos (by omega)] at hΦ; exact hΦ, fun t => by rw [if_neg (by omega)] at hΦ; exact hΦ⟩
  refine ⟨fun q => ⟨fun _ => by rw [if_pos (.inl q)] at hΦ; exact hΦ, fun r => absurd rfl r⟩, fun q => ?_⟩
  by_cases r : (im.length : Int) ≤ w.Volume
  · rw [decide_eq_true r]
    exact ⟨fun _ => by rw [if_pos (.inr r)] at hΦ; exact hΦ, fun r => absurd rfl r⟩
  · rw [decide_eq_false r]; exact tail (by omega)
theorem szs_small {im : List (List Sec)} (h : imgE im = 0) (k : Nat) (hk : k < im.length) : (ix im (k : Int)).length ≤ 4096 := by
  have := sizesE_ix h (k := k) (by rw [szs_len]; exact hk)
  rw [ix_szs hk] at this; omega
theorem image_Fits_ok {im : List (List Sec)} {w : api_Write} {Φ : Int → Prop} (hd : w.Data.length ≤ 1000000) (h : imgE im = 0) (hΦ : Φ (fitW (szs im) w)) : image_Fits_W im w Φ := by
  have hl := sizesE_len h
  rw [szs_len] at hl
  exact image_Check_ok (by omega) ⟨fun q => absurd h q, fun _ => image_fits_ok hd (fun k hk => Nat.le_trans (szs_small h k hk) (by omega)) hΦ⟩
theorem newBs_step {l : List Int} {k : Nat} (h : k < l.length) : ((l.take (k + 1)).map newB) = (l.take k).map newB ++ [newB (ix l (k : Int))] := map_take_snoc newB h
theorem tracker_clean_ok {l : List Int} {Φ : List api_Bitmap × Int → Prop} (hl : l.length ≤ 100000) (hs : ∀ k : Nat, k < l.length → 0 ≤ ix l (k : Int) ∧ ix l (k : Int) ≤ 4096) (hΦ : Φ (l.map newB, 0)) : Z10 l Φ := by
  refine LoopW.upT l.length (fun k => ((k : Int), (l.take k).map newB)) rfl (fun k rec hk hrec => ?_) fun rec => ⟨fun q => absurd (show (l.length : Int) < (l.length : Int) from q) (by omega), fun _ => ?_⟩
  · refine ⟨fun _ => ⟨iX (by omega) (by omega), bitmap_New_ok (hs k hk).1 (hs k hk).2 ⟨fun q => absurd rfl q, fun _ => ⟨iL (by simp only [List.length_append, List.length_map, List.length_cons, List.length_nil]; rw [lenT (Nat.le_of_lt hk)]; omega) (by omega), iI (by omega) (by omega), hrec _ (Prod.ext rfl (newBs_step hk).symm)⟩⟩⟩, fun q => absurd (show (k : Int) < (l.length : Int) by omega) q⟩
  · rw [take_all]; exact hΦ
def mark1 (d : List api_Bitmap) (w : api_Write) : List api_Bitmap := put d w.Volume (setBm (ix d w.Volume) ⟨w.Start, (w.Data.length : Int)⟩).1
def markL (d : List api_Bitmap) (l : List api_Write) : List api_Bitmap := l.foldl mark1 d
theorem markL_step (d : List api_Bitmap) {l : List api_Write} {k : Nat} (h : k < l.length) : markL d (l.take (k + 1)) = mark1 (markL d (l.take k)) (ix l (k : Int)) := by
  unfold markL
  rw [take_ix h, List.foldl_append]; rfl
def bmsE (d : List api_Bitmap) (sizes : List Int) (k : Nat) : Int := if chkB (ix d (k : Int)) ≠ 0 then chkB (ix d (k : Int)) else if (ix d (k : Int)).Size ≠ ix sizes (k : Int) then 22 else 0
def bmsC (d : List api_Bitmap) (sizes : List Int) : Int := if (d.length : Int) ≠ (sizes.length : Int) then 6 else firstN (bmsE d sizes) d.length
def peerE (t : api_Tracker) (k : Nat) : Int :=
  if (ix t.Peers (k : Int)).Site < 0 ∨ 4 ≤ (ix t.Peers (k : Int)).Site then 2 else if 0 < (k : Int) ∧ (ix t.Peers (k : Int)).Site ≤ (ix t.Peers ((k : Int) - 1)).Site then 8 else if (ix t.Peers (k : Int)).Common < 0 ∨ 1073741824 < (ix t.Peers (k : Int)).Common then 2 else bmsC (ix t.Peers (k : Int)).Dirty t.Sizes
def trkE (t : api_Tracker) : Int := if sizesE t.Sizes ≠ 0 then sizesE t.Sizes else if 4 < (t.Peers.length : Int) then 6 else firstN (peerE t) t.Peers.length
theorem bit_zip (op : BitVec 64 → BitVec 64 → BitVec 64) (f : Bool → Bool → Bool) (hf : ∀ a b j, j < 64 → (op a b).getLsbD j = f (a.getLsbD j) (b.getLsbD j)) {ws vs : List (BitVec 64)} (hl : ws.length = vs.length) {i : Nat} (hi : i < 64 * ws.length) : bitN (List.zipWith op ws vs) i = f (bitN ws i) (bitN vs i) := by
  have h1 : i / 64 < ws.length := by omega
  have h2 : i / 64 < vs.length := by omega
  unfold bitN
  rw [List.getD_eq_getElem?_getD, zip_get h1 h2, Option.getD_some, hf _ _ _ (Nat.mod_lt _ (by decide))]
theorem bit_or {ws vs : List (BitVec 64)} (hl : ws.length = vs.length) {i : Nat} (hi : i < 64 * ws.length) : bitN (List.zipWith (fun a b => a ||| b) ws vs) i = (bitN ws i || bitN vs i) := bit_zip _ (· || ·) (fun _ _ _ _ => BitVec.getLsbD_or) hl hi
theorem chk_iff {n : Int} {ws : List (BitVec 64)} : chk n ws = 0 ↔ 0 ≤ n ∧ n ≤ 4096 ∧ (ws.length : Int) = (n + 63) / 64 ∧ ∀ i : Nat, i < 64 * ws.length → n ≤ (i : Int) → bitN ws i = false :=
  ⟨fun h => wfB_iff.1 (chk_zero h), fun ⟨h1, h2, h3, h4⟩ => chk_ok h1 h2 h3 h4⟩
theorem chk_zip {op : BitVec 64 → BitVec 64 → BitVec 64} (f : Bool → Bool → Bool) (h0 : f false false = false) (hf : ∀ a b j, j < 64 → (op a b).getLsbD j = f (a.getLsbD j) (b.getLsbD j)) {n : Int} {ws vs : List (BitVec 64)} (h1 : chk n ws = 0) (h2 : chk n vs = 0) : chk n (List.zipWith op ws vs) = 0 := by
  obtain ⟨a1, a2, a3, a4⟩ := chk_iff.1 h1
  obtain ⟨_, _, b3, b4⟩ := chk_iff.1 h2
  have hl : ws.length = vs.length := by omega
  have hz : (List.zipWith op ws vs).length = ws.length := by rw [List.length_zipWith]; omega
  refine chk_iff.2 ⟨a1, a2, by rw [hz]; exact a3, fun i hi hn => ?_⟩
  rw [hz] at hi
  rw [bit_zip op f hf hl hi, a4 i hi hn, b4 i (by omega) hn, h0]
theorem chk_set1 {n : Int} {ws : List (BitVec 64)} {s c : Int} (h : chk n ws = 0) (hf : fitsB s c n = true) : chk n (chW true ws s (s + c)) = 0 := by
  obtain ⟨a1, a2, a3, a4⟩ := chk_iff.1 h
  have hff := fitsB_iff.1 hf
  refine chk_iff.2 ⟨a1, a2, by rw [chW_length]; exact a3, fun i hi hn => ?_⟩
  rw [chW_length] at hi
  rw [chW_bit true ws _ _ i hi, if_neg (by omega)]
  exact a4 i hi hn
theorem chk_new {n : Int} (h1 : 0 ≤ n) (h2 : n ≤ 4096) : chk n (List.replicate ((n + 63) / 64).toNat 0#64) = 0 := by
  refine chk_iff.2 ⟨h1, h2, by rw [List.length_replicate]; omega, fun i hi _ => ?_⟩
  rw [List.length_replicate] at hi
  unfold bitN
  rw [List.getD_eq_getElem?_getD, List.getElem?_replicate]
  split <;> simp
theorem bit_new {m i : Nat} : bitN (List.replicate m 0#64) i = false := by
  unfold bitN
  rw [List.getD_eq_getElem?_getD, List.getElem?_replicate]
  split <;> simp
end Go.Proofs.YtgojhiknicmopaaDoor
