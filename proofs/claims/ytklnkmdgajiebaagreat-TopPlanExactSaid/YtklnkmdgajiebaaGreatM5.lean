/- Part 5 of the proof of the statement TopPlanExactSaid: lemmas. No condition of its own. -/
import Derived.Lib.TrailingZeros
import Derived.Shelf.SlSortCmp.NoneTotal
import Derived.ProofKit
import Derived.Test.YtklnkmdgajiebaaGreatRows
import Derived.Test.YtklnkmdgajiebaaGreatProg
import Derived.Test.YtklnkmdgajiebaaGreatM4
namespace Go.Proofs.YtklnkmdgajiebaaGreat
open Go.RowKit
section
section
variable {F : Fence} {n : Nat} {P : Program} {ops : Array Oper} {Q : Exit → Act → World → Prop}
theorem q409 {Q1 : Exit → Act → World → Prop} {o : Oper} {l : List Oper} {a : Act} {w : World} (h : wpListIn F n P ops Q1 [o] a w) (hK : ∀ a w, Q1 .normal a w → wpListIn F n P ops Q l a w) (hp : ∀ c a w, ¬ Q1 (.panic c) a w) (hl : ¬ LetsOut Q1) : wpListIn F n P ops Q (o :: l) a w := by
  unfold wpListIn at h ⊢
  split at h
  · rename_i hw
    rw [if_pos hw]; refine ⟨h.1, ?_⟩; have h2 := h.2; generalize (o.semAt F.round a.eval).run P w = res at h2; cases res with
    | ok nx w' =>
      cases nx with
      | value v => exact hK _ _ h2
      | skip => exact hK _ _ h2
      | defer d => exact hK _ _ h2
      | enter f args =>
        refine ⟨h2.1, h2.2.mono fun e w'' he => ?_⟩; cases e with
        | returned v => exact hK _ _ he
        | panicked chain => exact absurd he (hp _ _ _)
        | outgrown => exact absurd he hl
      | row row args => exact ⟨h2.1, h2.2.mono fun v w'' he => hK _ _ he⟩
      | round l f tmps assign body =>
        refine ⟨h2.1, h2.2.mono fun e w'' he => ?_⟩; cases e with
        | returned v => exact hK _ _ he
        | panicked chain => exact absurd he (hp _ _ _)
        | outgrown => exact absurd he hl
      | _ => exact h2
    | halt x w' =>
      cases x with
      | panic v => exact absurd h2 (hp _ _ _)
      | _ => exact h2
  · rename_i hw
    rw [if_neg hw]; exact ⟨h.1, hK _ _ h.2⟩
end
theorem RW.cons1 {r : Option Nat} {md : Nat} {P : Program} {N : Nat} {ops : Array Oper} {o : Oper} {l : List Oper} {Q : Exit → List Deferred → (Nat → Value) → World → Prop} {Dd : List Deferred} {σ : Nat → Value} {w : World}
    (h : RW r md P N ops [o] (fun e D' σ' w' => e = .normal ∧ RW r md P N ops l Q D' σ' w') Dd σ w) : RW r md P N ops (o :: l) Q Dd σ w := by
  intro a ha; refine q409 (h a ha) (fun a' w' hq => ?_) (fun c a' w' hq => ?_) (fun hq => ?_)
  · obtain ⟨D', σ', h1, _, h2⟩ := hq
    exact h2 a' h1
  · obtain ⟨_, _, _, hn, _⟩ := hq
    cases hn
  · obtain ⟨_, _, _, _, _, hn, _⟩ := hq
    cases hn
def Yl {α : Type} (l : List α) (K : α → List α → Prop) : Prop := match l with
  | [] => False
  | x :: r => K x r
section
variable {D : Nat → Type} [∀ t, Dt (D t)]
def q583 (st : St D) (op : Op) : Option (List Operand) := match op with
  | .call ⟨.value g, xs, _⟩ => match evO st.sl g with
    | some (.kp 0) => some xs.toList
    | _ => none
  | _ => none
omit [∀ t, Dt (D t)] in
theorem q584 {st : St D} {op : Op} {xs : List Operand} (h : q583 st op = some xs) : ∃ g ys tys, op = .call ⟨.value g, ys, tys⟩ ∧ evO st.sl g = some (.kp 0) ∧ xs = ys.toList := by
  unfold q583 at h
  split at h
  · split at h
    · rename_i hg
      cases h; exact ⟨_, _, _, rfl, hg, rfl⟩
    · cases h
  · cases h
def memI (P : Program) (tb : Tb D) (st : St D) (fr : List (Nat × Blk D)) (op : Op) : Option (SV D × St D) := match op with
  | .alloc T => match alE P st.nx T with
    | some (_, v, ef) => some (v, st.eff ef)
    | none => none
  | .box T _ => match q65 st fr op with
    | some [a] => match bxE st.nx T a with
      | some (_, v, ef) => some (v, st.eff ef)
      | none => none
    | _ => none
  | .store T _ _ => match q65 st fr op with
    | some [.ptr id off, b] => match stE P tb (gtB st.bk) T (.ptr id off) b with
      | some (_, v, ef) => some (v, st.eff ef)
      | none => none
    | _ => none
  | _ => none
def isMemI : Op → Bool
  | .alloc _ => true
  | .box _ _ => true
  | .store _ _ _ => true
  | _ => false
def yOp (E : Env D) (fr : List (Nat × Blk D)) (ts : List Nat) (o : Oper) (sp : Bool) (st : St D) (rest : List (TupD D ts)) (K : Bool → St D → List (TupD D ts) → Prop) : Prop := match q583 st o.op with
  | some xs => match sp with
    | true => False
    | false => Yl rest fun x r => match mapO (fun x => (evO st.sl x).map fun v => rsD (st.lk fr) (resD st.kn v)) xs with
      | some vs => match argsC E.P ts vs with
        | some ls => match ofTup E.tb ts ls with
          | some a => a = x ∧ K false ((⟨st.sl, [], st.kn, st.nx⟩ : St D).put o.dst (.k true)) r ∧ K true ((⟨st.sl, [], st.kn, st.nx⟩ : St D).put o.dst (.k false)) (x :: r)
          | none => False
        | none => False
      | none => False
  | none => match isMemI o.op with
    | true => match memI E.P E.tb st fr o.op with
      | some (v, st') => K sp (st'.put o.dst v) rest
      | none => False
    | false => stepD E fr o st fun v e _ _ => cdP e False (K sp (st.put o.dst v) rest)
def yFl (E : Env D) (fr : List (Nat × Blk D)) (ts : List Nat) (q : Bool) (o : Oper) (sp : Bool) (st : St D) (rest : List (TupD D ts)) (K : Bool → St D → List (TupD D ts) → Prop) : Prop := match q with
  | true => match q491 E fr o st with
    | some v => K sp (st.put o.dst v) rest
    | none => False
  | false => yOp E fr ts o sp st rest K
def runYF (E : Env D) (N : Nat) (fr : List (Nat × Blk D)) (ts : List Nat) (ops : Array Oper) (fl : List Nat) : List Nat → Bool → St D → List (TupD D ts) → (Bool → St D → List (TupD D ts) → Prop) → Prop
  | [], sp, st, rest, K => K sp st rest
  | i :: g, sp, st, rest, K => match ops[i]? with
    | none => False
    | some o => cdP (dstOk o.dst N) (match gdE ops st o.guard with
      | .yes => yFl E fr ts (fl.any (Nat.beq i)) o sp st rest fun sp' st' rest' => runYF E N fr ts ops fl g sp' st' rest' K
      | .no => runYF E N fr ts ops fl g sp (st.put o.dst (.c undef)) rest K
      | .ask t v want => askF v
          (cdP want (yFl E fr ts (fl.any (Nat.beq i)) o sp (st.know (.tmp t) true) rest fun sp' st' rest' => runYF E N fr ts ops fl g sp' st' rest' K) (runYF E N fr ts ops fl g sp ((st.know (.tmp t) true).put o.dst (.c undef)) rest K))
          (cdP want (runYF E N fr ts ops fl g sp ((st.know (.tmp t) false).put o.dst (.c undef)) rest K) (yFl E fr ts (fl.any (Nat.beq i)) o sp (st.know (.tmp t) false) rest fun sp' st' rest' => runYF E N fr ts ops fl g sp' st' rest' K))
      | .bad => False) False
def runY (E : Env D) (N : Nat) (fr : List (Nat × Blk D)) (ts : List Nat) (ops : Array Oper) : List Oper → Bool → St D → List (TupD D ts) → (Bool → St D → List (TupD D ts) → Prop) → Prop
  | [], sp, st, rest, K => K sp st rest
  | o :: l, sp, st, rest, K => cdP (dstOk o.dst N) (match gdE ops st o.guard with
    | .yes => yOp E fr ts o sp st rest fun sp' st' rest' => runY E N fr ts ops l sp' st' rest' K
    | .no => runY E N fr ts ops l sp (st.put o.dst (.c undef)) rest K
    | .ask t v want => askF v
        (cdP want (yOp E fr ts o sp (st.know (.tmp t) true) rest fun sp' st' rest' => runY E N fr ts ops l sp' st' rest' K) (runY E N fr ts ops l sp ((st.know (.tmp t) true).put o.dst (.c undef)) rest K))
        (cdP want (runY E N fr ts ops l sp ((st.know (.tmp t) false).put o.dst (.c undef)) rest K) (yOp E fr ts o sp (st.know (.tmp t) false) rest fun sp' st' rest' => runY E N fr ts ops l sp' st' rest' K))
    | .bad => False) False
def runI (E : Env D) (N : Nat) (fr : List (Nat × Blk D)) (ts : List Nat) : Code → List Nat → Bool → St D → List (TupD D ts) → (Exit → Bool → St D → List (TupD D ts) → Prop) → Prop
  | .skip, _, sp, st, rest, K => K .normal sp st rest
  | .ret, _, sp, st, rest, K => K .ret sp st rest
  | .exit id, _, sp, st, rest, K => K (.exit id) sp st rest
  | .region _ ops dr, pos, sp, st, rest, K => match dr with
    | false => runY E N fr ts ops ops.toList sp st rest (K .normal)
    | true => match findP pos E.plan with
      | some pe => match pe.tp.rw with
        | 0 :: 0 :: g => cdP (Region.noSelect ops && (Nat.beq g.length ops.size && flB ops (pe.tp.sl.map (·.1)) g (Array.replicate ops.size false))) (runYF E N fr ts ops (pe.tp.sl.map (·.1)) g sp st rest (K .normal)) False
        | _ => False
      | none => False
  | .cond c a b, pos, sp, st, rest, K => match (evO st.sl c).map (res st.kn) with
    | some (.k true) => runI E N fr ts a (2 :: pos) sp st rest K
    | some (.k false) => runI E N fr ts b (3 :: pos) sp st rest K
    | some s => askF s (runI E N fr ts a (2 :: pos) sp (st.know c true) rest K) (runI E N fr ts b (3 :: pos) sp (st.know c false) rest K)
    | none => False
  | .block id c, pos, sp, st, rest, K => runI E N fr ts c (4 :: pos) sp st rest fun e sp' st' rest' => match e with
    | .exit id' => cdP (Nat.beq id' id) (K .normal sp' st' rest') (K (.exit id') sp' st' rest')
    | e => K e sp' st' rest'
  | .seq a b, pos, sp, st, rest, K => runI E N fr ts a (0 :: pos) sp st rest fun e sp' st' rest' => match e with
    | .normal => runI E N fr ts b (1 :: pos) sp' st' rest' K
    | e => K e sp' st' rest'
  | .loop c, pos, sp, st, rest, K => match sp, findP pos E.plan with
    | false, some pe => match fillE pe.tp st.tag.nx st.tag fr with
      | some s0 => LoopW (fun (q : List (TupD D ts) × TupV D pe.tp.vts) rec => match makeE pe.tp st.tag.nx st.tag.kn q.2 with
        | some st2 => match st2.bk with
          | [] => runI E N fr ts c (5 :: pos) false st2 q.1 fun e sp' st' rest' => match e with
            | .normal => match sp' with
              | false => match fillE pe.tp st.tag.nx st' fr with
                | some s' => rec (rest', s')
                | none => False
              | true => False
            | e => K e sp' st' rest'
          | _ :: _ => False
        | none => False) (rest, s0)
      | none => False
    | _, _ => False
  | _, _, _, _, _, _ => False
def JS {α : Type} (J Jx : Nat → World → Prop) (all : List α) (sp : Bool) (rest : List α) (w : World) : Prop := match sp with
  | false => ∃ k, k ≤ all.length ∧ J k w ∧ rest = all.drop k
  | true => ∃ k, k < all.length ∧ Jx k w
theorem JS.below {α : Type} {J Jx : Nat → World → Prop} (hJ : ∀ k A B, J k A → Below A.heap.size A B → J k B) (hJx : ∀ k A B, Jx k A → Below A.heap.size A B → Jx k B) {all rest : List α} {sp : Bool} {w w' : World} (h : JS J Jx all sp rest w) (hb : Below w.heap.size w w') : JS J Jx all sp rest w' := by
  cases sp with
  | false => obtain ⟨k, h0, h1, h2⟩ := h; exact ⟨k, h0, hJ _ _ _ h1 hb, h2⟩
  | true => obtain ⟨k, h1, h2⟩ := h; exact ⟨k, h1, hJx _ _ _ h2 hb⟩
variable {E : Env D} {N : Nat} {fr : List (Nat × Blk D)} {ts : List Nat} {H : Hp} {lp : Nat} {J Jx : Nat → World → Prop} {all : List (TupD D ts)}
def IS (J Jx : Nat → World → Prop) (all : List (TupD D ts)) (fr : List (Nat × Blk D)) (H : Hp) (ρ : RM) (sp : Bool) (rest : List (TupD D ts)) (st : St D) (σ : Nat → Value) (w : World) : Prop := ∃ wy L, Sat fr [] wy H [] H ρ L st σ w ∧ JS J Jx all sp rest wy
theorem IS.ag {ρ : RM} {sp : Bool} {rest : List (TupD D ts)} {st : St D} {σ : Nat → Value} {w : World} (h : IS J Jx all fr H ρ sp rest st σ w) : AgH H w := by
  obtain ⟨wy, L, hs, _⟩ := h; exact hs.mem.agree
theorem IS.put {ρ : RM} {sp : Bool} {rest : List (TupD D ts)} {st : St D} {σ : Nat → Value} {w : World} (h : IS J Jx all fr H ρ sp rest st σ w) {x : Value} {v : SV D} (hv : Rv H ρ x v) (d : Option Nat) : IS J Jx all fr H ρ sp rest (st.put d v) (upd σ d x) w := by
  obtain ⟨wy, L, hs, hj⟩ := h; exact ⟨wy, L, hs.put hv d, hj⟩
theorem IS.know {ρ : RM} {sp : Bool} {rest : List (TupD D ts)} {st : St D} {σ : Nat → Value} {w : World} (h : IS J Jx all fr H ρ sp rest st σ w) {c : Operand} {b : Bool} (hc : ev σ c = .bool b) : IS J Jx all fr H ρ sp rest (st.know c b) σ w := by
  obtain ⟨wy, L, hs, hj⟩ := h; exact ⟨wy, L, hs.know hc, hj⟩
theorem IS.res {ρ : RM} {sp : Bool} {rest : List (TupD D ts)} {st : St D} {σ : Nat → Value} {w : World} (h : IS J Jx all fr H ρ sp rest st σ w) {x : Value} {v : SV D} (hv : Rv H ρ x v) : Rv H ρ x (Go.Proofs.YtklnkmdgajiebaaGreat.res st.kn v) := by
  obtain ⟨wy, L, hs, _⟩ := h; exact hs.res hv
theorem IS.slr {ρ : RM} {sp : Bool} {rest : List (TupD D ts)} {st : St D} {σ : Nat → Value} {w : World} (h : IS J Jx all fr H ρ sp rest st σ w) : SlR H ρ st.sl σ := by
  obtain ⟨wy, L, hs, _⟩ := h; exact hs.sl
def YOk (P : Program) (ts : List Nat) (H : Hp) (lp : Nat) (J Jx : Nat → World → Prop) (all : List (TupD D ts)) : Prop := ∀ k A0 vs, k < all.length → (∃ y, all[k]? = some y ∧ ArgsR P H ts y vs) → J k A0 → (∀ b o, H b = some o → A0.heap[b]? = some o) → Yield P lp vs A0 fun v B => (∀ b o, H b = some o → B.heap[b]? = some o) ∧ ((v = .bool true ∧ J (k + 1) B) ∨ (v = .bool false ∧ Jx k B))
def GoesI (fr : List (Nat × Blk D)) (H : Hp) (J Jx : Nat → World → Prop) (all : List (TupD D ts)) (ρ : RM) (K : Bool → St D → List (TupD D ts) → Prop) (T : (Nat → Value) → World → Prop) : Prop := ∀ sp' st' rest' σ' w' ρ', K sp' st' rest' → RM.le ρ ρ' → IS J Jx all fr H ρ' sp' rest' st' σ' w' → T σ' w'
theorem GoesI.mono {ρ ρ' : RM} {K : Bool → St D → List (TupD D ts) → Prop} {T : (Nat → Value) → World → Prop} (h : GoesI fr H J Jx all ρ K T) (hρ : RM.le ρ ρ') : GoesI fr H J Jx all ρ' K T := fun sp st rest σ w ρ2 hk h1 hs => h sp st rest σ w ρ2 hk (hρ.trans h1) hs
theorem memI_ok {P : Program} {tb : Tb D} {σ : Nat → Value} {ty : TypeId} {w w0 : World} {H0 : Hp} {ρ : RM} {R L F : List Ent} {st st' : St D} (hs : Sat fr F w0 H0 R H ρ L st σ w) {op : Op} {v : SV D} (h : memI P tb st fr op = some (v, st')) : Dn P σ op ty w fun x w' => ∃ ρ' L', RM.le ρ ρ' ∧ Sat fr F w0 H0 R H ρ' L' st' σ w' ∧ Rv H ρ' x v := by
  unfold memI at h
  split at h
  · rename_i T
    split at h
    · rename_i gs v' ef ha
      cases h; unfold alE at ha
      split at ha
      · rename_i l hl
        cases ha; obtain ⟨z, hz, hc⟩ := q179 hl; intro r md N ops l2 Q Dd d pos af gd hg hd k; refine RW.alloc hs.mem hz z.cells.toList (by simp) hg hd fun b w' hM => k _ _ ?_; obtain ⟨a1, a2⟩ := hs.new (q := .b b) (b := .box T l) (Hp.le.refl _) ⟨b, _, RM.put_same _ _ _, rfl, hc _ _⟩ hM; exact ⟨_, _, a1, a2, b, RM.put_same _ _ _, rfl⟩
      · cases ha
    · cases h
  · rename_i T x
    split at h
    · rename_i a hvs
      split at h
      · rename_i gs v' ef ha
        cases h; unfold bxE at ha; obtain ⟨ho, ha⟩ := cif ha; cases ha; obtain ⟨y, e, h1⟩ := rv1 (q26 hs hvs); cases e; obtain ⟨us, g1, g2⟩ := q154 ho h1; intro r md N ops l2 Q Dd d pos af gd hg hd k; refine RW.box hs.mem _ us rfl g1 hg hd fun b w' hM => k _ _ ?_; obtain ⟨a1, a2⟩ := hs.new (q := .b b) (b := .box T (q81 a)) (Hp.le.refl _) ⟨b, us, RM.put_same _ _ _, rfl, g2.mono (Hp.le.refl _) (hs.fresh _)⟩ hM; exact ⟨_, _, a1, a2, b, RM.put_same _ _ _, rfl⟩
      · cases h
    · cases h
  · rename_i T x y
    split at h
    · rename_i id off b hvs
      split at h
      · rename_i gs v' ef ha
        cases h; obtain ⟨x', y', e, h1, h2⟩ := rv2 (q26 hs hvs); cases e; unfold stE at ha; obtain ⟨ho, ha⟩ := cif ha; rw [Bool.and_eq_true] at ho; obtain ⟨ho, hsz⟩ := ho; obtain ⟨us, g1, g2⟩ := q154 ho h2; have hlen := RvL.length g2; have hsz : ∃ i, P.info? T = some i ∧ i.size = us.length := by rw [hlen]; exact q188 hsz
        have h1c : ∀ u ∈ us, u.oneCell' = true := q353 ho g2; obtain ⟨bl, e1, e2⟩ := h1; intro r md N ops l2 Q Dd d pos af gd hg hd k; simp only at ha
        split at ha
        · rename_i T' cs hl
          obtain ⟨hle, ha⟩ := cif ha; cases ha; obtain ⟨L1, S, L2, ⟨b', vs, f1, rfl, f3⟩, hM, hK⟩ := hs.write hl; rw [e1] at f1; cases f1; refine RW.store hM L1.length _ us _ hsz e2 rfl g1 h1c (q19 _ _ _) (by rw [hlen, RvL.length f3]; exact Nat.le_of_ble_eq_true hle) rfl _ (q112 _ _ _ _) hg hd fun w' hM' => k _ _ ?_; exact ⟨ρ, _, RM.le.refl _, hK (Hp.le.refl _) (RM.le.refl _) ⟨bl, _, e1, rfl, q354 f3 g2⟩ hM' hs.nx, rfl⟩
        · cases ha
      · cases h
    · cases h
  · cases h
theorem q712 (hE : E.Ok) (hG : E.G H) (hJ : ∀ k A B, J k A → Below A.heap.size A B → J k B) (hY : YOk E.P ts H lp J Jx all) {r : Option Nat} {md : Nat} {ops : Array Oper} {Q : Exit → List Deferred → (Nat → Value) → World → Prop} {Dd : List Deferred} {K : Bool → St D → List (TupD D ts) → Prop} {ρ : RM} (h0 : ρ 0 = some (.v (.func (.yield lp) #[] #[]))) {o : Oper} {l : List Oper} {sp : Bool} {st : St D} {rest : List (TupD D ts)} {σ : Nat → Value} {w : World} (hs : IS J Jx all fr H ρ sp rest st σ w) (h : yOp E fr ts o sp st rest K) (hgd : gdOk ops σ o.guard = true) (hd : dstOk o.dst N = true)
    (hk : GoesI fr H J Jx all ρ K fun σ' w' => RW r md E.P N ops l Q Dd σ' w') : RW r md E.P N ops (o :: l) Q Dd σ w := by
  obtain ⟨wy, L, hs, hj⟩ := hs; unfold yOp at h
  split at h
  · rename_i xs hy
    split at h
    · exact h.elim
    · cases rest with
      | nil => exact h.elim
      | cons x rr =>
      simp only [Yl] at h; obtain ⟨k, _, hJk, hrest⟩ := hj
      have hkl : k < all.length := by
        rcases Nat.lt_or_ge k all.length with h1 | h1
        · exact h1
        · rw [List.drop_eq_nil_of_le h1] at hrest; cases hrest
      rw [List.drop_eq_getElem_cons hkl] at hrest; obtain ⟨rfl, rfl⟩ := List.cons.inj hrest
      split at h
      · rename_i vs hvs
        split at h
        · rename_i ls hls
          split at h
          · rename_i a ha
            obtain ⟨hax, hT, hF⟩ := h; have hA := q358 hE.tb ts (q26 hs hvs) hls ha; rw [hax] at hA; obtain ⟨d, op, ty, ps, af, gd⟩ := o; obtain ⟨g, ys, tys, hop, hg, rfl⟩ := q584 (op := op) hy; subst hop; have hgv : ρ 0 = some (.v (ev σ g)) := q30 hs.sl hg; rw [h0] at hgv
            have hgv : ev σ g = .func (.yield lp) #[] #[] := by
              have := Option.some.inj hgv; injection this with this
              exact this.symm
            have fresh : ∀ {w' : World}, (∀ b o, H b = some o → w'.heap[b]? = some o) → Sat fr [] w' H [] H ρ [] (⟨st.sl, [], st.kn, st.nx⟩ : St D) σ w' := fun hag => ⟨Mem.start hag, hs.sl, rfl, hs.fr, hs.kn, hs.nx⟩
            refine RW.yield hgv rfl (hY k w _ hkl ⟨_, List.getElem?_eq_getElem hkl, hA⟩ (hJ _ _ _ hJk hs.mem.below) hs.mem.agree) hgd hd fun v w' ⟨hag, hv⟩ => ?_; rcases hv with ⟨rfl, hv⟩ | ⟨rfl, hv⟩
            · exact hk _ _ _ _ _ _ hT (RM.le.refl _) ⟨w', [], (fresh hag).put (v := .k true) rfl d, (show JS J Jx all false _ _ from ⟨k + 1, hkl, hv, rfl⟩)⟩
            · exact hk _ _ _ _ _ _ hF (RM.le.refl _) ⟨w', [], (fresh hag).put (v := .k false) rfl d, (show JS J Jx all true _ _ from ⟨k, hkl, hv⟩)⟩
          · exact h.elim
        · exact h.elim
      · exact h.elim
  · split at h
    · split at h
      · rename_i v st' hm
        obtain ⟨d, op, ty, ps, af, gd⟩ := o; refine memI_ok (ty := ty) hs hm hgd hd fun x w' ⟨ρ', L', a1, a2, a3⟩ => ?_; exact hk _ _ _ _ _ _ h a1 ⟨wy, L', a2.put a3 d, hj⟩
      · exact h.elim
    · obtain ⟨v, e, nb, hi, h1, h2⟩ := q488 (ops := ops) hE h
      cases e with
      | true => exact h1.elim
      | false =>
        rcases h2 [] none with ⟨_, _, hq⟩ | ⟨hq, _⟩
        · refine RW.cons1 (hq hG (show Sat fr [] wy H [] H ρ L ⟨st.sl, st.bk, st.kn, st.nx⟩ σ w from hs) hgd hd fun x w' hm hx => RW.nil ⟨rfl, ?_⟩)
          have hM := hm _ hs.mem; exact hk _ _ _ _ _ _ h1 (RM.le.refl _) ⟨wy, L, (⟨hM, hs.sl, hs.bk, hs.fr, hs.kn, hs.nx⟩ : Sat fr [] wy H [] H ρ L st σ w').put hx o.dst, hj⟩
        · cases hq
theorem q439 (hE : E.Ok) (hG : E.G H) (hJ : ∀ k A B, J k A → Below A.heap.size A B → J k B) (hY : YOk E.P ts H lp J Jx all) {r : Option Nat} {md : Nat} {ops : Array Oper} {Q : Exit → List Deferred → (Nat → Value) → World → Prop} {Dd : List Deferred} {K : Bool → St D → List (TupD D ts) → Prop} : ∀ {l : List Oper} {ρ : RM} {sp : Bool} {st : St D} {rest : List (TupD D ts)} {σ : Nat → Value} {w : World}, ρ 0 = some (.v (.func (.yield lp) #[] #[])) → IS J Jx all fr H ρ sp rest st σ w → runY E N fr ts ops l sp st rest K → (GoesI fr H J Jx all ρ K fun σ' w' => Q .normal Dd σ' w') → RW r md E.P N ops l Q Dd σ w
  | [], ρ, sp, st, rest, σ, w, h0, hs, h, hk => RW.nil (hk _ _ _ _ _ _ h (RM.le.refl _) hs)
  | o :: l, ρ, sp, st, rest, σ, w, h0, hs, h, hk => by
    unfold runY at h; obtain ⟨hd, h⟩ := cifP h; have step : ∀ {st : St D}, IS J Jx all fr H ρ sp rest st σ w → gdOk ops σ o.guard = true → (yOp E fr ts o sp st rest fun sp' st' rest' => runY E N fr ts ops l sp' st' rest' K) → RW r md E.P N ops (o :: l) Q Dd σ w := fun hs hgt h => q712 hE hG hJ hY h0 hs h hgt hd fun sp' st' rest' σ' w' ρ' h1 h2 h3 => q439 hE hG hJ hY (h2 _ _ h0) h3 h1 (hk.mono h2)
    have pass : ∀ {st : St D}, IS J Jx all fr H ρ sp rest st σ w → gdOk ops σ o.guard = false → runY E N fr ts ops l sp (st.put o.dst (.c undef)) rest K → RW r md E.P N ops (o :: l) Q Dd σ w := fun hs hgf h => by
      obtain ⟨d, op, ty, ps, af, gd⟩ := o; exact RW.pass hgf hd (q439 hE hG hJ hY h0 (hs.put (v := .c undef) rfl d) h hk)
    have gok : ∀ {j want d} {x : Bool}, o.guard = some (j, want) → (ops[j]?).bind (·.dst) = some d → σ d = .bool x → gdOk ops σ o.guard = (x == want) := fun h1 h2 h3 => by
      unfold gdOk; rw [h1]; simp only [h2, h3]
    unfold gdE at h; cases hgd : o.guard with
    | none =>
      simp only [hgd] at h; exact step hs (by rw [hgd]; rfl) h
    | some jw =>
      obtain ⟨j, want⟩ := jw; simp only [hgd] at h; cases hj' : (ops[j]?).bind (·.dst) with
      | none =>
        simp only [hj'] at h; refine pass hs ?_ h; unfold gdOk; rw [hgd]; simp only [hj']
      | some d =>
        simp only [hj'] at h; cases hsl : (getS st.sl d).map (Go.Proofs.YtklnkmdgajiebaaGreat.res st.kn) with
        | none => simp only [hsl] at h
        | some s =>
          obtain ⟨v0, hv0, hv1⟩ := Option.map_eq_some_iff.1 hsl; have hv2 := hs.res (hs.slr _ _ hv0); rw [hv1] at hv2; simp only [hsl] at h
          have ask : ∀ {v : SV D}, Rv H ρ (σ d) v → askF v (cdP want (yOp E fr ts o sp (st.know (.tmp d) true) rest fun sp' st' rest' => runY E N fr ts ops l sp' st' rest' K) (runY E N fr ts ops l sp ((st.know (.tmp d) true).put o.dst (.c undef)) rest K))
              (cdP want (runY E N fr ts ops l sp ((st.know (.tmp d) false).put o.dst (.c undef)) rest K) (yOp E fr ts o sp (st.know (.tmp d) false) rest fun sp' st' rest' => runY E N fr ts ops l sp' st' rest' K)) → RW r md E.P N ops (o :: l) Q Dd σ w := fun hv h => by
            rcases q190 hv h with ⟨e, h⟩ | ⟨e, h⟩
            · have hk := hs.know (c := .tmp d) (b := true) e
              have hgg := gok hgd hj' e; cases want with
              | true => exact step hk hgg h
              | false => exact pass hk hgg h
            · have hk := hs.know (c := .tmp d) (b := false) e
              have hgg := gok hgd hj' e; cases want with
              | true => exact pass hk hgg h
              | false => exact step hk hgg h
          cases s with
          | k b =>
            simp only at h; have hgg := gok hgd hj' (show σ d = .bool b from hv2); cases hb : b == want with
            | true => rw [hb] at h; exact step hs (hgg.trans hb) h
            | false => rw [hb] at h; exact pass hs (hgg.trans hb) h
          | c v =>
            simp only at h; cases hb : q119 v with
            | true => rw [hb] at h; exact h.elim
            | false =>
              rw [hb] at h; refine pass hs ?_ h; unfold gdOk; rw [hgd]; simp only [hj', show σ d = v from hv2]; cases v <;> first | rfl | cases hb
          | b x => exact ask hv2 h
          | p p i => exact ask hv2 h
          | _ => exact h.elim
theorem q497 (hE : E.Ok) (hG : E.G H) (hJ : ∀ k A B, J k A → Below A.heap.size A B → J k B) (hY : YOk E.P ts H lp J Jx all) {md : Nat} {ops : Array Oper} {fl : List Nat} {Dd : List Deferred} {K : Bool → St D → List (TupD D ts) → Prop} {Q : Exit → Act → World → Prop} (hQ : ∀ c a w, ¬ Q (.panic c) a w) (hsel : Region.noSelect ops = true) : ∀ {g : List Nat} {ls : Array Bool} {ρ : RM} {sp : Bool} {st : St D} {rest : List (TupD D ts)} {σ : Nat → Value} {w : World} {a : Act},
    ρ 0 = some (.v (.func (.yield lp) #[] #[])) → Rep N Dd σ a → IS J Jx all fr H ρ sp rest st σ w → runYF E N fr ts ops fl g sp st rest K → flB ops fl g ls = true → (GoesI fr H J Jx all ρ K fun σ' w' => ∀ a', Rep N Dd σ' a' → Q .normal a' w') → q32 (FR none) md E.P ops Q (AgH H) g.length ls a w
  | [], ls, ρ, sp, st, rest, σ, w, a, h0, ha, hs, h, hf, k => ⟨List.isEmpty_iff.1 hf, k _ _ _ _ _ _ h (RM.le.refl _) hs a ha⟩
  | i :: g, ls, ρ, sp, st, rest, σ, w, a, h0, ha, hs, h, hf, k => by
    unfold runYF at h; unfold flB at hf; rw [Bool.and_eq_true, Bool.and_eq_true] at hf; obtain ⟨⟨hr, hfr⟩, hf⟩ := hf; have hr : i ∈ Region.ready .any ops ls := by simpa using hr
    cases ho : ops[i]? with
    | none => simp only [ho] at h
    | some o =>
      simp only [ho] at h; obtain ⟨hd, h⟩ := cifP h; have ag : AgH H w := hs.ag; have hwt : Region.wanted o (yielded ops a.tmps) = gdOk ops σ o.guard := q51 ha; have more : ∀ {st' : St D} {sp' : Bool} {rest' : List (TupD D ts)} {σ' : Nat → Value} {w' : World} {ρ' : RM} {a' : Act}, Rep N Dd σ' a' → runYF E N fr ts ops fl g sp' st' rest' K → RM.le ρ ρ' → IS J Jx all fr H ρ' sp' rest' st' σ' w' → q32 (FR none) md E.P ops Q (AgH H) g.length (ls.setIfInBounds i true) a' w' := fun h1 h2 h3 h4 => q497 hE hG hJ hY hQ hsel (h3 _ _ h0) h1 h4 h2 hf (k.mono h3)
      have quiet : fl.any (Nat.beq i) = true → q191 o = true := fun hq => by
        rw [hq, cond_true, ho, Bool.and_eq_true] at hfr; exact hfr.1
      have first : ∀ {v : Value}, fl.any (Nat.beq i) = true → YG (AgH H) E.P ops o v a → q32 (FR none) md E.P ops Q (AgH H) g.length (ls.setIfInBounds i true) (a.put o.dst v) w → q32 (FR none) md E.P ops Q (AgH H) (g.length + 1) ls a w := fun hq hy hw => by
        rw [hq, cond_true, Bool.and_eq_true] at hfr; exact q244 rfl ho (Region.noSelect_spec hsel) (fun c a w hc => absurd hc (hQ _ _ _)) g.length ls a w ag (Region.free_spec ho hfr.2) hr hy hw
      have only : fl.any (Nat.beq i) = false → wpOpIn (FR none) md E.P ops Q i (fun a' w' => AgH H w' ∧ q32 (FR none) md E.P ops Q (AgH H) g.length (ls.setIfInBounds i true) a' w') a w → q32 (FR none) md E.P ops Q (AgH H) (g.length + 1) ls a w := fun hq hw => by
        rw [hq, cond_false] at hfr; have e : Region.ready .any ops ls = [i] := q490 hfr; refine ⟨fun h => (by rw [e] at h; cases h), fun j hj => ?_⟩; rw [e, List.mem_singleton] at hj; subst hj; exact hw
      have noAbout : ∀ f, o.about E.P w a.eval = some f → (FR none).fn f := fun f _ => FR_fn _ f
      have pass : ∀ {st : St D}, IS J Jx all fr H ρ sp rest st σ w → gdOk ops σ o.guard = false → runYF E N fr ts ops fl g sp (st.put o.dst (.c undef)) rest K → q32 (FR none) md E.P ops Q (AgH H) (g.length + 1) ls a w := fun hs hg h => by
        have hw := more (ha.put hd undef) h (RM.le.refl _) (hs.put (v := .c undef) rfl o.dst); cases hq : fl.any (Nat.beq i) with
        | false =>
          refine only hq ?_; unfold wpOpIn; rw [ho]; simp only; rw [hwt, hg]; exact ⟨noAbout, ag, hw⟩
        | true => exact first hq ⟨.inr ⟨hwt.trans hg, rfl⟩, fun w => q214 (quiet hq) a w⟩ hw
      have step : ∀ {st : St D}, IS J Jx all fr H ρ sp rest st σ w → gdOk ops σ o.guard = true → yFl E fr ts (fl.any (Nat.beq i)) o sp st rest (fun sp' st' rest' => runYF E N fr ts ops fl g sp' st' rest' K) → q32 (FR none) md E.P ops Q (AgH H) (g.length + 1) ls a w := fun {st} hs hg h => by
        unfold yFl at h; cases hq : fl.any (Nat.beq i) with
        | true =>
          rw [hq] at h; simp only at h
          split at h
          · rename_i v hv
            have hs0 := hs; obtain ⟨wy, L, hs, hj⟩ := hs; obtain ⟨⟨x, h1, h2⟩, h3⟩ := q406 hs hv; refine first hq ⟨.inl ⟨hwt.trans hg, fun w' hw' => ?_⟩, fun w => h3 a w⟩ (more (ha.put hd x) h (RM.le.refl _) (hs0.put h1 o.dst))
            rw [ha.eval]; exact h2 w' hw' _ _ _ _
          · exact h.elim
        | false =>
          rw [hq] at h; simp only at h; refine only hq ?_
          let Q1 : Exit → List Deferred → (Nat → Value) → World → Prop := fun e D' σ' w' => match e with
            | .normal => D' = Dd ∧ AgH H w' ∧ ∀ a', Rep N Dd σ' a' → q32 (FR none) md E.P ops Q (AgH H) g.length (ls.setIfInBounds i true) a' w'
            | _ => False
          have h1 : RW none md E.P N ops [o] Q1 Dd σ w := q712 hE hG hJ hY h0 hs h hg hd fun sp' st' rest' σ' w' ρ' g1 g2 g3 => RW.nil ⟨rfl, g3.ag, fun a' ha' => more ha' g1 g2 g3⟩; have h2 := h1 a ha; unfold wpListIn at h2; unfold wpOpIn; rw [ho]; simp only; rw [hwt, hg] at h2 ⊢; simp only [if_true] at h2 ⊢; refine Oper.wpIn_QK (fun a' w' hk => ?_) (fun e a' w' hne hk => ?_) h2
          · obtain ⟨D', σ', g1, g2, g3, g4⟩ := (show lift N Q1 .normal a' w' from hk)
            subst g2; exact ⟨g3, g4 a' g1⟩
          · obtain ⟨D', σ', g1, g2⟩ := hk
            cases e with
            | normal => exact absurd rfl hne
            | _ => exact g2.elim
      have gok : ∀ {j want d} {x : Bool}, o.guard = some (j, want) → (ops[j]?).bind (·.dst) = some d → σ d = .bool x → gdOk ops σ o.guard = (x == want) := fun h1 h2 h3 => by
        unfold gdOk; rw [h1]; simp only [h2, h3]
      unfold gdE at h; cases hgd : o.guard with
      | none =>
        simp only [hgd] at h; exact step hs (by rw [hgd]; rfl) h
      | some jw =>
        obtain ⟨j, want⟩ := jw; simp only [hgd] at h; cases hj : (ops[j]?).bind (·.dst) with
        | none =>
          simp only [hj] at h; refine pass hs ?_ h; unfold gdOk; rw [hgd]; simp only [hj]
        | some d =>
          simp only [hj] at h; cases hsl : (getS st.sl d).map (Go.Proofs.YtklnkmdgajiebaaGreat.res st.kn) with
          | none => simp only [hsl] at h
          | some s =>
            obtain ⟨v0, hv0, hv1⟩ := Option.map_eq_some_iff.1 hsl; have hv2 := hs.res (hs.slr _ _ hv0); rw [hv1] at hv2; simp only [hsl] at h
            have ask : ∀ {v : SV D}, Rv H ρ (σ d) v → askF v (cdP want (yFl E fr ts (fl.any (Nat.beq i)) o sp (st.know (.tmp d) true) rest (fun sp' st' rest' => runYF E N fr ts ops fl g sp' st' rest' K)) (runYF E N fr ts ops fl g sp ((st.know (.tmp d) true).put o.dst (.c undef)) rest K))
                (cdP want (runYF E N fr ts ops fl g sp ((st.know (.tmp d) false).put o.dst (.c undef)) rest K) (yFl E fr ts (fl.any (Nat.beq i)) o sp (st.know (.tmp d) false) rest (fun sp' st' rest' => runYF E N fr ts ops fl g sp' st' rest' K))) → q32 (FR none) md E.P ops Q (AgH H) (g.length + 1) ls a w := fun hv h => by
              rcases q190 hv h with ⟨e, h⟩ | ⟨e, h⟩
              · have hk := hs.know (c := .tmp d) (b := true) e
                have hgg := gok hgd hj e; cases want with
                | true => exact step hk hgg h
                | false => exact pass hk hgg h
              · have hk := hs.know (c := .tmp d) (b := false) e
                have hgg := gok hgd hj e; cases want with
                | true => exact pass hk hgg h
                | false => exact step hk hgg h
            cases s with
            | k b =>
              simp only at h; have hgg := gok hgd hj (show σ d = .bool b from hv2); cases hb : b == want with
              | true => rw [hb] at h; exact step hs (hgg.trans hb) h
              | false => rw [hb] at h; exact pass hs (hgg.trans hb) h
            | c v =>
              simp only at h; cases hb : q119 v with
              | true => rw [hb] at h; exact h.elim
              | false =>
                rw [hb] at h; refine pass hs ?_ h; unfold gdOk; rw [hgd]; simp only [hj, show σ d = v from hv2]; cases v <;> first | rfl | cases hb
            | b x => exact ask hv2 h
            | p p i => exact ask hv2 h
            | _ => exact h.elim
theorem runI_ok (hE : E.Ok) (hG : E.G H) (hJ : ∀ k A B, J k A → Below A.heap.size A B → J k B) (hY : YOk E.P ts H lp J Jx all) : ∀ (c : Code) {pos : List Nat} {sp : Bool} {st : St D} {rest : List (TupD D ts)} {σ : Nat → Value} {w : World} {ρ : RM} {K : Exit → Bool → St D → List (TupD D ts) → Prop} {Q : Exit → List Deferred → (Nat → Value) → World → Prop} {md : Nat},
    ρ 0 = some (.v (.func (.yield lp) #[] #[])) → IS J Jx all fr H ρ sp rest st σ w → runI E N fr ts c pos sp st rest K → (∀ e, GoesI fr H J Jx all ρ (K e) fun σ' w' => Q e [] σ' w') → CW none md E.P N c Q [] σ w := by
  intro c
  induction c with
  | skip => intro pos sp st rest σ w ρ K Q md h0 hs h hk; exact CW.skip (hk _ _ _ _ _ _ _ h (RM.le.refl _) hs)
  | ret => intro pos sp st rest σ w ρ K Q md h0 hs h hk; exact CW.ret (hk _ _ _ _ _ _ _ h (RM.le.refl _) hs)
  | exit id => intro pos sp st rest σ w ρ K Q md h0 hs h hk; exact CW.exit (hk _ _ _ _ _ _ _ h (RM.le.refl _) hs)
  | region id ops draw =>
    intro pos sp st rest σ w ρ K Q md h0 hs h hk; unfold runI at h; cases draw with
    | false =>
      obtain ⟨l⟩ := ops; exact CW.region (q439 hE hG hJ hY h0 hs h (hk .normal))
    | true =>
      simp only at h
      split at h
      · rename_i pe hpe
        split at h
        · rename_i g hrw
          intro a ha; obtain ⟨hc, h⟩ := cifP h; rw [Bool.and_eq_true, Bool.and_eq_true] at hc; obtain ⟨hc1, hc2, hc3⟩ := hc
          let Q1 : Exit → Act → World → Prop := fun e a w => match e with
            | .normal => lift N Q .normal a w
            | _ => False
          have hs' : IS J Jx all fr H ρ sp rest st σ { w with drawn := w.drawn + 1 } := by
            obtain ⟨wy, L, hs, hj⟩ := hs; exact ⟨wy, L, ⟨hs.mem.drew, hs.sl, hs.bk, hs.fr, hs.kn, hs.nx⟩, hj⟩
          have h1 := q497 (Q := Q1) (md := md) (Dd := []) hE hG hJ hY (fun _ _ _ hq => hq) hc1 h0 ha hs' h hc3 fun sp' st' rest' σ' w' ρ' g1 g2 g3 a' ha' => ⟨[], σ', ha', hk _ _ _ _ _ _ _ g1 g2 g3⟩
          rw [Nat.eq_of_beq_eq_true hc2] at h1; refine wpIn_mono (wpIn_region_any hE.mo h1.any) fun e a' w' hq => ?_; cases e with
          | normal => exact hq
          | _ => exact hq.elim
        · exact h.elim
      · exact h.elim
  | cond c a b iha ihb =>
    intro pos sp st rest σ w ρ K Q md h0 hs h hk; unfold runI at h; cases hc : (evO st.sl c).map (Go.Proofs.YtklnkmdgajiebaaGreat.res st.kn) with
    | none => simp only [hc] at h
    | some s =>
      obtain ⟨v0, hv0, hv1⟩ := Option.map_eq_some_iff.1 hc; have hv2 := hs.res (q30 hs.slr hv0); rw [hv1] at hv2; simp only [hc] at h
      have ask : askF s (runI E N fr ts a (2 :: pos) sp (st.know c true) rest K) (runI E N fr ts b (3 :: pos) sp (st.know c false) rest K) → CW none md E.P N (.cond c a b) Q [] σ w := fun h => by
        rcases q190 hv2 h with ⟨e, h⟩ | ⟨e, h⟩
        · exact CW.cond_true e (iha h0 (hs.know e) h hk)
        · exact CW.cond_false e (ihb h0 (hs.know e) h hk)
      cases s with
      | k x =>
        cases x with
        | true => exact CW.cond_true hv2 (iha h0 hs h hk)
        | false => exact CW.cond_false hv2 (ihb h0 hs h hk)
      | _ => exact ask h
  | block id c ih =>
    intro pos sp st rest σ w ρ K Q md h0 hs h hk; refine CW.block (ih h0 hs h fun e => ?_); intro sp' st' rest' σ' w' ρ' h1 h2 h3; cases e with
    | exit id' =>
      show bif Nat.beq id' id then Q .normal [] σ' w' else Q (.exit id') [] σ' w'; have h1 : cdP (Nat.beq id' id) (K .normal sp' st' rest') (K (.exit id') sp' st' rest') := h1; cases hb : Nat.beq id' id with
      | true => rw [hb] at h1; exact hk _ _ _ _ _ _ _ h1 h2 h3
      | false => rw [hb] at h1; exact hk _ _ _ _ _ _ _ h1 h2 h3
    | _ => exact hk _ _ _ _ _ _ _ h1 h2 h3
  | seq a b iha ihb =>
    intro pos sp st rest σ w ρ K Q md h0 hs h hk; unfold runI at h; refine CW.seq (iha h0 hs h fun e => ?_); intro sp' st' rest' σ' w' ρ' h1 h2 h3; cases e with
    | normal => exact ihb (h2 _ _ h0) h3 h1 fun e => (hk e).mono h2
    | _ => exact hk _ _ _ _ _ _ _ h1 h2 h3
  | loop c ih =>
    intro pos sp st rest σ w ρ K Q md h0 hs h hk; unfold runI at h
    split at h
    · rename_i pe hpe
      obtain ⟨wy, L, hs, hj⟩ := hs; obtain ⟨ρ1, g1, g2⟩ := hs.tag
      split at h
      · rename_i s0 hs0
        obtain ⟨m, hm⟩ := h; generalize hstep : (fun (q : List (TupD D ts) × TupV D pe.tp.vts) (rec : List (TupD D ts) × TupV D pe.tp.vts → Prop) => _) = step at hm; obtain ⟨ρ2, L2, st2, e1, e2, e3⟩ := q135 (kn := st.tag.kn) g2.nx (Hp.le.refl _) (RM.le.refl _) g2.kn g2.fr g2 hs0; refine CW.loop (β := Nat) (fun n σ w => ∃ rest s ρ' st', RM.le ρ1 ρ' ∧ makeE pe.tp st.tag.nx st.tag.kn s = some st' ∧ IS J Jx all fr H ρ' false rest st' σ w ∧ LoopN step n (rest, s)) (fun n => n) m ⟨rest, s0, ρ2, st2, e2, e1, ⟨wy, L2, e3, hj⟩, hm⟩ ?_
        rintro n σ w ⟨rest, s, ρ', st', f1, f2, f3, f8⟩
        cases n with
        | zero => exact f8.elim
        | succ n =>
          have f8 : step (rest, s) (LoopN step n) := f8; rw [← hstep] at f8; simp only [f2] at f8
          split at f8
          · refine ih (f1 _ _ (g1 _ _ h0)) f3 f8 fun e => ?_
            intro sp3 st3 rest3 σ3 w3 ρ3 h1 h2 h3; cases e with
            | normal =>
              show [] = [] ∧ _; refine ⟨rfl, ?_⟩; simp only at h1; cases sp3 with
              | true => exact h1.elim
              | false =>
                simp only at h1
                split at h1
                · rename_i s' hfill
                  obtain ⟨wy3, L3, hs3, hj3⟩ := h3; obtain ⟨ρ4, L4, st4, i1, i2, i3⟩ := q135 (kn := st.tag.kn) g2.nx (Hp.le.refl _) (f1.trans h2) g2.kn g2.fr hs3 hfill; exact ⟨n, ⟨rest3, s', ρ4, st4, i2, i1, ⟨wy3, L4, i3, hj3⟩, by rw [hstep] at h1; exact h1⟩, Nat.lt_succ_self _⟩
                · exact h1.elim
            | _ => exact hk _ _ _ _ _ _ _ h1 ((g1.trans f1).trans h2) h3
          · exact f8.elim
      · exact h.elim
    · exact h.elim
  | rangeFunc f ps a b _ _ => intro pos sp st rest σ w ρ K Q md h0 hs h hk; exact h.elim
  | scope c _ => intro pos sp st rest σ w ρ K Q md h0 hs h hk; exact h.elim
  | label l => intro pos sp st rest σ w ρ K Q md h0 hs h hk; exact h.elim
  | goto l => intro pos sp st rest σ w ρ K Q md h0 hs h hk; exact h.elim
  | refuse s => intro pos sp st rest σ w ρ K Q md h0 hs h hk; exact h.elim
def ptrsE : Nat → List Nat → List (SV D)
  | _, [] => []
  | n, _ :: r => .ptr n 0 :: ptrsE (n + 1) r
def frE : Nat → List Nat → List (List (SV D)) → List (Nat × Blk D)
  | n, t :: r, c :: m => (n, .fbx t c) :: frE (n + 1) r m
  | _, _, _ => []
theorem q410 {P : Program} {tb : Tb D} (htb : TbOk tb) : ∀ {cs : List Nat} {x : TupD D cs} {lb : List Value} {ls : List (List (SV D))} {n : Nat} {ρ0 : RM}, CapsR H cs x lb → tupC tb cs x = some ls → (∀ id, n ≤ id → ρ0 id = none) → ∃ ρ, RM.le ρ0 ρ ∧ (∀ id, n + cs.length ≤ id → ρ id = none) ∧ RvL H ρ lb (ptrsE (D := D) n cs) ∧ BkR H ρ (frE n cs ls) []
  | [], _, lb, ls, n, ρ0, h, hl, hn => by
    cases hl; exact ⟨ρ0, RM.le.refl _, hn, h, rfl⟩
  | t :: r, x, lb, ls, n, ρ0, ⟨b, us, q, e, h1, h2, h3⟩, hl, hn => by
    rw [tupC] at hl; cases ha : toC tb t x.1 with
    | none => simp only [ha] at hl; cases hl
    | some a =>
      cases hb : tupC tb r x.2 with
      | none => simp only [ha, hb] at hl; cases hl
      | some m =>
        simp only [ha, hb] at hl; cases hl; obtain ⟨f1, f2⟩ := q82 hn (.b b); obtain ⟨ρ, g1, g2, g3, g4⟩ := q410 (P := P) htb h3 hb f2; have hp : ρ n = some (.b b) := g1 _ _ (RM.put_same _ _ _); refine ⟨ρ, f1.trans g1, fun id hid => g2 id (by rw [List.length_cons] at hid; omega), ⟨_, q, e, ⟨b, hp, rfl⟩, g3⟩, [], [], rfl, ⟨rfl, b, us, hp, h1, q102 htb ha h2⟩, g4⟩
def iterF (E : Env D) (f : Nat) (cs ts : List Nat) (x : TupD D cs) (l : List (TupD D ts)) : Prop := match tupC E.tb cs x with
  | some ls => match E.P.funcs[f]? with
    | some fn => match fn.body with
      | some c => match fn.results.toList with
        | [] => cdP (Nat.ble (cs.length + 1) fn.ntmps) (runI E fn.ntmps (frE 1 cs ls) ts c [] false ⟨q77 0 (.kp 0 :: ptrsE 1 cs), [], [], 1 + cs.length⟩ l fun e sp _ rest => cdP (isEnd e) (match sp with
          | true => True
          | false => rest = []) False) False
        | _ :: _ => False
      | none => False
    | none => False
  | none => False
theorem It.lift (hE : E.Ok) (it : It D) (h : ∀ x l, it.W x l → iterF E it.f it.cs it.ts x l) : it.Ok E.P E.G := by
  intro x l hW H lb hG hC lp J Jx W hag hJ hJx hY hJ0; have hF := h x l hW; unfold iterF at hF
  split at hF
  · rename_i ls hls
    split at hF
    · rename_i fn hfn
      split at hF
      · rename_i c hc
        split at hF
        · rename_i hres
          obtain ⟨hN, hF⟩ := cifP hF; obtain ⟨f1, f2⟩ := q82 (ρ := fun _ => none) (nx := 0) (fun _ _ => rfl) (.v (.func (.yield lp) #[] #[])); obtain ⟨ρ, g1, g2, g3, g4⟩ := q410 (P := E.P) hE.tb hC hls f2; have h0 : ρ 0 = some (.v (.func (.yield lp) #[] #[])) := g1 _ _ (RM.put_same _ _ _); have hv : RvL H ρ (Value.func (.yield lp) #[] #[] :: lb) (.kp 0 :: ptrsE 1 it.cs) := ⟨_, lb, rfl, h0, g3⟩
          refine q199 hfn hc (by
            have hlen := RvL.length g3
            have hp : ∀ (n : Nat) (cs : List Nat), (ptrsE (D := D) n cs).length = cs.length := fun n cs => by
              induction cs generalizing n with
              | nil => rfl
              | cons _ _ ih => simp [ptrsE, ih]
            have := Nat.le_of_ble_eq_true hN
            simp [hlen, hp]; exact this) ?_
          refine runI_ok (all := l) (J := J) (Jx := Jx) (sp := false) (rest := l) (H := H) (ρ := ρ) hE hG hJ (fun k A0 vs hk hvs hJk hA => hY k A0 vs hk hvs hJk hA) c h0 ⟨W, [], ⟨Mem.start hag, q98 hv, (show BkR H ρ ([] : List (Nat × Blk D)) [] from rfl), g4, (fun _ _ h => by cases h), fun id hid => g2 id hid⟩, 0, Nat.zero_le _, hJ0, rfl⟩ hF fun e => ?_; intro sp' st' rest' σ' w' ρ' h1 h2 h3; obtain ⟨wy3, L3, h3, hj3⟩ := h3; have h4 := hj3.below hJ hJx h3.mem.below; obtain ⟨he, h1⟩ := cifP h1; obtain ⟨ux, e1, e2⟩ := q172 (vs := []) hE.tb h3 (by rw [hres]; rfl); refine ⟨q136 he, rfl, q209 ux, e2, ?_⟩; cases sp' with
          | true =>
            obtain ⟨k, hk, hx⟩ := h4; exact .inr ⟨k, hk, hx⟩
          | false =>
            obtain ⟨k, hkn, hk, hr⟩ := h4; have h1 : rest' = [] := h1; rw [h1] at hr; have hkl : l.length ≤ k := List.drop_eq_nil_iff.1 hr.symm; rw [show k = l.length by omega] at hk; exact .inl hk
        · exact hF.elim
      · exact hF.elim
    · exact hF.elim
  · exact hF.elim
end
end
section
section
variable {D : Nat → Type} [∀ t, Dt (D t)]
variable {E : Env D} {w0 w : World} {H0 H : Hp} {ρ : RM} {L : List Ent} {st : St D} {σ : Nat → Value}
theorem retF_ok (hE : E.Ok) {fn : Func} {rs : List Nat} {own : List (List Bool)} {Φ : TupD D rs → Prop} (h1 : retF E.P E.tb fn rs own Φ st) (hs : Sat [] [] w0 H0 [] H ρ L st σ w) :
    ∃ ux H2 S, (∀ a, Rep fn.ntmps [] σ a → (results fn a.tmps).run E.P w = .ok (q209 ux) w) ∧ Mem w0 H0 w H2 S ∧ ∃ y, Φ y ∧ ResR E.P E.tb rs own y H2 (q209 ux) S := by
  unfold retF at h1
  split at h1
  · rename_i v1 hv1
    split at h1
    · rename_i ls0 hl0
      split at h1
      · rename_i us hus
        split at h1
        · rename_i ls1 hl1
          split at h1
          · rename_i ps hps
            split at h1
            · rename_i y hy
              obtain ⟨H2, L2, k1, k2⟩ := hs.frzL (q114 own ls0); obtain ⟨ux, e1, e2⟩ := q172 hE.tb k2 hus; have hkn := (q282 (q114 own ls0) st).2.1; have e3 := q265 k2 e1; rw [hkn] at e3; obtain ⟨cs2, e4, e5⟩ := q192 e3 hl1; obtain ⟨q, e6, e7⟩ := q370 hE.tb hy; have hM2 := k2.mem; obtain ⟨S, i1, i2⟩ := q438 (X := []) (by simpa using hM2) k2.bk e5 hps e7; refine ⟨ux, H2, S, e2, by simpa using i1, y, h1, ?_⟩; intro nx ρ0 hn0 s b m hres; unfold resE at hres; rw [e6] at hres; simp only at hres
              split at hres
              · rename_i ls' b' m' ho
                split at hres
                · rename_i vs' hp
                  cases hres; obtain ⟨ρ2, j1, j2, j3, j3', j4, j5⟩ := i2 nx ρ0 _ _ _ hn0 ho; exact ⟨ρ2, j1, j2, j3, j3', q284 (q173 e4 j4 hp), j5⟩
                · cases hres
              · cases hres
            · exact h1.elim
          · exact h1.elim
        · exact h1.elim
      · exact h1.elim
    · exact h1.elim
  · exact h1.elim
def recA : List Oper → Option (Nat × Nat)
  | [⟨some a, .call ⟨.builtin .recover, xs, _⟩, _, _, _, none⟩, ⟨some b, .assign (.tmp c), _, _, _, none⟩] => bif Nat.beq c a && Nat.beq xs.size 0 then some (a, b) else none
  | _ => none
def cloF (E : Env D) (n : Nat) (g : Nat) (caps : List (SV D)) (pv : Value) (st : St D) (K : St D → Prop) : Prop := match E.P.funcs[g]? with
  | some gn => match gn.body with
    | some (.seq (.region _ ops false) rest) => match recA ops.toList with
      | some (a, b) => cdP (entB E.P g && (Nat.ble caps.length gn.ntmps && (Nat.blt a gn.ntmps && (Nat.blt b gn.ntmps && Nat.beq gn.results.size 0))))
          (runC E (callX E n) gn.ntmps true rest [1, 9] [] ⟨setS (setS (q77 0 caps) a (.c pv)) b (.c pv), st.bk, st.kn, st.nx⟩ fun e st' => cdP (isEnd e) (K ⟨st.sl, st'.bk, st'.kn, st'.nx⟩) False) False
      | none => False
    | _ => False
  | none => False
def panV : Exit → Option Value
  | .panic [⟨v, false, false⟩] => some v
  | _ => none
def dfrT : Oper → Option Nat
  | ⟨none, .defer ⟨.value (.tmp t), xs, _⟩, _, _, _, none⟩ => bif Nat.beq xs.size 0 then some t else none
  | _ => none
theorem recA_ok {l : List Oper} {a b : Nat} (h : recA l = some (a, b)) : ∃ ts ty ps af ty' ps' af', l = [⟨some a, .call ⟨.builtin .recover, #[], ts⟩, ty, ps, af, none⟩, ⟨some b, .assign (.tmp a), ty', ps', af', none⟩] := by
  unfold recA at h
  split at h
  · rename_i a0 xs ts ty ps af b0 c ty' ps' af'
    have hh := cif h; clear h; obtain ⟨h1, h2⟩ := hh; cases h2; rw [Bool.and_eq_true] at h1; obtain rfl := Nat.eq_of_beq_eq_true h1.1; obtain rfl : xs = #[] := Array.eq_empty_of_size_eq_zero (Nat.eq_of_beq_eq_true h1.2); exact ⟨ts, ty, ps, af, ty', ps', af', rfl⟩
  · cases h
section
variable {P : Program}
theorem q287 {fn : Func} {R : Ending → World → Prop} {tm : Array Value} {B : List Deferred} {u : FrameMode} (hu : u ≠ .run) {X : List Ent} : ∀ (ms : List Nat) {w : World}, Mem w0 H0 w H (mkO ms ++ X) → (∀ w', Mem w0 H0 w' H X → LeavesInM Fence.wide 0 P fn tm R B u w') → LeavesInM Fence.wide 0 P fn tm R (mkD ms ++ B) u w
  | [], w, hM, k => k w hM
  | b :: ms, _, hM, k => ⟨hu, .inl ⟨b, _, rfl, run_takeDeferred (hM.objAt (k := 0) rfl), q287 hu ms ((hM.putObj 0 rfl (.deferred none)).sub (List.sublist_cons_self _ _)) k⟩⟩
theorem lvM_clo {fn gn : Func} {R : Ending → World → Prop} {tm : Array Value} {g a b id : Nat} {ops : Array Oper} {rest : Code} {lb : List Value} {u u' : FrameMode} {v : Value} {w : World} (hen : Enters P g) (hgn : P.funcs[g]? = some gn) (hbd : gn.body = some (.seq (.region id ops false) rest)) (hrec : recA ops.toList = some (a, b)) (hres : gn.results = #[])
    (ha : dstOk (some a) gn.ntmps = true) (hb : dstOk (some b) gn.ntmps = true) (hN : lb.length ≤ gn.ntmps) (hm : (u = .returning ∧ v = .nilIface ∧ u' = .returning) ∨ (u = .panicking [⟨v, false, false⟩] ∧ u' = .panicking [⟨v, true, false⟩]))
    (h : CW none 0 P gn.ntmps rest (fun e D _ w' => (e = .ret ∨ e = .normal) ∧ D = [] ∧ LeavesInM Fence.wide 0 P fn tm R [] .returning w') [] (upd (upd (sl (enumA 0 lb) fun _ => undef) (some a) v) (some b) v) w) :
    LeavesInM Fence.wide 0 P fn tm R [⟨.fn (.func g) lb.toArray, #[]⟩] u w := by
  have hu : u ≠ .run := by rcases hm with ⟨rfl, _⟩ | ⟨rfl, _⟩ <;> simp
  have hset : settle u' = .returning := by rcases hm with ⟨_, _, rfl⟩ | ⟨_, rfl⟩ <;> rfl
  refine ⟨hu, .inr ⟨fun h => by simp [Fence.wide] at h, .func g, lb.toArray, g, lb.toArray, rfl, ?_, fun _ _ => trivial, ?_⟩⟩
  · have := hen lb.toArray w
    simp [invoke, this]
  · refine callsDIn_of_wpSIn hgn hbd trivial fun c₀ cs hc => ?_
    obtain ⟨ts, ty, ps, af, ty', ps', af', hl⟩ := recA_ok hrec; obtain ⟨l⟩ := ops; have hl : l = _ := hl; subst hl
    have fin : ∀ cs', cs' = { c₀ with mode := u' } :: cs → rest.wpSIn Fence.wide (0 - 1) P (bodyPostS P gn c₀ cs fun
          | .returned _, u', w' => LeavesInM Fence.wide 0 P fn tm R [] (settle u') w'
          | .panicked chain, u', w' => LeavesInM Fence.wide 0 P fn tm R [] (raised u' chain) w'
          | .outgrown, _, w' => R .outgrown w') ((({ tmps := lb.toArray ++ Array.replicate (gn.ntmps - lb.toArray.size) undef, defers := [] } : Act).put (some a) v).put (some b) v) cs' w := by
      rintro _ rfl
      refine wpSIn_of_wpIn rfl (wpIn_mono (h _ (((q125 lb.toArray gn.ntmps (by simpa using hN)).put ha v).put hb v)) ?_)
      rintro e a' w' ⟨D', σ', h1, he, hD, hL⟩
      have hd : a'.defers = [] := h1.1.trans hD; have hr : (results gn a'.tmps).run P w' = .ok (.tuple #[]) w' := by rw [results_none hres]
      rcases he with rfl | rfl
      · exact ⟨hd, u', rfl, .tuple #[], hr, (show LeavesInM Fence.wide 0 P fn tm R [] (settle u') w' by rw [hset]; exact hL)⟩
      · exact ⟨hd, u', rfl, .tuple #[], hr, (show LeavesInM Fence.wide 0 P fn tm R [] (settle u') w' by rw [hset]; exact hL)⟩
    have hev : (({ tmps := lb.toArray ++ Array.replicate (gn.ntmps - lb.toArray.size) undef, defers := [] } : Act).put (some a) v).eval (.tmp a) = v := by
      rw [((q125 lb.toArray gn.ntmps (by simpa using hN)).put ha v).eval]; show (bif Nat.beq a a then v else _) = v; rw [Nat.beq_refl]; rfl
    refine wpSIn_seq (wpSIn_region ?_); refine And.intro (fun _ _ => trivial) ?_
    show (match recoverD (c₀ :: cs) with
      | some (v, cs') => wpOpsSIn _ _ _ _ _ [1] (Act.put _ (some a) v) cs' w
      | none => wpOpsSIn _ _ _ _ _ [1] (Act.put _ (some a) .nilIface) (c₀ :: cs) w)
    rcases hm with ⟨hu1, rfl, rfl⟩ | ⟨hu1, rfl⟩
    · have hrd : recoverD (c₀ :: cs) = none := by simp [recoverD, hc, hu1]
      rw [hrd]; refine And.intro (fun _ _ => trivial) ?_; rw [if_pos (show Region.wanted _ _ = true from rfl)]; show wpOpsSIn _ _ _ _ _ [] (Act.put _ (some b) (Act.eval _ (.tmp a))) _ w; rw [hev]; exact fin _ (by rw [← hu1, ← hc])
    · have hrd : recoverD (c₀ :: cs) = some (v, { c₀ with mode := .panicking [⟨v, true, false⟩] } :: cs) := by simp [recoverD, hc, hu1]
      rw [hrd]; refine And.intro (fun _ _ => trivial) ?_; rw [if_pos (show Region.wanted _ _ = true from rfl)]; show wpOpsSIn _ _ _ _ _ [] (Act.put _ (some b) (Act.eval _ (.tmp a))) _ w; rw [hev]; exact fin _ rfl
end
def topD (E : Env D) (n : Nat) (f : Nat) (ps rs : List Nat) (own : List (List Bool)) (x : TupD D ps) (Φ : TupD D rs → Prop) : Prop := match tupC E.tb ps x with
  | some ls => match packs E.P ps ls with
    | some vs => match E.P.funcs[f]? with
      | some fn => match fn.body with
        | some (.seq (.region _ ops1 false) (.seq (.region _ ops2 false) rest)) => cdP (Nat.ble vs.length fn.ntmps) (runR E (callX E n) fn.ntmps [] [0] ops1 0 ops1.toList ⟨q77 0 vs, [], [], 0⟩ (fun st1 => match ops2.toList with
          | [o1, o2] => match dfrT o2 with
            | some t => cdP (dstOk o1.dst fn.ntmps && o1.guard.isNone) (stepE E (callX E n) [] [10, 0, 1] o1 st1 (fun st2 => match getS st2.sl t with
              | some (.fn g caps) => runC E (callX E n) fn.ntmps false rest [1, 1] [] st2 fun e st3 => match panV e with
                | some v => cloF E n g caps v st3 (retF E.P E.tb fn rs own Φ)
                | none => cdP (isEnd e) (cloF E n g caps .nilIface st3 (retF E.P E.tb fn rs own Φ)) False
              | _ => False) fun _ _ => False) False
            | none => False
          | _ => False) fun _ _ => False) False
        | _ => False
      | none => False
    | none => False
  | none => False
theorem panV_ok {e : Exit} {v : Value} (h : panV e = some v) : e = .panic [⟨v, false, false⟩] := by
  unfold panV at h
  split at h
  · cases h; rfl
  · cases h
theorem dfrT_ok {o : Oper} {t : Nat} (h : dfrT o = some t) : ∃ ts ty ps af, o = ⟨none, .defer ⟨.value (.tmp t), #[], ts⟩, ty, ps, af, none⟩ := by
  unfold dfrT at h
  split at h
  · rename_i t' xs ts ty ps af
    have hh := cif h; clear h; obtain ⟨h1, h2⟩ := hh; cases h2; obtain rfl : xs = #[] := Array.eq_empty_of_size_eq_zero (Nat.eq_of_beq_eq_true h1); exact ⟨ts, ty, ps, af, rfl⟩
  · cases h
theorem q585 (hE : E.Ok) (n : Nat) (h0 : E.G H0) {fn : Func} {rs : List Nat} {own : List (List Bool)} {Φ : TupD D rs → Prop} {g : Nat} {caps : List (SV D)} {cs : List Value} {v : Value} {u u' : FrameMode} {tm : Array Value} (h : cloF E n g caps v st (retF E.P E.tb fn rs own Φ)) (hs : Sat [] [] w0 H0 [] H ρ L st σ w) (hcs : RvL H ρ cs caps)
    (hm : (u = .returning ∧ v = .nilIface ∧ u' = .returning) ∨ (u = .panicking [⟨v, false, false⟩] ∧ u' = .panicking [⟨v, true, false⟩])) (hra : ∀ D', Rep fn.ntmps D' σ { tmps := tm, defers := D' }) :
    LeavesInM Fence.wide 0 E.P fn tm (fun e w' => ∃ v, e = .returned v ∧ ∃ H' L', Mem w0 H0 w' H' L' ∧ ∃ y, Φ y ∧ ResR E.P E.tb rs own y H' v L') [⟨.fn (.func g) cs.toArray, #[]⟩] u w := by
  unfold cloF at h
  split at h
  · rename_i gn hgn
    split at h
    · rename_i id ops rest hbd
      split at h
      · rename_i a b hrec
        obtain ⟨hq, h⟩ := cifP h; simp only [Bool.and_eq_true] at hq; obtain ⟨q0, q1, q2, q3, q4⟩ := hq; have hl := RvL.length hcs; refine lvM_clo (q132 q0) hgn hbd hrec (Array.eq_empty_of_size_eq_zero (Nat.eq_of_beq_eq_true q4)) q2 q3 (by have := Nat.le_of_ble_eq_true q1; omega) hm ?_; have hsl : SlR H ρ (setS (setS (q77 0 caps) a (.c v)) b (.c v)) (upd (upd (sl (enumA 0 cs) fun _ => undef) (some a) v) (some b) v) := ((q98 hcs).put (v := .c v) (show v = v from rfl) (some a)).put (v := .c v) (show v = v from rfl) (some b); have hs1 : Sat [] [] w0 H0 (mkO [] ++ []) H ρ L (⟨setS (setS (q77 0 caps) a (.c v)) b (.c v), st.bk, st.kn, st.nx⟩ : St D) (upd (upd (sl (enumA 0 cs) fun _ => undef) (some a) v) (some b) v) w := ⟨hs.mem, hsl, hs.bk, hs.fr, hs.kn, hs.nx⟩
        refine q368 (rd := true) (ms := []) (B := []) (R := []) hE h0 rest (q216 hE h0 n) (fun t => Bool.noConfusion t) hs1 h fun e => ?_; intro ms' st5 σ5 w5 H5 ρ5 L5 hk5 hmm hle hρ hs5; obtain rfl : ms' = [] := hmm rfl; obtain ⟨he, hk5⟩ := cifP hk5; have hs6 : Sat [] [] w0 H0 [] H5 ρ5 L5 (⟨st.sl, st5.bk, st5.kn, st5.nx⟩ : St D) σ w5 := ⟨hs5.mem, hs.sl.mono hle hρ, hs5.bk, hs5.fr, hs5.kn, hs5.nx⟩
        obtain ⟨ux, H2, S, r1, r2, y, r3, r4⟩ := retF_ok hE hk5 hs6; exact ⟨q136 he, rfl, q209 ux, r1 _ (hra []), q209 ux, rfl, H2, S, r2, y, r3, r4⟩
      · exact h.elim
    · exact h.elim
  · exact h.elim
theorem RetP.of_codeD {P : Program} {f : FuncId} {fn : Func} {c : Code} {args : Array Value} {H : Hp} {Φ : Hp → Value → List Ent → Prop} (hf : P.funcs[f]? = some fn) (hb : fn.body = some c) (hN : args.size ≤ fn.ntmps)
    (h : ∀ w, Mem w H w H [] → CW none 0 P fn.ntmps c (fun e D σ w1 => ∀ a, Rep fn.ntmps D σ a → bodyPostM Fence.wide 0 P fn (fun e w' => ∃ v, e = .returned v ∧ ∃ H' L', Mem w H w' H' L' ∧ Φ H' v L') e a w1) [] (sl (enumA 0 args.toList) fun _ => undef) w) : RetP P f args H Φ := fun w hw =>
  (callsIn_wide (n := 0).1 (callsIn_of_wp_marks (F := Fence.wide) hf hb trivial (wpIn_mono (h w (Mem.start hw) _ (q125 args fn.ntmps hN)) fun _ a _ ⟨_, _, h1, h2⟩ => h2 a h1))).mono fun _ _ ⟨v, h1, H', L', hM, hΦ⟩ => ⟨v, H', L', h1, hM, hΦ⟩
theorem Ct.liftD (hE : E.Ok) (n : Nat) (c : Ct D) (h : ∀ x Φ, c.W x Φ → topD E n c.f c.ps c.rs c.own x Φ) : c.Ok E.P E.tb E.G := by
  intro x Φ hW H vs hGH hA; have hF := h x Φ hW; unfold topD at hF
  split at hF
  · rename_i ls hls
    split at hF
    · rename_i svs hsv
      split at hF
      · rename_i fn hfn
        split at hF
        · rename_i id1 ops1 id2 ops2 rest hcd
          obtain ⟨hN, hF⟩ := cifP hF; obtain ⟨cs, g1, g2⟩ := q134 (ρ := fun _ => none) hE.tb hA hls; have g3 := q173 g1 g2 hsv; refine RetP.of_codeD hfn hcd (by have := Nat.le_of_ble_eq_true hN; simpa [RvL.length g3] using this) fun w hM => ?_; have hs0 : Sat [] [] w H [] H (fun _ => none) [] (⟨q77 0 svs, [], [], 0⟩ : St D) (sl (enumA 0 vs) fun _ => undef) w := ⟨hM, q98 g3, rfl, rfl, (fun _ _ h => nomatch h), fun _ _ => rfl⟩
          obtain ⟨l1⟩ := ops1; refine CW.seq (CW.region (q365 hE hGH (q216 hE hGH n) hs0 hF ?_ fun _ _ _ _ _ _ _ hf => hf.elim)); intro st1 σ1 w1 H1 ρ1 L1 hk le1 le2 hs1
          split at hk
          · rename_i o1 o2 hops
            split at hk
            · rename_i t ht
              obtain ⟨hgd, hk⟩ := cifP hk; rw [Bool.and_eq_true] at hgd; obtain ⟨l2⟩ := ops2; have hops : l2 = [o1, o2] := hops; subst hops
              have hgo : gdOk (Array.mk [o1, o2]) σ1 o1.guard = true := by
                cases hg : o1.guard with
                | none => rfl
                | some j => rw [hg] at hgd; exact absurd hgd.2 (by simp)
              refine CW.seq (CW.region (q364 hE hGH (q216 hE hGH n) hs1 hk hgo hgd.1 ?_ fun _ _ _ _ _ _ _ hf => hf.elim)); intro st2 σ2 w2 H2 ρ2 L2 hk2 le3 le4 hs2
              split at hk2
              · rename_i g caps hgt
                obtain ⟨ts, ty, ps, af, rfl⟩ := dfrT_ok ht; obtain ⟨cv, e1, e2⟩ := hs2.sl _ _ hgt; refine RW.defer e1 rfl rfl (RW.nil ?_); refine q368 (ms := []) (B := [⟨.fn (.func g) cv.toArray, #[]⟩]) (R := []) hE hGH rest (q216 hE hGH n) (fun _ => ⟨rfl, rfl⟩) hs2 hk2 fun e => ?_; intro ms' st3 σ3 w3 H3 ρ3 L3 hk3 _ le5 le6 hs3; intro a hra; have hd : a.defers = mkD ms' ++ [⟨.fn (.func g) cv.toArray, #[]⟩] := hra.1; have hM3 := hs3.mem.perm (q369 _ _ _ _); have hrp : ∀ D', Rep fn.ntmps D' σ3 { tmps := a.tmps, defers := D' } := fun D' => ⟨rfl, hra.2.1, hra.2.2⟩
                cases hp : panV e with
                | some v =>
                  obtain rfl := panV_ok hp; rw [hp] at hk3; show LeavesInM _ _ _ _ _ _ a.defers _ _; rw [hd]; exact q287 (by simp) ms' hM3 fun w4 hw4 => q585 hE n hGH hk3 (hs3.reR hw4) (RvL.mono le5 le6 _ e2) (.inr ⟨rfl, rfl⟩) hrp
                | none =>
                  rw [hp] at hk3; obtain ⟨he, hk3⟩ := cifP hk3
                  have fin : LeavesInM Fence.wide 0 E.P fn a.tmps (fun e w' => ∃ v, e = .returned v ∧ ∃ H' L', Mem w H w' H' L' ∧ ∃ y, Φ y ∧ ResR E.P E.tb c.rs c.own y H' v L') a.defers .returning w3 := by
                    rw [hd]; exact q287 (by simp) ms' hM3 fun w4 hw4 => q585 hE n hGH hk3 (hs3.reR hw4) (RvL.mono le5 le6 _ e2) (.inl ⟨rfl, rfl, rfl⟩) hrp
                  rcases q136 he with rfl | rfl
                  · exact fin
                  · exact fin
              · exact hk2.elim
            · exact hk.elim
          · exact hk.elim
        · exact hF.elim
      · exact hF.elim
    · exact hF.elim
  · exact hF.elim
end
end
end Go.Proofs.YtklnkmdgajiebaaGreat
namespace Go.Proofs.YtklnkmdgajiebaaGreat
section
section
variable {α : Type} (le : α → α → Bool)
def insG (x : α) : List α → List α
  | [] => [x]
  | y :: r => bif le x y then x :: y :: r else y :: insG x r
def sortG : List α → List α
  | [] => []
  | x :: r => insG le x (sortG r)
end
end
end Go.Proofs.YtklnkmdgajiebaaGreat
namespace Go.Proofs.YtklnkmdgajiebaaGreat
open Go.RowKit
section
section
variable {α : Type} [Inhabited α]
theorem q586 (enc : α → Value) {w : World} {g : Nat} (off : Nat) (d : Array α) {cur : Array Value} {e : TypeId} {fr : Nat × Nat} (h : w.heap[g]? = some (.cells cur e fr)) : (Sort.putRow enc w g off d).heap[g]? = some (.cells (Sort.putCells enc off d cur) e fr) := by
  simp [Sort.putRow, Sort.mapBlock, Array.getElem?_modify, h, Sort.onCells]
theorem q587 (enc : α → Value) {w : World} {g : Nat} (off m : Nat) (d : Array α) (os : Array Obj) {cur : Array Value} {e : TypeId} {fr : Nat × Nat} (h : w.heap[g]? = some (.cells cur e fr)) : (Sort.grow (Sort.putRow enc (Sort.ahead w m) g off d) os).heap[g]? = some (.cells (Sort.putCells enc off d cur) e fr) := by
  have h1 := q586 enc (w := Sort.ahead w m) off d h; rw [Sort.heap_grow_old _ _ (q31 h1)]; exact h1
theorem q327 (enc : α → Value) {w : World} {g k : Nat} (off m : Nat) (d : Array α) (os : Array Obj) (hk : k < w.heap.size) (hne : k ≠ g) : (Sort.grow (Sort.putRow enc (Sort.ahead w m) g off d) os).heap[k]? = w.heap[k]? := by
  have hs : k < (Sort.putRow enc (Sort.ahead w m) g off d).heap.size := by simpa [Sort.putRow, Sort.mapBlock, Sort.ahead] using hk
  rw [Sort.heap_grow_old _ _ hs]; simp [Sort.putRow, Sort.mapBlock, Array.getElem?_modify, Sort.ahead, hne.symm]
theorem q245 (enc : α → Value) {w : World} {g : Nat} (off m : Nat) (d : Array α) (os : Array Obj) : w.grownBy (Sort.grow (Sort.putRow enc (Sort.ahead w m) g off d) os) (some g) :=
  ⟨rfl, rfl, rfl, by simp [Sort.grow, Sort.putRow, Sort.mapBlock, Sort.ahead], fun k hk hne => q327 enc off m d os hk (fun e => hne (by rw [e]))⟩
theorem q371 (enc : α → Value) (d : Array α) (cur : Array Value) (h : d.size ≤ cur.size) : (Sort.putCells enc 0 d cur).toList.take d.size = d.toList.map enc := by
  apply List.ext_getElem?
  intro i; by_cases hi : i < d.size
  · rw [List.getElem?_take_of_lt hi]
    have hc : i < cur.size := by omega
    simp [Sort.putCells, hi, hc]
  · rw [List.getElem?_eq_none, List.getElem?_eq_none]
    · simpa using hi
    · simp; omega
theorem q288 (enc : α → Value) {w : World} {base : Nat} {e : TypeId} {k g n cap : Nat} {s : List Value} (m : Nat) (d : Array α) (os : Array Obj) (ho : w.ownsRow base e k (.slice (some ⟨g, 0, none⟩) n cap) n s) (hd : d.size = n * k) :
    (Sort.grow (Sort.putRow enc (Sort.ahead w m) g 0 d) os).ownsRow base e k (.slice (some ⟨g, 0, none⟩) n cap) n (d.toList.map enc) := by
  obtain ⟨h1, ⟨h2, _⟩ | ⟨g', cap', cur, h2, h3, h4, h5, h6, h7, h8⟩⟩ := ho
  · cases h2
  · cases h2
    refine ⟨by simp [hd], .inr ⟨g, cap, Sort.putCells enc 0 d cur, rfl, h3, q587 enc 0 m d os h4, h5, h6, by simp [Sort.putCells, h7], ?_⟩⟩; rw [← hd]; exact q371 enc d cur (by rw [hd, h7]; exact Nat.mul_le_mul_right _ h5)
theorem q328 {enc : α → Value} {w : World} {base : Nat} {e : TypeId} {k g n cap : Nat} {s : List Value} {d : Array α} (ho : w.ownsRow base e k (.slice (some ⟨g, 0, none⟩) n cap) n s) (hs : s = d.toList.map enc) : Sort.Holds enc w g 0 d ∧ g < w.heap.size := by
  obtain ⟨h1, ⟨h2, _⟩ | ⟨g', cap', cur, h2, h3, h4, h5, h6, h7, h8⟩⟩ := ho
  · cases h2
  · cases h2
    refine ⟨fun j hj => ?_, q31 h4⟩; have hn : d.size = n * k := by rw [← h1, hs]; simp
    have hc : cur[j]? = some (enc d[j]!) := by
      have h9 : (cur.toList.take (n * k))[j]? = some (enc d[j]!) := by
        rw [h8, hs, List.getElem?_map]; simp [hj]
      rw [List.getElem?_take_of_lt (by omega)] at h9; simpa using h9
    refine ⟨?_, ?_⟩
    · simp [World.cell?, h4, hc]
    · simp only [World.frozen?, h4]; simp
end
def insI (x : Int) : List Int → List Int
  | [] => [x]
  | y :: r => if x ≤ y then x :: y :: r else y :: insI x r
def sortI : List Int → List Int
  | [] => []
  | x :: r => insI x (sortI r)
theorem q289 (x : Int) : ∀ l : List Int, (insI x l).Perm (x :: l)
  | [] => List.Perm.refl _
  | y :: r => by
    unfold insI
    split
    · exact List.Perm.refl _
    · exact ((q289 x r).cons y).trans (List.Perm.swap x y r)
theorem q174 : ∀ l : List Int, (sortI l).Perm l
  | [] => List.Perm.refl _
  | x :: r => (q289 x (sortI r)).trans ((q174 r).cons x)
theorem q290 (x : Int) : ∀ l : List Int, l.Pairwise (· ≤ ·) → (insI x l).Pairwise (· ≤ ·)
  | [], _ => by simp [insI]
  | y :: r, h => by
    have h1 := List.pairwise_cons.1 h; unfold insI
    split
    · rename_i hxy
      refine List.pairwise_cons.2 ⟨fun z hz => ?_, h⟩; rcases List.mem_cons.1 hz with rfl | hz
      · exact hxy
      · have := h1.1 z hz; omega
    · rename_i hxy
      refine List.pairwise_cons.2 ⟨fun z hz => ?_, q290 x r h1.2⟩; rcases List.mem_cons.1 ((q289 x r).mem_iff.1 hz) with rfl | hz
      · omega
      · exact h1.1 z hz
theorem q246 : ∀ l : List Int, (sortI l).Pairwise (· ≤ ·)
  | [] => List.Pairwise.nil
  | x :: r => q290 x _ (q246 r)
theorem q440 (l : List Int) : (l.mergeSort fun x y => decide (x ≤ y)) = sortI l := by
  refine List.Perm.eq_of_pairwise (le := fun x y : Int => x ≤ y) (fun a b _ _ h1 h2 => by omega) ?_ (q246 l) ((List.mergeSort_perm l _).trans (q174 l).symm); have := List.pairwise_mergeSort (le := fun x y : Int => decide (x ≤ y)) (fun a b c h1 h2 => by simp at *; omega) (fun a b => by simp; omega) l; simpa using this
theorem DtL.ints {H : Hp} : ∀ {xs : List Int} {cs : List Value}, DtL H cs xs → cs = xs.map (Value.int .i64)
  | [], _, h => h
  | _ :: _, _, ⟨_, _, h, h1, h2⟩ => by rw [h, show _ = [Value.int .i64 _] from h1, DtL.ints h2]; rfl
theorem DtL.ofInts {H : Hp} : ∀ (xs : List Int), DtL H (xs.map (Value.int .i64)) xs
  | [] => rfl
  | x :: xs => ⟨[.int .i64 x], xs.map _, rfl, rfl, DtL.ofInts xs⟩
end
structure q8 where
  Volume : Int
  Start : Int
  Data : List Sec
  deriving DecidableEq
instance dt_api_Write : Dt q8 where
  default := ⟨0, 0, []⟩
  sz := 3
  rd H cs x := ∃ A0 n0 c0 s0, cs = [.int .i64 (x.Volume), .int .i64 (x.Start), .slice A0 n0 c0] ∧ Fz H A0 n0 c0 x.Data s0
  len := fun ⟨A0, n0, c0, s0, h, h0⟩ => by rw [h]; rfl
  mono := fun ⟨A0, n0, c0, s0, h, h0⟩ hle => ⟨A0, n0, c0, s0, h, h0.mono hle⟩
  one := fun ⟨A0, n0, c0, s0, h, h0⟩ => by rw [h]; exact q90 ⟨rfl, rfl, rfl, trivial⟩
structure q13 where
  Capacity : List (BitVec 8)
  Period : BitVec 8
  Latency : BitVec 8
  Apply : BitVec 8
  Sizes : List Int
  Ticks : List (List q8)
  deriving DecidableEq
instance dt_standbytop_RunReplication : Dt q13 where
  default := ⟨[], 0#8, 0#8, 0#8, [], []⟩
  sz := 6
  rd H cs x := ∃ A0 n0 c0 s0, ∃ A1 n1 c1 s1, ∃ A2 n2 c2 s2, cs = [.slice A0 n0 c0, u8 (x.Period), u8 (x.Latency), u8 (x.Apply), .slice A1 n1 c1, .slice A2 n2 c2] ∧ Fz H A0 n0 c0 x.Capacity s0 ∧ Fz H A1 n1 c1 x.Sizes s1 ∧ Fz H A2 n2 c2 x.Ticks s2
  len := fun ⟨A0, n0, c0, s0, A1, n1, c1, s1, A2, n2, c2, s2, h, h0, h1, h2⟩ => by rw [h]; rfl
  mono := fun ⟨A0, n0, c0, s0, A1, n1, c1, s1, A2, n2, c2, s2, h, h0, h1, h2⟩ hle => ⟨A0, n0, c0, s0, A1, n1, c1, s1, A2, n2, c2, s2, h, h0.mono hle, h1.mono hle, h2.mono hle⟩
  one := fun ⟨A0, n0, c0, s0, A1, n1, c1, s1, A2, n2, c2, s2, h, h0, h1, h2⟩ => by rw [h]; exact q90 ⟨rfl, rfl, rfl, rfl, rfl, rfl, trivial⟩
structure q15 where
  Writes : List Int
  Capacity : List Int
  Period : Int
  Latency : Int
  Apply : Int
  deriving DecidableEq
instance dt_api_Trace : Dt q15 where
  default := ⟨[], [], 0, 0, 0⟩
  sz := 5
  rd H cs x := ∃ A0 n0 c0 s0, ∃ A1 n1 c1 s1, cs = [.slice A0 n0 c0, .slice A1 n1 c1, .int .i64 (x.Period), .int .i64 (x.Latency), .int .i64 (x.Apply)] ∧ Fz H A0 n0 c0 x.Writes s0 ∧ Fz H A1 n1 c1 x.Capacity s1
  len := fun ⟨A0, n0, c0, s0, A1, n1, c1, s1, h, h0, h1⟩ => by rw [h]; rfl
  mono := fun ⟨A0, n0, c0, s0, A1, n1, c1, s1, h, h0, h1⟩ hle => ⟨A0, n0, c0, s0, A1, n1, c1, s1, h, h0.mono hle, h1.mono hle⟩
  one := fun ⟨A0, n0, c0, s0, A1, n1, c1, s1, h, h0, h1⟩ => by rw [h]; exact q90 ⟨rfl, rfl, rfl, rfl, rfl, trivial⟩
structure q18 where
  Close : List Int
  Start : List Int
  End : List Int
  Applied : List Int
  Bound : Int
  deriving DecidableEq
instance dt_api_Plan : Dt q18 where
  default := ⟨[], [], [], [], 0⟩
  sz := 5
  rd H cs x := ∃ A0 n0 c0 s0, ∃ A1 n1 c1 s1, ∃ A2 n2 c2 s2, ∃ A3 n3 c3 s3, cs = [.slice A0 n0 c0, .slice A1 n1 c1, .slice A2 n2 c2, .slice A3 n3 c3, .int .i64 (x.Bound)] ∧ Fz H A0 n0 c0 x.Close s0 ∧ Fz H A1 n1 c1 x.Start s1 ∧ Fz H A2 n2 c2 x.End s2 ∧ Fz H A3 n3 c3 x.Applied s3
  len := fun ⟨A0, n0, c0, s0, A1, n1, c1, s1, A2, n2, c2, s2, A3, n3, c3, s3, h, h0, h1, h2, h3⟩ => by rw [h]; rfl
  mono := fun ⟨A0, n0, c0, s0, A1, n1, c1, s1, A2, n2, c2, s2, A3, n3, c3, s3, h, h0, h1, h2, h3⟩ hle => ⟨A0, n0, c0, s0, A1, n1, c1, s1, A2, n2, c2, s2, A3, n3, c3, s3, h, h0.mono hle, h1.mono hle, h2.mono hle, h3.mono hle⟩
  one := fun ⟨A0, n0, c0, s0, A1, n1, c1, s1, A2, n2, c2, s2, A3, n3, c3, s3, h, h0, h1, h2, h3⟩ => by rw [h]; exact q90 ⟨rfl, rfl, rfl, rfl, rfl, trivial⟩
structure q23 where
  sums : List Int
  last : Int
  deriving DecidableEq
instance dt_planner_carrier : Dt q23 where
  default := ⟨[], 0⟩
  sz := 2
  rd H cs x := ∃ A0 n0 c0 s0, cs = [.slice A0 n0 c0, .int .i64 (x.last)] ∧ Fz H A0 n0 c0 x.sums s0
  len := fun ⟨A0, n0, c0, s0, h, h0⟩ => by rw [h]; rfl
  mono := fun ⟨A0, n0, c0, s0, h, h0⟩ hle => ⟨A0, n0, c0, s0, h, h0.mono hle⟩
  one := fun ⟨A0, n0, c0, s0, h, h0⟩ => by rw [h]; exact q90 ⟨rfl, rfl, trivial⟩
structure q10 where
  Number : Int
  Sizes : List Int
  Positions : List Int
  Nodes : List Int
  Writes : List q8
  deriving DecidableEq
instance dt_api_Capture : Dt q10 where
  default := ⟨0, [], [], [], []⟩
  sz := 5
  rd H cs x := ∃ A0 n0 c0 s0, ∃ A1 n1 c1 s1, ∃ A2 n2 c2 s2, ∃ A3 n3 c3 s3, cs = [.int .i64 (x.Number), .slice A0 n0 c0, .slice A1 n1 c1, .slice A2 n2 c2, .slice A3 n3 c3] ∧ Fz H A0 n0 c0 x.Sizes s0 ∧ Fz H A1 n1 c1 x.Positions s1 ∧ Fz H A2 n2 c2 x.Nodes s2 ∧ Fz H A3 n3 c3 x.Writes s3
  len := fun ⟨A0, n0, c0, s0, A1, n1, c1, s1, A2, n2, c2, s2, A3, n3, c3, s3, h, h0, h1, h2, h3⟩ => by rw [h]; rfl
  mono := fun ⟨A0, n0, c0, s0, A1, n1, c1, s1, A2, n2, c2, s2, A3, n3, c3, s3, h, h0, h1, h2, h3⟩ hle => ⟨A0, n0, c0, s0, A1, n1, c1, s1, A2, n2, c2, s2, A3, n3, c3, s3, h, h0.mono hle, h1.mono hle, h2.mono hle, h3.mono hle⟩
  one := fun ⟨A0, n0, c0, s0, A1, n1, c1, s1, A2, n2, c2, s2, A3, n3, c3, s3, h, h0, h1, h2, h3⟩ => by rw [h]; exact q90 ⟨rfl, rfl, rfl, rfl, rfl, trivial⟩
structure q11 where
  Base : Int
  Number : Int
  Time : Int
  Positions : List Int
  Writes : List q8
  deriving DecidableEq
instance dt_api_Cycle : Dt q11 where
  default := ⟨0, 0, 0, [], []⟩
  sz := 5
  rd H cs x := ∃ A0 n0 c0 s0, ∃ A1 n1 c1 s1, cs = [.int .i64 (x.Base), .int .i64 (x.Number), .int .i64 (x.Time), .slice A0 n0 c0, .slice A1 n1 c1] ∧ Fz H A0 n0 c0 x.Positions s0 ∧ Fz H A1 n1 c1 x.Writes s1
  len := fun ⟨A0, n0, c0, s0, A1, n1, c1, s1, h, h0, h1⟩ => by rw [h]; rfl
  mono := fun ⟨A0, n0, c0, s0, A1, n1, c1, s1, h, h0, h1⟩ hle => ⟨A0, n0, c0, s0, A1, n1, c1, s1, h, h0.mono hle, h1.mono hle⟩
  one := fun ⟨A0, n0, c0, s0, A1, n1, c1, s1, h, h0, h1⟩ => by rw [h]; exact q90 ⟨rfl, rfl, rfl, rfl, rfl, trivial⟩
structure q12 where
  Limit : Int
  Kept : List q11
  Applied : List Int
  Lost : List Bool
  deriving DecidableEq
instance dt_api_Fanout : Dt q12 where
  default := ⟨0, [], [], []⟩
  sz := 4
  rd H cs x := ∃ A0 n0 c0 s0, ∃ A1 n1 c1 s1, ∃ A2 n2 c2 s2, cs = [.int .i64 (x.Limit), .slice A0 n0 c0, .slice A1 n1 c1, .slice A2 n2 c2] ∧ Fz H A0 n0 c0 x.Kept s0 ∧ Fz H A1 n1 c1 x.Applied s1 ∧ Fz H A2 n2 c2 x.Lost s2
  len := fun ⟨A0, n0, c0, s0, A1, n1, c1, s1, A2, n2, c2, s2, h, h0, h1, h2⟩ => by rw [h]; rfl
  mono := fun ⟨A0, n0, c0, s0, A1, n1, c1, s1, A2, n2, c2, s2, h, h0, h1, h2⟩ hle => ⟨A0, n0, c0, s0, A1, n1, c1, s1, A2, n2, c2, s2, h, h0.mono hle, h1.mono hle, h2.mono hle⟩
  one := fun ⟨A0, n0, c0, s0, A1, n1, c1, s1, A2, n2, c2, s2, h, h0, h1, h2⟩ => by rw [h]; exact q90 ⟨rfl, rfl, rfl, rfl, trivial⟩
structure q27 where
  trace : q15
  capture : q10
  fanout : q12
  source : List (List Sec)
  target : List (List Sec)
  closed : List (List (List Sec))
  done : List Int
  left : Int
  written : Int
  exposed : Int
  deriving DecidableEq
instance dt_standbytop_runReplica : Dt q27 where
  default := ⟨default, default, default, [], [], [], [], 0, 0, 0⟩
  sz := 21
  rd H cs x := ∃ A0 n0 c0 s0, ∃ A1 n1 c1 s1, ∃ A2 n2 c2 s2, ∃ A3 n3 c3 s3, ∃ A4 n4 c4 s4, ∃ A5 n5 c5 s5, ∃ A6 n6 c6 s6, ∃ A7 n7 c7 s7, ∃ A8 n8 c8 s8, ∃ A9 n9 c9 s9, ∃ A10 n10 c10 s10, ∃ A11 n11 c11 s11, ∃ A12 n12 c12 s12, cs = [.slice A0 n0 c0, .slice A1 n1 c1, .int .i64 (x.trace.Period), .int .i64 (x.trace.Latency), .int .i64 (x.trace.Apply), .int .i64 (x.capture.Number), .slice A2 n2 c2, .slice A3 n3 c3, .slice A4 n4 c4, .slice A5 n5 c5, .int .i64 (x.fanout.Limit), .slice A6 n6 c6, .slice A7 n7 c7, .slice A8 n8 c8, .slice A9 n9 c9, .slice A10 n10 c10, .slice A11 n11 c11, .slice A12 n12 c12, .int .i64 (x.left), .int .i64 (x.written), .int .i64 (x.exposed)] ∧ Fz H A0 n0 c0 x.trace.Writes s0 ∧ Fz H A1 n1 c1 x.trace.Capacity s1 ∧ Fz H A2 n2 c2 x.capture.Sizes s2 ∧ Fz H A3 n3 c3 x.capture.Positions s3 ∧ Fz H A4 n4 c4 x.capture.Nodes s4 ∧ Fz H A5 n5 c5 x.capture.Writes s5 ∧ Fz H A6 n6 c6 x.fanout.Kept s6 ∧ Fz H A7 n7 c7 x.fanout.Applied s7 ∧ Fz H A8 n8 c8 x.fanout.Lost s8 ∧ Fz H A9 n9 c9 x.source s9 ∧ Fz H A10 n10 c10 x.target s10 ∧ Fz H A11 n11 c11 x.closed s11 ∧ Fz H A12 n12 c12 x.done s12
  len := fun ⟨A0, n0, c0, s0, A1, n1, c1, s1, A2, n2, c2, s2, A3, n3, c3, s3, A4, n4, c4, s4, A5, n5, c5, s5, A6, n6, c6, s6, A7, n7, c7, s7, A8, n8, c8, s8, A9, n9, c9, s9, A10, n10, c10, s10, A11, n11, c11, s11, A12, n12, c12, s12, h, h0, h1, h2, h3, h4, h5, h6, h7, h8, h9, h10, h11, h12⟩ => by rw [h]; rfl
  mono := fun ⟨A0, n0, c0, s0, A1, n1, c1, s1, A2, n2, c2, s2, A3, n3, c3, s3, A4, n4, c4, s4, A5, n5, c5, s5, A6, n6, c6, s6, A7, n7, c7, s7, A8, n8, c8, s8, A9, n9, c9, s9, A10, n10, c10, s10, A11, n11, c11, s11, A12, n12, c12, s12, h, h0, h1, h2, h3, h4, h5, h6, h7, h8, h9, h10, h11, h12⟩ hle => ⟨A0, n0, c0, s0, A1, n1, c1, s1, A2, n2, c2, s2, A3, n3, c3, s3, A4, n4, c4, s4, A5, n5, c5, s5, A6, n6, c6, s6, A7, n7, c7, s7, A8, n8, c8, s8, A9, n9, c9, s9, A10, n10, c10, s10, A11, n11, c11, s11, A12, n12, c12, s12, h, h0.mono hle, h1.mono hle, h2.mono hle, h3.mono hle, h4.mono hle, h5.mono hle, h6.mono hle, h7.mono hle, h8.mono hle, h9.mono hle, h10.mono hle, h11.mono hle, h12.mono hle⟩
  one := fun ⟨A0, n0, c0, s0, A1, n1, c1, s1, A2, n2, c2, s2, A3, n3, c3, s3, A4, n4, c4, s4, A5, n5, c5, s5, A6, n6, c6, s6, A7, n7, c7, s7, A8, n8, c8, s8, A9, n9, c9, s9, A10, n10, c10, s10, A11, n11, c11, s11, A12, n12, c12, s12, h, h0, h1, h2, h3, h4, h5, h6, h7, h8, h9, h10, h11, h12⟩ => by rw [h]; exact q90 ⟨rfl, rfl, rfl, rfl, rfl, rfl, rfl, rfl, rfl, rfl, rfl, rfl, rfl, rfl, rfl, rfl, rfl, rfl, rfl, rfl, rfl, trivial⟩
structure q29 where
  c : q10
  part : List Bool
  deriving DecidableEq
instance dt_cycle_division : Dt q29 where
  default := ⟨default, []⟩
  sz := 6
  rd H cs x := ∃ A0 n0 c0 s0, ∃ A1 n1 c1 s1, ∃ A2 n2 c2 s2, ∃ A3 n3 c3 s3, ∃ A4 n4 c4 s4, cs = [.int .i64 (x.c.Number), .slice A0 n0 c0, .slice A1 n1 c1, .slice A2 n2 c2, .slice A3 n3 c3, .slice A4 n4 c4] ∧ Fz H A0 n0 c0 x.c.Sizes s0 ∧ Fz H A1 n1 c1 x.c.Positions s1 ∧ Fz H A2 n2 c2 x.c.Nodes s2 ∧ Fz H A3 n3 c3 x.c.Writes s3 ∧ Fz H A4 n4 c4 x.part s4
  len := fun ⟨A0, n0, c0, s0, A1, n1, c1, s1, A2, n2, c2, s2, A3, n3, c3, s3, A4, n4, c4, s4, h, h0, h1, h2, h3, h4⟩ => by rw [h]; rfl
  mono := fun ⟨A0, n0, c0, s0, A1, n1, c1, s1, A2, n2, c2, s2, A3, n3, c3, s3, A4, n4, c4, s4, h, h0, h1, h2, h3, h4⟩ hle => ⟨A0, n0, c0, s0, A1, n1, c1, s1, A2, n2, c2, s2, A3, n3, c3, s3, A4, n4, c4, s4, h, h0.mono hle, h1.mono hle, h2.mono hle, h3.mono hle, h4.mono hle⟩
  one := fun ⟨A0, n0, c0, s0, A1, n1, c1, s1, A2, n2, c2, s2, A3, n3, c3, s3, A4, n4, c4, s4, h, h0, h1, h2, h3, h4⟩ => by rw [h]; exact q90 ⟨rfl, rfl, rfl, rfl, rfl, rfl, trivial⟩
structure q9 where
  volume : Int
  sector : Int
  deriving DecidableEq
instance dt_coalesce_place : Dt q9 where
  default := ⟨0, 0⟩
  sz := 2
  rd H cs x := cs = [.int .i64 (x.volume), .int .i64 (x.sector)]
  len h := by rw [h]; rfl
  mono h _ := h
  one h := by rw [h]; exact q90 ⟨rfl, rfl, trivial⟩
  ks := some ([.i .i64, .i .i64], fun x => [.i .i64 x.volume, .i .i64 x.sector])
  ksOk := fun _ _ h => by
    cases h; refine ⟨fun _ _ _ => Iff.rfl, fun _ => rfl, fun a b h => ?_⟩; obtain ⟨a_0, a_1⟩ := a; obtain ⟨b_0, b_1⟩ := b; simp only [List.cons.injEq, Sc.i.injEq, true_and, and_true] at h; obtain ⟨e0, e1⟩ := h; subst e0; subst e1; rfl
structure q16 where
  e0 : List Int
  e1 : List Int
  deriving DecidableEq
instance dt_Arr2_int : Dt q16 where
  default := ⟨[], []⟩
  sz := 2
  rd H cs x := ∃ A0 n0 c0 s0, ∃ A1 n1 c1 s1, cs = [.slice A0 n0 c0, .slice A1 n1 c1] ∧ Fz H A0 n0 c0 x.e0 s0 ∧ Fz H A1 n1 c1 x.e1 s1
  len := fun ⟨A0, n0, c0, s0, A1, n1, c1, s1, h, h0, h1⟩ => by rw [h]; rfl
  mono := fun ⟨A0, n0, c0, s0, A1, n1, c1, s1, h, h0, h1⟩ hle => ⟨A0, n0, c0, s0, A1, n1, c1, s1, h, h0.mono hle, h1.mono hle⟩
  one := fun ⟨A0, n0, c0, s0, A1, n1, c1, s1, h, h0, h1⟩ => by rw [h]; exact q90 ⟨rfl, rfl, trivial⟩
instance dtUnit : Dt Unit where
  default := ()
  sz := 0
  rd _ cs _ := cs = []
  len h := by rw [h]; rfl
  mono h _ := h
  one h := by rw [h]; intro u hu; cases hu
structure TyR where
  α : Type
  inst : Dt α
def tyOf (t : Nat) : TyR := bif Nat.beq t 4 then ⟨Bool, inferInstance⟩ else bif Nat.beq t 5 then ⟨BitVec 8, inferInstance⟩ else bif Nat.beq t 3 then ⟨Int, inferInstance⟩ else bif Nat.beq t 70 then ⟨Sec, inferInstance⟩ else bif Nat.beq t 73 then ⟨q8, inferInstance⟩ else bif Nat.beq t 47 then ⟨List q8, inferInstance⟩ else bif Nat.beq t 26 then ⟨q13, inferInstance⟩ else bif Nat.beq t 28 then ⟨q15, inferInstance⟩ else bif Nat.beq t 32 then ⟨q18, inferInstance⟩ else bif Nat.beq t 33 then ⟨Int, inferInstance⟩ else bif Nat.beq t 23 then ⟨List Int, inferInstance⟩ else bif Nat.beq t 94 then ⟨q23, inferInstance⟩ else bif Nat.beq t 66 then ⟨Ptr q23, inferInstance⟩ else bif Nat.beq t 24 then ⟨List (List q8), inferInstance⟩ else bif Nat.beq t 71 then ⟨List Sec, inferInstance⟩ else bif Nat.beq t 55 then ⟨List (List Sec), inferInstance⟩ else bif Nat.beq t 54 then ⟨List (List Sec), inferInstance⟩ else bif Nat.beq t 49 then ⟨q10, inferInstance⟩ else bif Nat.beq t 103 then ⟨q11, inferInstance⟩ else bif Nat.beq t 53 then ⟨q12, inferInstance⟩ else bif Nat.beq t 68 then ⟨BitVec 64, inferInstance⟩ else bif Nat.beq t 160 then ⟨BitVec 64, inferInstance⟩ else bif Nat.beq t 58 then ⟨q27, inferInstance⟩ else bif Nat.beq t 38 then ⟨Ptr q27, inferInstance⟩ else bif Nat.beq t 133 then ⟨q29, inferInstance⟩ else bif Nat.beq t 184 then ⟨q9, inferInstance⟩ else bif Nat.beq t 50 then ⟨List q11, inferInstance⟩ else bif Nat.beq t 51 then ⟨List Bool, inferInstance⟩ else bif Nat.beq t 114 then ⟨q16, inferInstance⟩ else ⟨Unit, dtUnit⟩
abbrev DD (t : Nat) : Type := (tyOf t).α
instance dtDD (t : Nat) : Dt (DD t) := (tyOf t).inst
def xI : SV DD → Option Int
 | .i .i64 n => some n
 | _ => none
def xW : SV DD → Option (BitVec 64)
 | .w x => some x
 | _ => none
def xY : SV DD → Option (BitVec 8)
 | .y x => some x
 | _ => none
def xT : SV DD → Option ByteArray
 | .st x => some x
 | _ => none
def xS (e : Nat) : SV DD → Option (List (DD e))
 | .fsl e' xs => castL e' e xs
 | .nil => some []
 | _ => none
theorem xI_cq {a : SV DD} {n : Int} (h : xI a = some n) : CQ a (.i .i64 n) := by
  unfold xI at h
  split at h
  · cases h; exact .inr ⟨rfl, rfl, fun _ _ _ h => h⟩
  · cases h
theorem xW_cq {a : SV DD} {n : BitVec 64} (h : xW a = some n) : CQ a (.w n) := by
  unfold xW at h
  split at h
  · cases h; exact .inr ⟨rfl, rfl, fun _ _ _ h => h⟩
  · cases h
theorem xY_cq {a : SV DD} {n : BitVec 8} (h : xY a = some n) : CQ a (.y n) := by
  unfold xY at h
  split at h
  · cases h; exact .inr ⟨rfl, rfl, fun _ _ _ h => h⟩
  · cases h
theorem xB_cq {a : SV DD} {n : Bool} (h : q321 a = some n) : CQ a (.b n) := by
  cases a <;> first | (cases h; exact .inr ⟨rfl, rfl, fun _ _ _ h => h⟩) | cases h
theorem xS_cq {e : Nat} {a : SV DD} {n : List (DD e)} (h : xS e a = some n) : CQ a (.fsl e n) := by
  unfold xS at h
  split at h
  · obtain ⟨he, h1⟩ := q71 h
    subst he; subst h1; exact .inl ⟨_, _, rfl, .inl rfl⟩
  · cases h; exact .inl ⟨_, _, rfl, .inr ⟨rfl, rfl⟩⟩
  · cases h
theorem bindS {α β : Type} {o : Option α} {f : α → Option β} {x : β} (h : o.bind f = some x) : ∃ v, o = some v ∧ f v = some x := Option.bind_eq_some_iff.1 h
def ofc4 : List (SV DD) → Option (DD 4)
 | [a0] => (q321 a0).bind fun v0 => some v0
 | _ => none
def ce4 : CE DD := ⟨4, fun x => [.b (x)], ofc4, none⟩
theorem ceOk4 : ce4.Ok where
  rdi := @fun H ρ cs x => ⟨fun h => by
    obtain h := (show Dt.rd (α := Bool) H cs x from h)
    subst h; exact ⟨_, _, rfl, rfl, rfl⟩, fun h => by
    obtain ⟨v0, r0, e0, p0, e⟩ := h; have e : r0 = [] := e; subst e; subst e0; have p0 : v0 = _ := p0; subst p0
    exact (show Dt.rd (α := Bool) H _ x from rfl)⟩
  cq := @fun l x h => by
    change ofc4 l = some x at h; unfold ofc4 at h
    split at h
    · obtain ⟨v0, h0, h⟩ := bindS h
      cases h; exact ⟨_, _, rfl, xB_cq h0, rfl⟩
    · cases h
  eqc := fun d a b c1 c2 hd h1 h2 => by cases hd
def ofc5 : List (SV DD) → Option (DD 5)
 | [a0] => (xY a0).bind fun v0 => some v0
 | _ => none
def ce5 : CE DD := ⟨5, fun x => [.y (x)], ofc5, none⟩
theorem ceOk5 : ce5.Ok where
  rdi := @fun H ρ cs x => ⟨fun h => by
    obtain h := (show Dt.rd (α := BitVec 8) H cs x from h)
    subst h; exact ⟨_, _, rfl, rfl, rfl⟩, fun h => by
    obtain ⟨v0, r0, e0, p0, e⟩ := h; have e : r0 = [] := e; subst e; subst e0; have p0 : v0 = _ := p0; subst p0
    exact (show Dt.rd (α := BitVec 8) H _ x from rfl)⟩
  cq := @fun l x h => by
    change ofc5 l = some x at h; unfold ofc5 at h
    split at h
    · obtain ⟨v0, h0, h⟩ := bindS h
      cases h; exact ⟨_, _, rfl, xY_cq h0, rfl⟩
    · cases h
  eqc := fun d a b c1 c2 hd h1 h2 => by cases hd
def ofc3 : List (SV DD) → Option (DD 3)
 | [a0] => (xI a0).bind fun v0 => some v0
 | _ => none
def ce3 : CE DD := ⟨3, fun x => [.i .i64 (x)], ofc3, none⟩
theorem ceOk3 : ce3.Ok where
  rdi := @fun H ρ cs x => ⟨fun h => by
    obtain h := (show Dt.rd (α := Int) H cs x from h)
    subst h; exact ⟨_, _, rfl, rfl, rfl⟩, fun h => by
    obtain ⟨v0, r0, e0, p0, e⟩ := h; have e : r0 = [] := e; subst e; subst e0; have p0 : v0 = _ := p0; subst p0
    exact (show Dt.rd (α := Int) H _ x from rfl)⟩
  cq := @fun l x h => by
    change ofc3 l = some x at h; unfold ofc3 at h
    split at h
    · obtain ⟨v0, h0, h⟩ := bindS h
      cases h; exact ⟨_, _, rfl, xI_cq h0, rfl⟩
    · cases h
  eqc := fun d a b c1 c2 hd h1 h2 => by cases hd
def ofc70 : List (SV DD) → Option (DD 70)
 | [a0, a1, a2, a3, a4, a5, a6, a7] => (xY a0).bind fun v0 => (xY a1).bind fun v1 => (xY a2).bind fun v2 => (xY a3).bind fun v3 => (xY a4).bind fun v4 => (xY a5).bind fun v5 => (xY a6).bind fun v6 => (xY a7).bind fun v7 => some ⟨v0, v1, v2, v3, v4, v5, v6, v7⟩
 | _ => none
def ce70 : CE DD := ⟨70, fun x => [.y (x.b0), .y (x.b1), .y (x.b2), .y (x.b3), .y (x.b4), .y (x.b5), .y (x.b6), .y (x.b7)], ofc70, some (inferInstanceAs (DecidableEq Sec))⟩
theorem sc70 (a b : Sec) : (([.i .u8 ((a.b0).toNat : Int), .i .u8 ((a.b1).toNat : Int), .i .u8 ((a.b2).toNat : Int), .i .u8 ((a.b3).toNat : Int), .i .u8 ((a.b4).toNat : Int), .i .u8 ((a.b5).toNat : Int), .i .u8 ((a.b6).toNat : Int), .i .u8 ((a.b7).toNat : Int)] : List Sc) = [.i .u8 ((b.b0).toNat : Int), .i .u8 ((b.b1).toNat : Int), .i .u8 ((b.b2).toNat : Int), .i .u8 ((b.b3).toNat : Int), .i .u8 ((b.b4).toNat : Int), .i .u8 ((b.b5).toNat : Int), .i .u8 ((b.b6).toNat : Int), .i .u8 ((b.b7).toNat : Int)]) ↔ a = b := by
  cases a; cases b; simp [← BitVec.toNat_inj]; omega
theorem ceOk70 : ce70.Ok where
  rdi := @fun H ρ cs x => ⟨fun h => by
    obtain h := (show Dt.rd (α := Sec) H cs x from h)
    subst h; exact ⟨_, _, rfl, rfl, _, _, rfl, rfl, _, _, rfl, rfl, _, _, rfl, rfl, _, _, rfl, rfl, _, _, rfl, rfl, _, _, rfl, rfl, _, _, rfl, rfl, rfl⟩, fun h => by
    obtain ⟨v0, r0, e0, p0, v1, r1, e1, p1, v2, r2, e2, p2, v3, r3, e3, p3, v4, r4, e4, p4, v5, r5, e5, p5, v6, r6, e6, p6, v7, r7, e7, p7, e⟩ := h; have e : r7 = [] := e; subst e; subst e7; subst e6; subst e5; subst e4; subst e3; subst e2; subst e1; subst e0; have p0 : v0 = _ := p0; subst p0; have p1 : v1 = _ := p1; subst p1; have p2 : v2 = _ := p2; subst p2; have p3 : v3 = _ := p3; subst p3; have p4 : v4 = _ := p4; subst p4; have p5 : v5 = _ := p5; subst p5; have p6 : v6 = _ := p6; subst p6; have p7 : v7 = _ := p7; subst p7
    exact (show Dt.rd (α := Sec) H _ x from rfl)⟩
  cq := @fun l x h => by
    change ofc70 l = some x at h; unfold ofc70 at h
    split at h
    · obtain ⟨v0, h0, h⟩ := bindS h
      obtain ⟨v1, h1, h⟩ := bindS h; obtain ⟨v2, h2, h⟩ := bindS h; obtain ⟨v3, h3, h⟩ := bindS h; obtain ⟨v4, h4, h⟩ := bindS h; obtain ⟨v5, h5, h⟩ := bindS h; obtain ⟨v6, h6, h⟩ := bindS h; obtain ⟨v7, h7, h⟩ := bindS h; cases h; exact ⟨_, _, rfl, xY_cq h0, _, _, rfl, xY_cq h1, _, _, rfl, xY_cq h2, _, _, rfl, xY_cq h3, _, _, rfl, xY_cq h4, _, _, rfl, xY_cq h5, _, _, rfl, xY_cq h6, _, _, rfl, xY_cq h7, rfl⟩
    · cases h
  eqc := fun d a b c1 c2 hd h1 h2 => by
    cases h1; cases h2; exact sc70 a b
def ofc73 : List (SV DD) → Option (DD 73)
 | [a0, a1, a2] => (xI a0).bind fun v0 => (xI a1).bind fun v1 => (xS 70 a2).bind fun v2 => some ⟨v0, v1, v2⟩
 | _ => none
def ce73 : CE DD := ⟨73, fun x => [.i .i64 (x.Volume), .i .i64 (x.Start), .fsl 70 (x.Data)], ofc73, none⟩
theorem ceOk73 : ce73.Ok where
  rdi := @fun H ρ cs x => ⟨fun h => by
    obtain ⟨A0, n0, c0, s0, h, h0⟩ := (show Dt.rd (α := q8) H cs x from h)
    subst h; exact ⟨_, _, rfl, rfl, _, _, rfl, rfl, _, _, rfl, ⟨A0, n0, c0, s0, rfl, h0⟩, rfl⟩, fun h => by
    obtain ⟨v0, r0, e0, p0, v1, r1, e1, p1, v2, r2, e2, ⟨A0, n0, c0, s0, p2, h0⟩, e⟩ := h; have e : r2 = [] := e; subst e; subst e2; subst e1; subst e0; have p0 : v0 = _ := p0; subst p0; have p1 : v1 = _ := p1; subst p1; subst p2
    exact (show Dt.rd (α := q8) H _ x from ⟨A0, n0, c0, s0, rfl, h0⟩)⟩
  cq := @fun l x h => by
    change ofc73 l = some x at h; unfold ofc73 at h
    split at h
    · obtain ⟨v0, h0, h⟩ := bindS h
      obtain ⟨v1, h1, h⟩ := bindS h; obtain ⟨v2, h2, h⟩ := bindS h; cases h; exact ⟨_, _, rfl, xI_cq h0, _, _, rfl, xI_cq h1, _, _, rfl, xS_cq h2, rfl⟩
    · cases h
  eqc := fun d a b c1 c2 hd h1 h2 => by cases hd
def ofc47 : List (SV DD) → Option (DD 47)
 | [a0] => (xS 73 a0).bind fun v0 => some v0
 | _ => none
def ce47 : CE DD := ⟨47, fun x => [.fsl 73 (x)], ofc47, none⟩
theorem ceOk47 : ce47.Ok where
  rdi := @fun H ρ cs x => ⟨fun h => by
    obtain ⟨A0, n0, c0, s0, h, h0⟩ := (show Dt.rd (α := List q8) H cs x from h)
    subst h; exact ⟨_, _, rfl, ⟨A0, n0, c0, s0, rfl, h0⟩, rfl⟩, fun h => by
    obtain ⟨v0, r0, e0, ⟨A0, n0, c0, s0, p0, h0⟩, e⟩ := h; have e : r0 = [] := e; subst e; subst e0; subst p0
    exact (show Dt.rd (α := List q8) H _ x from ⟨A0, n0, c0, s0, rfl, h0⟩)⟩
  cq := @fun l x h => by
    change ofc47 l = some x at h; unfold ofc47 at h
    split at h
    · obtain ⟨v0, h0, h⟩ := bindS h
      cases h; exact ⟨_, _, rfl, xS_cq h0, rfl⟩
    · cases h
  eqc := fun d a b c1 c2 hd h1 h2 => by cases hd
def ofc26 : List (SV DD) → Option (DD 26)
 | [a0, a1, a2, a3, a4, a5] => (xS 5 a0).bind fun v0 => (xY a1).bind fun v1 => (xY a2).bind fun v2 => (xY a3).bind fun v3 => (xS 3 a4).bind fun v4 => (xS 47 a5).bind fun v5 => some ⟨v0, v1, v2, v3, v4, v5⟩
 | _ => none
def ce26 : CE DD := ⟨26, fun x => [.fsl 5 (x.Capacity), .y (x.Period), .y (x.Latency), .y (x.Apply), .fsl 3 (x.Sizes), .fsl 47 (x.Ticks)], ofc26, none⟩
theorem ceOk26 : ce26.Ok where
  rdi := @fun H ρ cs x => ⟨fun h => by
    obtain ⟨A0, n0, c0, s0, A1, n1, c1, s1, A2, n2, c2, s2, h, h0, h1, h2⟩ := (show Dt.rd (α := q13) H cs x from h)
    subst h; exact ⟨_, _, rfl, ⟨A0, n0, c0, s0, rfl, h0⟩, _, _, rfl, rfl, _, _, rfl, rfl, _, _, rfl, rfl, _, _, rfl, ⟨A1, n1, c1, s1, rfl, h1⟩, _, _, rfl, ⟨A2, n2, c2, s2, rfl, h2⟩, rfl⟩, fun h => by
    obtain ⟨v0, r0, e0, ⟨A0, n0, c0, s0, p0, h0⟩, v1, r1, e1, p1, v2, r2, e2, p2, v3, r3, e3, p3, v4, r4, e4, ⟨A1, n1, c1, s1, p4, h1⟩, v5, r5, e5, ⟨A2, n2, c2, s2, p5, h2⟩, e⟩ := h; have e : r5 = [] := e; subst e; subst e5; subst e4; subst e3; subst e2; subst e1; subst e0; subst p0; have p1 : v1 = _ := p1; subst p1; have p2 : v2 = _ := p2; subst p2; have p3 : v3 = _ := p3; subst p3; subst p4; subst p5
    exact (show Dt.rd (α := q13) H _ x from ⟨A0, n0, c0, s0, A1, n1, c1, s1, A2, n2, c2, s2, rfl, h0, h1, h2⟩)⟩
  cq := @fun l x h => by
    change ofc26 l = some x at h; unfold ofc26 at h
    split at h
    · obtain ⟨v0, h0, h⟩ := bindS h
      obtain ⟨v1, h1, h⟩ := bindS h; obtain ⟨v2, h2, h⟩ := bindS h; obtain ⟨v3, h3, h⟩ := bindS h; obtain ⟨v4, h4, h⟩ := bindS h; obtain ⟨v5, h5, h⟩ := bindS h; cases h; exact ⟨_, _, rfl, xS_cq h0, _, _, rfl, xY_cq h1, _, _, rfl, xY_cq h2, _, _, rfl, xY_cq h3, _, _, rfl, xS_cq h4, _, _, rfl, xS_cq h5, rfl⟩
    · cases h
  eqc := fun d a b c1 c2 hd h1 h2 => by cases hd
def ofc28 : List (SV DD) → Option (DD 28)
 | [a0, a1, a2, a3, a4] => (xS 3 a0).bind fun v0 => (xS 3 a1).bind fun v1 => (xI a2).bind fun v2 => (xI a3).bind fun v3 => (xI a4).bind fun v4 => some ⟨v0, v1, v2, v3, v4⟩
 | _ => none
def ce28 : CE DD := ⟨28, fun x => [.fsl 3 (x.Writes), .fsl 3 (x.Capacity), .i .i64 (x.Period), .i .i64 (x.Latency), .i .i64 (x.Apply)], ofc28, none⟩
theorem ceOk28 : ce28.Ok where
  rdi := @fun H ρ cs x => ⟨fun h => by
    obtain ⟨A0, n0, c0, s0, A1, n1, c1, s1, h, h0, h1⟩ := (show Dt.rd (α := q15) H cs x from h)
    subst h; exact ⟨_, _, rfl, ⟨A0, n0, c0, s0, rfl, h0⟩, _, _, rfl, ⟨A1, n1, c1, s1, rfl, h1⟩, _, _, rfl, rfl, _, _, rfl, rfl, _, _, rfl, rfl, rfl⟩, fun h => by
    obtain ⟨v0, r0, e0, ⟨A0, n0, c0, s0, p0, h0⟩, v1, r1, e1, ⟨A1, n1, c1, s1, p1, h1⟩, v2, r2, e2, p2, v3, r3, e3, p3, v4, r4, e4, p4, e⟩ := h; have e : r4 = [] := e; subst e; subst e4; subst e3; subst e2; subst e1; subst e0; subst p0; subst p1; have p2 : v2 = _ := p2; subst p2; have p3 : v3 = _ := p3; subst p3; have p4 : v4 = _ := p4; subst p4
    exact (show Dt.rd (α := q15) H _ x from ⟨A0, n0, c0, s0, A1, n1, c1, s1, rfl, h0, h1⟩)⟩
  cq := @fun l x h => by
    change ofc28 l = some x at h; unfold ofc28 at h
    split at h
    · obtain ⟨v0, h0, h⟩ := bindS h
      obtain ⟨v1, h1, h⟩ := bindS h; obtain ⟨v2, h2, h⟩ := bindS h; obtain ⟨v3, h3, h⟩ := bindS h; obtain ⟨v4, h4, h⟩ := bindS h; cases h; exact ⟨_, _, rfl, xS_cq h0, _, _, rfl, xS_cq h1, _, _, rfl, xI_cq h2, _, _, rfl, xI_cq h3, _, _, rfl, xI_cq h4, rfl⟩
    · cases h
  eqc := fun d a b c1 c2 hd h1 h2 => by cases hd
def ofc32 : List (SV DD) → Option (DD 32)
 | [a0, a1, a2, a3, a4] => (xS 3 a0).bind fun v0 => (xS 3 a1).bind fun v1 => (xS 3 a2).bind fun v2 => (xS 3 a3).bind fun v3 => (xI a4).bind fun v4 => some ⟨v0, v1, v2, v3, v4⟩
 | _ => none
def ce32 : CE DD := ⟨32, fun x => [.fsl 3 (x.Close), .fsl 3 (x.Start), .fsl 3 (x.End), .fsl 3 (x.Applied), .i .i64 (x.Bound)], ofc32, none⟩
theorem ceOk32 : ce32.Ok where
  rdi := @fun H ρ cs x => ⟨fun h => by
    obtain ⟨A0, n0, c0, s0, A1, n1, c1, s1, A2, n2, c2, s2, A3, n3, c3, s3, h, h0, h1, h2, h3⟩ := (show Dt.rd (α := q18) H cs x from h)
    subst h; exact ⟨_, _, rfl, ⟨A0, n0, c0, s0, rfl, h0⟩, _, _, rfl, ⟨A1, n1, c1, s1, rfl, h1⟩, _, _, rfl, ⟨A2, n2, c2, s2, rfl, h2⟩, _, _, rfl, ⟨A3, n3, c3, s3, rfl, h3⟩, _, _, rfl, rfl, rfl⟩, fun h => by
    obtain ⟨v0, r0, e0, ⟨A0, n0, c0, s0, p0, h0⟩, v1, r1, e1, ⟨A1, n1, c1, s1, p1, h1⟩, v2, r2, e2, ⟨A2, n2, c2, s2, p2, h2⟩, v3, r3, e3, ⟨A3, n3, c3, s3, p3, h3⟩, v4, r4, e4, p4, e⟩ := h; have e : r4 = [] := e; subst e; subst e4; subst e3; subst e2; subst e1; subst e0; subst p0; subst p1; subst p2; subst p3; have p4 : v4 = _ := p4; subst p4
    exact (show Dt.rd (α := q18) H _ x from ⟨A0, n0, c0, s0, A1, n1, c1, s1, A2, n2, c2, s2, A3, n3, c3, s3, rfl, h0, h1, h2, h3⟩)⟩
  cq := @fun l x h => by
    change ofc32 l = some x at h; unfold ofc32 at h
    split at h
    · obtain ⟨v0, h0, h⟩ := bindS h
      obtain ⟨v1, h1, h⟩ := bindS h; obtain ⟨v2, h2, h⟩ := bindS h; obtain ⟨v3, h3, h⟩ := bindS h; obtain ⟨v4, h4, h⟩ := bindS h; cases h; exact ⟨_, _, rfl, xS_cq h0, _, _, rfl, xS_cq h1, _, _, rfl, xS_cq h2, _, _, rfl, xS_cq h3, _, _, rfl, xI_cq h4, rfl⟩
    · cases h
  eqc := fun d a b c1 c2 hd h1 h2 => by cases hd
def ofc33 : List (SV DD) → Option (DD 33)
 | [a0] => (xI a0).bind fun v0 => some v0
 | _ => none
def ce33 : CE DD := ⟨33, fun x => [.i .i64 (x)], ofc33, none⟩
theorem ceOk33 : ce33.Ok where
  rdi := @fun H ρ cs x => ⟨fun h => by
    obtain h := (show Dt.rd (α := Int) H cs x from h)
    subst h; exact ⟨_, _, rfl, rfl, rfl⟩, fun h => by
    obtain ⟨v0, r0, e0, p0, e⟩ := h; have e : r0 = [] := e; subst e; subst e0; have p0 : v0 = _ := p0; subst p0
    exact (show Dt.rd (α := Int) H _ x from rfl)⟩
  cq := @fun l x h => by
    change ofc33 l = some x at h; unfold ofc33 at h
    split at h
    · obtain ⟨v0, h0, h⟩ := bindS h
      cases h; exact ⟨_, _, rfl, xI_cq h0, rfl⟩
    · cases h
  eqc := fun d a b c1 c2 hd h1 h2 => by cases hd
def ofc23 : List (SV DD) → Option (DD 23)
 | [a0] => (xS 3 a0).bind fun v0 => some v0
 | _ => none
def ce23 : CE DD := ⟨23, fun x => [.fsl 3 (x)], ofc23, none⟩
theorem ceOk23 : ce23.Ok where
  rdi := @fun H ρ cs x => ⟨fun h => by
    obtain ⟨A0, n0, c0, s0, h, h0⟩ := (show Dt.rd (α := List Int) H cs x from h)
    subst h; exact ⟨_, _, rfl, ⟨A0, n0, c0, s0, rfl, h0⟩, rfl⟩, fun h => by
    obtain ⟨v0, r0, e0, ⟨A0, n0, c0, s0, p0, h0⟩, e⟩ := h; have e : r0 = [] := e; subst e; subst e0; subst p0
    exact (show Dt.rd (α := List Int) H _ x from ⟨A0, n0, c0, s0, rfl, h0⟩)⟩
  cq := @fun l x h => by
    change ofc23 l = some x at h; unfold ofc23 at h
    split at h
    · obtain ⟨v0, h0, h⟩ := bindS h
      cases h; exact ⟨_, _, rfl, xS_cq h0, rfl⟩
    · cases h
  eqc := fun d a b c1 c2 hd h1 h2 => by cases hd
def ofc94 : List (SV DD) → Option (DD 94)
 | [a0, a1] => (xS 3 a0).bind fun v0 => (xI a1).bind fun v1 => some ⟨v0, v1⟩
 | _ => none
def ce94 : CE DD := ⟨94, fun x => [.fsl 3 (x.sums), .i .i64 (x.last)], ofc94, none⟩
theorem ceOk94 : ce94.Ok where
  rdi := @fun H ρ cs x => ⟨fun h => by
    obtain ⟨A0, n0, c0, s0, h, h0⟩ := (show Dt.rd (α := q23) H cs x from h)
    subst h; exact ⟨_, _, rfl, ⟨A0, n0, c0, s0, rfl, h0⟩, _, _, rfl, rfl, rfl⟩, fun h => by
    obtain ⟨v0, r0, e0, ⟨A0, n0, c0, s0, p0, h0⟩, v1, r1, e1, p1, e⟩ := h; have e : r1 = [] := e; subst e; subst e1; subst e0; subst p0; have p1 : v1 = _ := p1; subst p1
    exact (show Dt.rd (α := q23) H _ x from ⟨A0, n0, c0, s0, rfl, h0⟩)⟩
  cq := @fun l x h => by
    change ofc94 l = some x at h; unfold ofc94 at h
    split at h
    · obtain ⟨v0, h0, h⟩ := bindS h
      obtain ⟨v1, h1, h⟩ := bindS h; cases h; exact ⟨_, _, rfl, xS_cq h0, _, _, rfl, xI_cq h1, rfl⟩
    · cases h
  eqc := fun d a b c1 c2 hd h1 h2 => by cases hd
def ofc66 : List (SV DD) → Option (DD 66)
 | [.fel e xs i off] => match castL e 94 xs with
  | some [x] => bif decide (i = 0) && Nat.beq off 0 then some ⟨x⟩ else none
  | _ => none
 | _ => none
def ce66 : CE DD := ⟨66, fun x => [.fel 94 [x.val] 0 0], ofc66, none⟩
theorem ceOk66 : ce66.Ok where
  rdi := @fun H ρ cs x => ⟨fun h => by
    obtain ⟨A, n, c, s, h, h1⟩ := (show Dt.rd (α := Ptr q23) H cs x from h)
    exact ⟨_, [], h, ⟨A, n, c, s, rfl, h1, Int.le_refl _, by show (0 : Int) < ((1 : Nat) : Int); decide⟩, rfl⟩, fun h => by
    obtain ⟨v, r, e, ⟨A, n, c, s, h, h1, _⟩, e2⟩ := h; have e2 : r = [] := e2; subst e2; subst e; subst h
    exact (show Dt.rd (α := Ptr q23) H _ x from ⟨A, n, c, s, rfl, h1⟩)⟩
  cq := @fun l x h => by
    change ofc66 l = some x at h; unfold ofc66 at h
    split at h
    · split at h
      · rename_i e xs i off y hc
        obtain ⟨hb, h⟩ := cif h; cases h; obtain ⟨he, h1⟩ := q71 hc; subst he; subst h1; rw [Bool.and_eq_true] at hb; obtain ⟨hb1, hb2⟩ := hb; have hb1 := of_decide_eq_true hb1; have hb2 := Nat.eq_of_beq_eq_true hb2; subst hb1; subst hb2; exact ⟨_, _, rfl, .inr ⟨rfl, rfl, fun _ _ _ h => h⟩, rfl⟩
      · cases h
    · cases h
  eqc := fun d a b c1 c2 hd h1 h2 => by cases hd
def ofc24 : List (SV DD) → Option (DD 24)
 | [a0] => (xS 47 a0).bind fun v0 => some v0
 | _ => none
def ce24 : CE DD := ⟨24, fun x => [.fsl 47 (x)], ofc24, none⟩
theorem ceOk24 : ce24.Ok where
  rdi := @fun H ρ cs x => ⟨fun h => by
    obtain ⟨A0, n0, c0, s0, h, h0⟩ := (show Dt.rd (α := List (List q8)) H cs x from h)
    subst h; exact ⟨_, _, rfl, ⟨A0, n0, c0, s0, rfl, h0⟩, rfl⟩, fun h => by
    obtain ⟨v0, r0, e0, ⟨A0, n0, c0, s0, p0, h0⟩, e⟩ := h; have e : r0 = [] := e; subst e; subst e0; subst p0
    exact (show Dt.rd (α := List (List q8)) H _ x from ⟨A0, n0, c0, s0, rfl, h0⟩)⟩
  cq := @fun l x h => by
    change ofc24 l = some x at h; unfold ofc24 at h
    split at h
    · obtain ⟨v0, h0, h⟩ := bindS h
      cases h; exact ⟨_, _, rfl, xS_cq h0, rfl⟩
    · cases h
  eqc := fun d a b c1 c2 hd h1 h2 => by cases hd
def ofc71 : List (SV DD) → Option (DD 71)
 | [a0] => (xS 70 a0).bind fun v0 => some v0
 | _ => none
def ce71 : CE DD := ⟨71, fun x => [.fsl 70 (x)], ofc71, none⟩
theorem ceOk71 : ce71.Ok where
  rdi := @fun H ρ cs x => ⟨fun h => by
    obtain ⟨A0, n0, c0, s0, h, h0⟩ := (show Dt.rd (α := List Sec) H cs x from h)
    subst h; exact ⟨_, _, rfl, ⟨A0, n0, c0, s0, rfl, h0⟩, rfl⟩, fun h => by
    obtain ⟨v0, r0, e0, ⟨A0, n0, c0, s0, p0, h0⟩, e⟩ := h; have e : r0 = [] := e; subst e; subst e0; subst p0
    exact (show Dt.rd (α := List Sec) H _ x from ⟨A0, n0, c0, s0, rfl, h0⟩)⟩
  cq := @fun l x h => by
    change ofc71 l = some x at h; unfold ofc71 at h
    split at h
    · obtain ⟨v0, h0, h⟩ := bindS h
      cases h; exact ⟨_, _, rfl, xS_cq h0, rfl⟩
    · cases h
  eqc := fun d a b c1 c2 hd h1 h2 => by cases hd
def ofc55 : List (SV DD) → Option (DD 55)
 | [a0] => (xS 71 a0).bind fun v0 => some v0
 | _ => none
def ce55 : CE DD := ⟨55, fun x => [.fsl 71 (x)], ofc55, none⟩
theorem ceOk55 : ce55.Ok where
  rdi := @fun H ρ cs x => ⟨fun h => by
    obtain ⟨A0, n0, c0, s0, h, h0⟩ := (show Dt.rd (α := List (List Sec)) H cs x from h)
    subst h; exact ⟨_, _, rfl, ⟨A0, n0, c0, s0, rfl, h0⟩, rfl⟩, fun h => by
    obtain ⟨v0, r0, e0, ⟨A0, n0, c0, s0, p0, h0⟩, e⟩ := h; have e : r0 = [] := e; subst e; subst e0; subst p0
    exact (show Dt.rd (α := List (List Sec)) H _ x from ⟨A0, n0, c0, s0, rfl, h0⟩)⟩
  cq := @fun l x h => by
    change ofc55 l = some x at h; unfold ofc55 at h
    split at h
    · obtain ⟨v0, h0, h⟩ := bindS h
      cases h; exact ⟨_, _, rfl, xS_cq h0, rfl⟩
    · cases h
  eqc := fun d a b c1 c2 hd h1 h2 => by cases hd
def ofc54 : List (SV DD) → Option (DD 54)
 | [a0] => (xS 71 a0).bind fun v0 => some v0
 | _ => none
def ce54 : CE DD := ⟨54, fun x => [.fsl 71 (x)], ofc54, none⟩
theorem ceOk54 : ce54.Ok where
  rdi := @fun H ρ cs x => ⟨fun h => by
    obtain ⟨A0, n0, c0, s0, h, h0⟩ := (show Dt.rd (α := List (List Sec)) H cs x from h)
    subst h; exact ⟨_, _, rfl, ⟨A0, n0, c0, s0, rfl, h0⟩, rfl⟩, fun h => by
    obtain ⟨v0, r0, e0, ⟨A0, n0, c0, s0, p0, h0⟩, e⟩ := h; have e : r0 = [] := e; subst e; subst e0; subst p0
    exact (show Dt.rd (α := List (List Sec)) H _ x from ⟨A0, n0, c0, s0, rfl, h0⟩)⟩
  cq := @fun l x h => by
    change ofc54 l = some x at h; unfold ofc54 at h
    split at h
    · obtain ⟨v0, h0, h⟩ := bindS h
      cases h; exact ⟨_, _, rfl, xS_cq h0, rfl⟩
    · cases h
  eqc := fun d a b c1 c2 hd h1 h2 => by cases hd
def ofc49 : List (SV DD) → Option (DD 49)
 | [a0, a1, a2, a3, a4] => (xI a0).bind fun v0 => (xS 3 a1).bind fun v1 => (xS 3 a2).bind fun v2 => (xS 3 a3).bind fun v3 => (xS 73 a4).bind fun v4 => some ⟨v0, v1, v2, v3, v4⟩
 | _ => none
def ce49 : CE DD := ⟨49, fun x => [.i .i64 (x.Number), .fsl 3 (x.Sizes), .fsl 3 (x.Positions), .fsl 3 (x.Nodes), .fsl 73 (x.Writes)], ofc49, none⟩
theorem ceOk49 : ce49.Ok where
  rdi := @fun H ρ cs x => ⟨fun h => by
    obtain ⟨A0, n0, c0, s0, A1, n1, c1, s1, A2, n2, c2, s2, A3, n3, c3, s3, h, h0, h1, h2, h3⟩ := (show Dt.rd (α := q10) H cs x from h)
    subst h; exact ⟨_, _, rfl, rfl, _, _, rfl, ⟨A0, n0, c0, s0, rfl, h0⟩, _, _, rfl, ⟨A1, n1, c1, s1, rfl, h1⟩, _, _, rfl, ⟨A2, n2, c2, s2, rfl, h2⟩, _, _, rfl, ⟨A3, n3, c3, s3, rfl, h3⟩, rfl⟩, fun h => by
    obtain ⟨v0, r0, e0, p0, v1, r1, e1, ⟨A0, n0, c0, s0, p1, h0⟩, v2, r2, e2, ⟨A1, n1, c1, s1, p2, h1⟩, v3, r3, e3, ⟨A2, n2, c2, s2, p3, h2⟩, v4, r4, e4, ⟨A3, n3, c3, s3, p4, h3⟩, e⟩ := h; have e : r4 = [] := e; subst e; subst e4; subst e3; subst e2; subst e1; subst e0; have p0 : v0 = _ := p0; subst p0; subst p1; subst p2; subst p3; subst p4
    exact (show Dt.rd (α := q10) H _ x from ⟨A0, n0, c0, s0, A1, n1, c1, s1, A2, n2, c2, s2, A3, n3, c3, s3, rfl, h0, h1, h2, h3⟩)⟩
  cq := @fun l x h => by
    change ofc49 l = some x at h; unfold ofc49 at h
    split at h
    · obtain ⟨v0, h0, h⟩ := bindS h
      obtain ⟨v1, h1, h⟩ := bindS h; obtain ⟨v2, h2, h⟩ := bindS h; obtain ⟨v3, h3, h⟩ := bindS h; obtain ⟨v4, h4, h⟩ := bindS h; cases h; exact ⟨_, _, rfl, xI_cq h0, _, _, rfl, xS_cq h1, _, _, rfl, xS_cq h2, _, _, rfl, xS_cq h3, _, _, rfl, xS_cq h4, rfl⟩
    · cases h
  eqc := fun d a b c1 c2 hd h1 h2 => by cases hd
def q588 : List (SV DD) → Option (DD 103)
 | [a0, a1, a2, a3, a4] => (xI a0).bind fun v0 => (xI a1).bind fun v1 => (xI a2).bind fun v2 => (xS 3 a3).bind fun v3 => (xS 73 a4).bind fun v4 => some ⟨v0, v1, v2, v3, v4⟩
 | _ => none
def ce103 : CE DD := ⟨103, fun x => [.i .i64 (x.Base), .i .i64 (x.Number), .i .i64 (x.Time), .fsl 3 (x.Positions), .fsl 73 (x.Writes)], q588, none⟩
theorem ceOk103 : ce103.Ok where
  rdi := @fun H ρ cs x => ⟨fun h => by
    obtain ⟨A0, n0, c0, s0, A1, n1, c1, s1, h, h0, h1⟩ := (show Dt.rd (α := q11) H cs x from h)
    subst h; exact ⟨_, _, rfl, rfl, _, _, rfl, rfl, _, _, rfl, rfl, _, _, rfl, ⟨A0, n0, c0, s0, rfl, h0⟩, _, _, rfl, ⟨A1, n1, c1, s1, rfl, h1⟩, rfl⟩, fun h => by
    obtain ⟨v0, r0, e0, p0, v1, r1, e1, p1, v2, r2, e2, p2, v3, r3, e3, ⟨A0, n0, c0, s0, p3, h0⟩, v4, r4, e4, ⟨A1, n1, c1, s1, p4, h1⟩, e⟩ := h; have e : r4 = [] := e; subst e; subst e4; subst e3; subst e2; subst e1; subst e0; have p0 : v0 = _ := p0; subst p0; have p1 : v1 = _ := p1; subst p1; have p2 : v2 = _ := p2; subst p2; subst p3; subst p4
    exact (show Dt.rd (α := q11) H _ x from ⟨A0, n0, c0, s0, A1, n1, c1, s1, rfl, h0, h1⟩)⟩
  cq := @fun l x h => by
    change q588 l = some x at h; unfold q588 at h
    split at h
    · obtain ⟨v0, h0, h⟩ := bindS h
      obtain ⟨v1, h1, h⟩ := bindS h; obtain ⟨v2, h2, h⟩ := bindS h; obtain ⟨v3, h3, h⟩ := bindS h; obtain ⟨v4, h4, h⟩ := bindS h; cases h; exact ⟨_, _, rfl, xI_cq h0, _, _, rfl, xI_cq h1, _, _, rfl, xI_cq h2, _, _, rfl, xS_cq h3, _, _, rfl, xS_cq h4, rfl⟩
    · cases h
  eqc := fun d a b c1 c2 hd h1 h2 => by cases hd
def ofc53 : List (SV DD) → Option (DD 53)
 | [a0, a1, a2, a3] => (xI a0).bind fun v0 => (xS 103 a1).bind fun v1 => (xS 3 a2).bind fun v2 => (xS 4 a3).bind fun v3 => some ⟨v0, v1, v2, v3⟩
 | _ => none
def ce53 : CE DD := ⟨53, fun x => [.i .i64 (x.Limit), .fsl 103 (x.Kept), .fsl 3 (x.Applied), .fsl 4 (x.Lost)], ofc53, none⟩
theorem ceOk53 : ce53.Ok where
  rdi := @fun H ρ cs x => ⟨fun h => by
    obtain ⟨A0, n0, c0, s0, A1, n1, c1, s1, A2, n2, c2, s2, h, h0, h1, h2⟩ := (show Dt.rd (α := q12) H cs x from h)
    subst h; exact ⟨_, _, rfl, rfl, _, _, rfl, ⟨A0, n0, c0, s0, rfl, h0⟩, _, _, rfl, ⟨A1, n1, c1, s1, rfl, h1⟩, _, _, rfl, ⟨A2, n2, c2, s2, rfl, h2⟩, rfl⟩, fun h => by
    obtain ⟨v0, r0, e0, p0, v1, r1, e1, ⟨A0, n0, c0, s0, p1, h0⟩, v2, r2, e2, ⟨A1, n1, c1, s1, p2, h1⟩, v3, r3, e3, ⟨A2, n2, c2, s2, p3, h2⟩, e⟩ := h; have e : r3 = [] := e; subst e; subst e3; subst e2; subst e1; subst e0; have p0 : v0 = _ := p0; subst p0; subst p1; subst p2; subst p3
    exact (show Dt.rd (α := q12) H _ x from ⟨A0, n0, c0, s0, A1, n1, c1, s1, A2, n2, c2, s2, rfl, h0, h1, h2⟩)⟩
  cq := @fun l x h => by
    change ofc53 l = some x at h; unfold ofc53 at h
    split at h
    · obtain ⟨v0, h0, h⟩ := bindS h
      obtain ⟨v1, h1, h⟩ := bindS h; obtain ⟨v2, h2, h⟩ := bindS h; obtain ⟨v3, h3, h⟩ := bindS h; cases h; exact ⟨_, _, rfl, xI_cq h0, _, _, rfl, xS_cq h1, _, _, rfl, xS_cq h2, _, _, rfl, xS_cq h3, rfl⟩
    · cases h
  eqc := fun d a b c1 c2 hd h1 h2 => by cases hd
def ofc68 : List (SV DD) → Option (DD 68)
 | [a0] => (xW a0).bind fun v0 => some v0
 | _ => none
def ce68 : CE DD := ⟨68, fun x => [.w (x)], ofc68, none⟩
theorem ceOk68 : ce68.Ok where
  rdi := @fun H ρ cs x => ⟨fun h => by
    obtain h := (show Dt.rd (α := BitVec 64) H cs x from h)
    subst h; exact ⟨_, _, rfl, rfl, rfl⟩, fun h => by
    obtain ⟨v0, r0, e0, p0, e⟩ := h; have e : r0 = [] := e; subst e; subst e0; have p0 : v0 = _ := p0; subst p0
    exact (show Dt.rd (α := BitVec 64) H _ x from rfl)⟩
  cq := @fun l x h => by
    change ofc68 l = some x at h; unfold ofc68 at h
    split at h
    · obtain ⟨v0, h0, h⟩ := bindS h
      cases h; exact ⟨_, _, rfl, xW_cq h0, rfl⟩
    · cases h
  eqc := fun d a b c1 c2 hd h1 h2 => by cases hd
def q589 : List (SV DD) → Option (DD 160)
 | [a0] => (xW a0).bind fun v0 => some v0
 | _ => none
def ce160 : CE DD := ⟨160, fun x => [.w (x)], q589, none⟩
theorem ceOk160 : ce160.Ok where
  rdi := @fun H ρ cs x => ⟨fun h => by
    obtain h := (show Dt.rd (α := BitVec 64) H cs x from h)
    subst h; exact ⟨_, _, rfl, rfl, rfl⟩, fun h => by
    obtain ⟨v0, r0, e0, p0, e⟩ := h; have e : r0 = [] := e; subst e; subst e0; have p0 : v0 = _ := p0; subst p0
    exact (show Dt.rd (α := BitVec 64) H _ x from rfl)⟩
  cq := @fun l x h => by
    change q589 l = some x at h; unfold q589 at h
    split at h
    · obtain ⟨v0, h0, h⟩ := bindS h
      cases h; exact ⟨_, _, rfl, xW_cq h0, rfl⟩
    · cases h
  eqc := fun d a b c1 c2 hd h1 h2 => by cases hd
def ofc58 : List (SV DD) → Option (DD 58)
 | [a0, a1, a2, a3, a4, a5, a6, a7, a8, a9, a10, a11, a12, a13, a14, a15, a16, a17, a18, a19, a20] => (xS 3 a0).bind fun v0 => (xS 3 a1).bind fun v1 => (xI a2).bind fun v2 => (xI a3).bind fun v3 => (xI a4).bind fun v4 => (xI a5).bind fun v5 => (xS 3 a6).bind fun v6 => (xS 3 a7).bind fun v7 => (xS 3 a8).bind fun v8 => (xS 73 a9).bind fun v9 => (xI a10).bind fun v10 => (xS 103 a11).bind fun v11 => (xS 3 a12).bind fun v12 => (xS 4 a13).bind fun v13 => (xS 71 a14).bind fun v14 => (xS 71 a15).bind fun v15 => (xS 55 a16).bind fun v16 => (xS 3 a17).bind fun v17 => (xI a18).bind fun v18 => (xI a19).bind fun v19 => (xI a20).bind fun v20 => some ⟨⟨v0, v1, v2, v3, v4⟩, ⟨v5, v6, v7, v8, v9⟩, ⟨v10, v11, v12, v13⟩, v14, v15, v16, v17, v18, v19, v20⟩
 | _ => none
def ce58 : CE DD := ⟨58, fun x => [.fsl 3 (x.trace.Writes), .fsl 3 (x.trace.Capacity), .i .i64 (x.trace.Period), .i .i64 (x.trace.Latency), .i .i64 (x.trace.Apply), .i .i64 (x.capture.Number), .fsl 3 (x.capture.Sizes), .fsl 3 (x.capture.Positions), .fsl 3 (x.capture.Nodes), .fsl 73 (x.capture.Writes), .i .i64 (x.fanout.Limit), .fsl 103 (x.fanout.Kept), .fsl 3 (x.fanout.Applied), .fsl 4 (x.fanout.Lost), .fsl 71 (x.source), .fsl 71 (x.target), .fsl 55 (x.closed), .fsl 3 (x.done), .i .i64 (x.left), .i .i64 (x.written), .i .i64 (x.exposed)], ofc58, none⟩
theorem ceOk58 : ce58.Ok where
  rdi := @fun H ρ cs x => ⟨fun h => by
    obtain ⟨A0, n0, c0, s0, A1, n1, c1, s1, A2, n2, c2, s2, A3, n3, c3, s3, A4, n4, c4, s4, A5, n5, c5, s5, A6, n6, c6, s6, A7, n7, c7, s7, A8, n8, c8, s8, A9, n9, c9, s9, A10, n10, c10, s10, A11, n11, c11, s11, A12, n12, c12, s12, h, h0, h1, h2, h3, h4, h5, h6, h7, h8, h9, h10, h11, h12⟩ := (show Dt.rd (α := q27) H cs x from h)
    subst h; exact ⟨_, _, rfl, ⟨A0, n0, c0, s0, rfl, h0⟩, _, _, rfl, ⟨A1, n1, c1, s1, rfl, h1⟩, _, _, rfl, rfl, _, _, rfl, rfl, _, _, rfl, rfl, _, _, rfl, rfl, _, _, rfl, ⟨A2, n2, c2, s2, rfl, h2⟩, _, _, rfl, ⟨A3, n3, c3, s3, rfl, h3⟩, _, _, rfl, ⟨A4, n4, c4, s4, rfl, h4⟩, _, _, rfl, ⟨A5, n5, c5, s5, rfl, h5⟩, _, _, rfl, rfl, _, _, rfl, ⟨A6, n6, c6, s6, rfl, h6⟩, _, _, rfl, ⟨A7, n7, c7, s7, rfl, h7⟩, _, _, rfl, ⟨A8, n8, c8, s8, rfl, h8⟩, _, _, rfl, ⟨A9, n9, c9, s9, rfl, h9⟩, _, _, rfl, ⟨A10, n10, c10, s10, rfl, h10⟩, _, _, rfl, ⟨A11, n11, c11, s11, rfl, h11⟩, _, _, rfl, ⟨A12, n12, c12, s12, rfl, h12⟩, _, _, rfl, rfl, _, _, rfl, rfl, _, _, rfl, rfl, rfl⟩, fun h => by
    obtain ⟨v0, r0, e0, ⟨A0, n0, c0, s0, p0, h0⟩, v1, r1, e1, ⟨A1, n1, c1, s1, p1, h1⟩, v2, r2, e2, p2, v3, r3, e3, p3, v4, r4, e4, p4, v5, r5, e5, p5, v6, r6, e6, ⟨A2, n2, c2, s2, p6, h2⟩, v7, r7, e7, ⟨A3, n3, c3, s3, p7, h3⟩, v8, r8, e8, ⟨A4, n4, c4, s4, p8, h4⟩, v9, r9, e9, ⟨A5, n5, c5, s5, p9, h5⟩, v10, r10, e10, p10, v11, r11, e11, ⟨A6, n6, c6, s6, p11, h6⟩, v12, r12, e12, ⟨A7, n7, c7, s7, p12, h7⟩, v13, r13, e13, ⟨A8, n8, c8, s8, p13, h8⟩, v14, r14, e14, ⟨A9, n9, c9, s9, p14, h9⟩, v15, r15, e15, ⟨A10, n10, c10, s10, p15, h10⟩, v16, r16, e16, ⟨A11, n11, c11, s11, p16, h11⟩, v17, r17, e17, ⟨A12, n12, c12, s12, p17, h12⟩, v18, r18, e18, p18, v19, r19, e19, p19, v20, r20, e20, p20, e⟩ := h; have e : r20 = [] := e; subst e; subst e20; subst e19; subst e18; subst e17; subst e16; subst e15; subst e14; subst e13; subst e12; subst e11; subst e10; subst e9; subst e8; subst e7; subst e6; subst e5; subst e4; subst e3; subst e2; subst e1; subst e0; subst p0; subst p1; have p2 : v2 = _ := p2; subst p2; have p3 : v3 = _ := p3; subst p3; have p4 : v4 = _ := p4; subst p4; have p5 : v5 = _ := p5; subst p5; subst p6; subst p7; subst p8; subst p9; have p10 : v10 = _ := p10; subst p10; subst p11; subst p12; subst p13; subst p14; subst p15; subst p16; subst p17; have p18 : v18 = _ := p18; subst p18; have p19 : v19 = _ := p19; subst p19; have p20 : v20 = _ := p20; subst p20
    exact (show Dt.rd (α := q27) H _ x from ⟨A0, n0, c0, s0, A1, n1, c1, s1, A2, n2, c2, s2, A3, n3, c3, s3, A4, n4, c4, s4, A5, n5, c5, s5, A6, n6, c6, s6, A7, n7, c7, s7, A8, n8, c8, s8, A9, n9, c9, s9, A10, n10, c10, s10, A11, n11, c11, s11, A12, n12, c12, s12, rfl, h0, h1, h2, h3, h4, h5, h6, h7, h8, h9, h10, h11, h12⟩)⟩
  cq := @fun l x h => by
    change ofc58 l = some x at h; unfold ofc58 at h
    split at h
    · obtain ⟨v0, h0, h⟩ := bindS h
      obtain ⟨v1, h1, h⟩ := bindS h; obtain ⟨v2, h2, h⟩ := bindS h; obtain ⟨v3, h3, h⟩ := bindS h; obtain ⟨v4, h4, h⟩ := bindS h; obtain ⟨v5, h5, h⟩ := bindS h; obtain ⟨v6, h6, h⟩ := bindS h; obtain ⟨v7, h7, h⟩ := bindS h; obtain ⟨v8, h8, h⟩ := bindS h; obtain ⟨v9, h9, h⟩ := bindS h; obtain ⟨v10, h10, h⟩ := bindS h; obtain ⟨v11, h11, h⟩ := bindS h; obtain ⟨v12, h12, h⟩ := bindS h; obtain ⟨v13, h13, h⟩ := bindS h; obtain ⟨v14, h14, h⟩ := bindS h; obtain ⟨v15, h15, h⟩ := bindS h; obtain ⟨v16, h16, h⟩ := bindS h; obtain ⟨v17, h17, h⟩ := bindS h; obtain ⟨v18, h18, h⟩ := bindS h; obtain ⟨v19, h19, h⟩ := bindS h; obtain ⟨v20, h20, h⟩ := bindS h; cases h; exact ⟨_, _, rfl, xS_cq h0, _, _, rfl, xS_cq h1, _, _, rfl, xI_cq h2, _, _, rfl, xI_cq h3, _, _, rfl, xI_cq h4, _, _, rfl, xI_cq h5, _, _, rfl, xS_cq h6, _, _, rfl, xS_cq h7, _, _, rfl, xS_cq h8, _, _, rfl, xS_cq h9, _, _, rfl, xI_cq h10, _, _, rfl, xS_cq h11, _, _, rfl, xS_cq h12, _, _, rfl, xS_cq h13, _, _, rfl, xS_cq h14, _, _, rfl, xS_cq h15, _, _, rfl, xS_cq h16, _, _, rfl, xS_cq h17, _, _, rfl, xI_cq h18, _, _, rfl, xI_cq h19, _, _, rfl, xI_cq h20, rfl⟩
    · cases h
  eqc := fun d a b c1 c2 hd h1 h2 => by cases hd
def ofc38 : List (SV DD) → Option (DD 38)
 | [.fel e xs i off] => match castL e 58 xs with
  | some [x] => bif decide (i = 0) && Nat.beq off 0 then some ⟨x⟩ else none
  | _ => none
 | _ => none
def ce38 : CE DD := ⟨38, fun x => [.fel 58 [x.val] 0 0], ofc38, none⟩
theorem ceOk38 : ce38.Ok where
  rdi := @fun H ρ cs x => ⟨fun h => by
    obtain ⟨A, n, c, s, h, h1⟩ := (show Dt.rd (α := Ptr q27) H cs x from h)
    exact ⟨_, [], h, ⟨A, n, c, s, rfl, h1, Int.le_refl _, by show (0 : Int) < ((1 : Nat) : Int); decide⟩, rfl⟩, fun h => by
    obtain ⟨v, r, e, ⟨A, n, c, s, h, h1, _⟩, e2⟩ := h; have e2 : r = [] := e2; subst e2; subst e; subst h
    exact (show Dt.rd (α := Ptr q27) H _ x from ⟨A, n, c, s, rfl, h1⟩)⟩
  cq := @fun l x h => by
    change ofc38 l = some x at h; unfold ofc38 at h
    split at h
    · split at h
      · rename_i e xs i off y hc
        obtain ⟨hb, h⟩ := cif h; cases h; obtain ⟨he, h1⟩ := q71 hc; subst he; subst h1; rw [Bool.and_eq_true] at hb; obtain ⟨hb1, hb2⟩ := hb; have hb1 := of_decide_eq_true hb1; have hb2 := Nat.eq_of_beq_eq_true hb2; subst hb1; subst hb2; exact ⟨_, _, rfl, .inr ⟨rfl, rfl, fun _ _ _ h => h⟩, rfl⟩
      · cases h
    · cases h
  eqc := fun d a b c1 c2 hd h1 h2 => by cases hd
def q590 : List (SV DD) → Option (DD 133)
 | [a0, a1, a2, a3, a4, a5] => (xI a0).bind fun v0 => (xS 3 a1).bind fun v1 => (xS 3 a2).bind fun v2 => (xS 3 a3).bind fun v3 => (xS 73 a4).bind fun v4 => (xS 4 a5).bind fun v5 => some ⟨⟨v0, v1, v2, v3, v4⟩, v5⟩
 | _ => none
def ce133 : CE DD := ⟨133, fun x => [.i .i64 (x.c.Number), .fsl 3 (x.c.Sizes), .fsl 3 (x.c.Positions), .fsl 3 (x.c.Nodes), .fsl 73 (x.c.Writes), .fsl 4 (x.part)], q590, none⟩
theorem ceOk133 : ce133.Ok where
  rdi := @fun H ρ cs x => ⟨fun h => by
    obtain ⟨A0, n0, c0, s0, A1, n1, c1, s1, A2, n2, c2, s2, A3, n3, c3, s3, A4, n4, c4, s4, h, h0, h1, h2, h3, h4⟩ := (show Dt.rd (α := q29) H cs x from h)
    subst h; exact ⟨_, _, rfl, rfl, _, _, rfl, ⟨A0, n0, c0, s0, rfl, h0⟩, _, _, rfl, ⟨A1, n1, c1, s1, rfl, h1⟩, _, _, rfl, ⟨A2, n2, c2, s2, rfl, h2⟩, _, _, rfl, ⟨A3, n3, c3, s3, rfl, h3⟩, _, _, rfl, ⟨A4, n4, c4, s4, rfl, h4⟩, rfl⟩, fun h => by
    obtain ⟨v0, r0, e0, p0, v1, r1, e1, ⟨A0, n0, c0, s0, p1, h0⟩, v2, r2, e2, ⟨A1, n1, c1, s1, p2, h1⟩, v3, r3, e3, ⟨A2, n2, c2, s2, p3, h2⟩, v4, r4, e4, ⟨A3, n3, c3, s3, p4, h3⟩, v5, r5, e5, ⟨A4, n4, c4, s4, p5, h4⟩, e⟩ := h; have e : r5 = [] := e; subst e; subst e5; subst e4; subst e3; subst e2; subst e1; subst e0; have p0 : v0 = _ := p0; subst p0; subst p1; subst p2; subst p3; subst p4; subst p5
    exact (show Dt.rd (α := q29) H _ x from ⟨A0, n0, c0, s0, A1, n1, c1, s1, A2, n2, c2, s2, A3, n3, c3, s3, A4, n4, c4, s4, rfl, h0, h1, h2, h3, h4⟩)⟩
  cq := @fun l x h => by
    change q590 l = some x at h; unfold q590 at h
    split at h
    · obtain ⟨v0, h0, h⟩ := bindS h
      obtain ⟨v1, h1, h⟩ := bindS h; obtain ⟨v2, h2, h⟩ := bindS h; obtain ⟨v3, h3, h⟩ := bindS h; obtain ⟨v4, h4, h⟩ := bindS h; obtain ⟨v5, h5, h⟩ := bindS h; cases h; exact ⟨_, _, rfl, xI_cq h0, _, _, rfl, xS_cq h1, _, _, rfl, xS_cq h2, _, _, rfl, xS_cq h3, _, _, rfl, xS_cq h4, _, _, rfl, xS_cq h5, rfl⟩
    · cases h
  eqc := fun d a b c1 c2 hd h1 h2 => by cases hd
def q591 : List (SV DD) → Option (DD 184)
 | [a0, a1] => (xI a0).bind fun v0 => (xI a1).bind fun v1 => some ⟨v0, v1⟩
 | _ => none
def ce184 : CE DD := ⟨184, fun x => [.i .i64 (x.volume), .i .i64 (x.sector)], q591, some (inferInstanceAs (DecidableEq q9))⟩
theorem sc184 (a b : q9) : (([.i .i64 (a.volume), .i .i64 (a.sector)] : List Sc) = [.i .i64 (b.volume), .i .i64 (b.sector)]) ↔ a = b := by
  cases a; cases b; simp
theorem ceOk184 : ce184.Ok where
  rdi := @fun H ρ cs x => ⟨fun h => by
    obtain h := (show Dt.rd (α := q9) H cs x from h)
    subst h; exact ⟨_, _, rfl, rfl, _, _, rfl, rfl, rfl⟩, fun h => by
    obtain ⟨v0, r0, e0, p0, v1, r1, e1, p1, e⟩ := h; have e : r1 = [] := e; subst e; subst e1; subst e0; have p0 : v0 = _ := p0; subst p0; have p1 : v1 = _ := p1; subst p1
    exact (show Dt.rd (α := q9) H _ x from rfl)⟩
  cq := @fun l x h => by
    change q591 l = some x at h; unfold q591 at h
    split at h
    · obtain ⟨v0, h0, h⟩ := bindS h
      obtain ⟨v1, h1, h⟩ := bindS h; cases h; exact ⟨_, _, rfl, xI_cq h0, _, _, rfl, xI_cq h1, rfl⟩
    · cases h
  eqc := fun d a b c1 c2 hd h1 h2 => by
    cases h1; cases h2; exact sc184 a b
def ofc50 : List (SV DD) → Option (DD 50)
 | [a0] => (xS 103 a0).bind fun v0 => some v0
 | _ => none
def ce50 : CE DD := ⟨50, fun x => [.fsl 103 (x)], ofc50, none⟩
theorem ceOk50 : ce50.Ok where
  rdi := @fun H ρ cs x => ⟨fun h => by
    obtain ⟨A0, n0, c0, s0, h, h0⟩ := (show Dt.rd (α := List q11) H cs x from h)
    subst h; exact ⟨_, _, rfl, ⟨A0, n0, c0, s0, rfl, h0⟩, rfl⟩, fun h => by
    obtain ⟨v0, r0, e0, ⟨A0, n0, c0, s0, p0, h0⟩, e⟩ := h; have e : r0 = [] := e; subst e; subst e0; subst p0
    exact (show Dt.rd (α := List q11) H _ x from ⟨A0, n0, c0, s0, rfl, h0⟩)⟩
  cq := @fun l x h => by
    change ofc50 l = some x at h; unfold ofc50 at h
    split at h
    · obtain ⟨v0, h0, h⟩ := bindS h
      cases h; exact ⟨_, _, rfl, xS_cq h0, rfl⟩
    · cases h
  eqc := fun d a b c1 c2 hd h1 h2 => by cases hd
def ofc51 : List (SV DD) → Option (DD 51)
 | [a0] => (xS 4 a0).bind fun v0 => some v0
 | _ => none
def ce51 : CE DD := ⟨51, fun x => [.fsl 4 (x)], ofc51, none⟩
theorem ceOk51 : ce51.Ok where
  rdi := @fun H ρ cs x => ⟨fun h => by
    obtain ⟨A0, n0, c0, s0, h, h0⟩ := (show Dt.rd (α := List Bool) H cs x from h)
    subst h; exact ⟨_, _, rfl, ⟨A0, n0, c0, s0, rfl, h0⟩, rfl⟩, fun h => by
    obtain ⟨v0, r0, e0, ⟨A0, n0, c0, s0, p0, h0⟩, e⟩ := h; have e : r0 = [] := e; subst e; subst e0; subst p0
    exact (show Dt.rd (α := List Bool) H _ x from ⟨A0, n0, c0, s0, rfl, h0⟩)⟩
  cq := @fun l x h => by
    change ofc51 l = some x at h; unfold ofc51 at h
    split at h
    · obtain ⟨v0, h0, h⟩ := bindS h
      cases h; exact ⟨_, _, rfl, xS_cq h0, rfl⟩
    · cases h
  eqc := fun d a b c1 c2 hd h1 h2 => by cases hd
def q592 : List (SV DD) → Option (DD 114)
 | [a0, a1] => (xS 3 a0).bind fun v0 => (xS 3 a1).bind fun v1 => some ⟨v0, v1⟩
 | _ => none
def ce114 : CE DD := ⟨114, fun x => [.fsl 3 (x.e0), .fsl 3 (x.e1)], q592, none⟩
theorem ceOk114 : ce114.Ok where
  rdi := @fun H ρ cs x => ⟨fun h => by
    obtain ⟨A0, n0, c0, s0, A1, n1, c1, s1, h, h0, h1⟩ := (show Dt.rd (α := q16) H cs x from h)
    subst h; exact ⟨_, _, rfl, ⟨A0, n0, c0, s0, rfl, h0⟩, _, _, rfl, ⟨A1, n1, c1, s1, rfl, h1⟩, rfl⟩, fun h => by
    obtain ⟨v0, r0, e0, ⟨A0, n0, c0, s0, p0, h0⟩, v1, r1, e1, ⟨A1, n1, c1, s1, p1, h1⟩, e⟩ := h; have e : r1 = [] := e; subst e; subst e1; subst e0; subst p0; subst p1
    exact (show Dt.rd (α := q16) H _ x from ⟨A0, n0, c0, s0, A1, n1, c1, s1, rfl, h0, h1⟩)⟩
  cq := @fun l x h => by
    change q592 l = some x at h; unfold q592 at h
    split at h
    · obtain ⟨v0, h0, h⟩ := bindS h
      obtain ⟨v1, h1, h⟩ := bindS h; cases h; exact ⟨_, _, rfl, xS_cq h0, _, _, rfl, xS_cq h1, rfl⟩
    · cases h
  eqc := fun d a b c1 c2 hd h1 h2 => by cases hd
def tab : Tb DD := [ce4, ce5, ce3, ce70, ce73, ce47, ce26, ce28, ce32, ce33, ce23, ce94, ce66, ce24, ce71, ce55, ce54, ce49, ce103, ce53, ce68, ce160, ce58, ce38, ce133, ce184, ce50, ce51, ce114]
theorem tabOk : TbOk tab := ⟨ceOk4, ceOk5, ceOk3, ceOk70, ceOk73, ceOk47, ceOk26, ceOk28, ceOk32, ceOk33, ceOk23, ceOk94, ceOk66, ceOk24, ceOk71, ceOk55, ceOk54, ceOk49, ceOk103, ceOk53, ceOk68, ceOk160, ceOk58, ceOk38, ceOk133, ceOk184, ceOk50, ceOk51, ceOk114, trivial⟩
theorem rd5 : q37 Tryz.prog 5 (BitVec 8) := q37.byte Tryz.underlying5 (by kernel_rfl)
theorem rd22 : q37 Tryz.prog 22 (List (BitVec 8)) := q37.slice Tryz.underlying22 (by kernel_rfl) rd5 (by decide)
theorem rd3 : q37 Tryz.prog 3 (Int) := q37.int Tryz.underlying3 (by kernel_rfl)
theorem rd23 : q37 Tryz.prog 23 (List Int) := q37.slice Tryz.underlying23 (by kernel_rfl) rd3 (by decide)
theorem rd70 : q37 Tryz.prog 70 (Sec) := q37.sec Tryz.underlying70 Tryz.underlying5 (by kernel_rfl) (by kernel_rfl)
theorem rd71 : q37 Tryz.prog 71 (List Sec) := q37.slice Tryz.underlying71 (by kernel_rfl) rd70 (by decide)
instance rg_api_Write : Rg q8 := ⟨fun x => Rg.rg x.Volume ∧ Rg.rg x.Start ∧ Rg.rg x.Data⟩
theorem rd73 : q37 Tryz.prog 73 (q8) := (@Reads.struct Tryz.prog 73 _ (Int × Int × List Sec × Unit) (@datProd _ _ (datD (Int)) (@datProd _ _ (datD (Int)) (@datProd _ _ (datD (List Sec)) datUnit))) Tryz.underlying73 (by kernel_rfl) (@q91.cons _ _ _ _ _ _ (datD (Int)) _ rfl rd3 (@q91.cons _ _ _ _ _ _ (datD (Int)) _ rfl rd3 (@q91.cons _ _ _ _ _ _ (datD (List Sec)) _ rfl rd71 (.nil _))))).map rfl fun {H cs a} h => by
  obtain ⟨a0, a1, a2, _⟩ := a; obtain ⟨_, _, rfl, ⟨rfl, r0⟩, _, _, rfl, ⟨rfl, r1⟩, _, _, rfl, ⟨⟨A3, n3, c3, s3, rfl, hF3⟩, r2⟩, hz⟩ := h; cases hz; exact ⟨⟨a0, a1, a2⟩, ⟨A3, n3, c3, s3, rfl, hF3⟩, r0, r1, r2⟩
theorem rd47 : q37 Tryz.prog 47 (List q8) := q37.slice Tryz.underlying47 (by kernel_rfl) rd73 (by decide)
theorem rd24 : q37 Tryz.prog 24 (List (List q8)) := q37.slice Tryz.underlying24 (by kernel_rfl) rd47 (by decide)
instance rg_standbytop_RunReplication : Rg q13 := ⟨fun x => Rg.rg x.Capacity ∧ Rg.rg x.Period ∧ Rg.rg x.Latency ∧ Rg.rg x.Apply ∧ Rg.rg x.Sizes ∧ Rg.rg x.Ticks⟩
theorem rd26 : q37 Tryz.prog 26 (q13) := (@Reads.struct Tryz.prog 26 _ (List (BitVec 8) × BitVec 8 × BitVec 8 × BitVec 8 × List Int × List (List q8) × Unit) (@datProd _ _ (datD (List (BitVec 8))) (@datProd _ _ (datD (BitVec 8)) (@datProd _ _ (datD (BitVec 8)) (@datProd _ _ (datD (BitVec 8)) (@datProd _ _ (datD (List Int)) (@datProd _ _ (datD (List (List q8))) datUnit)))))) Tryz.underlying26 (by kernel_rfl) (@q91.cons _ _ _ _ _ _ (datD (List (BitVec 8))) _ rfl rd22 (@q91.cons _ _ _ _ _ _ (datD (BitVec 8)) _ rfl rd5 (@q91.cons _ _ _ _ _ _ (datD (BitVec 8)) _ rfl rd5 (@q91.cons _ _ _ _ _ _ (datD (BitVec 8)) _ rfl rd5 (@q91.cons _ _ _ _ _ _ (datD (List Int)) _ rfl rd23 (@q91.cons _ _ _ _ _ _ (datD (List (List q8))) _ rfl rd24 (.nil _)))))))).map rfl fun {H cs a} h => by
  obtain ⟨a0, a1, a2, a3, a4, a5, _⟩ := a; obtain ⟨_, _, rfl, ⟨⟨A5, n5, c5, s5, rfl, hF5⟩, r0⟩, _, _, rfl, ⟨rfl, r1⟩, _, _, rfl, ⟨rfl, r2⟩, _, _, rfl, ⟨rfl, r3⟩, _, _, rfl, ⟨⟨A10, n10, c10, s10, rfl, hF10⟩, r4⟩, _, _, rfl, ⟨⟨A12, n12, c12, s12, rfl, hF12⟩, r5⟩, hz⟩ := h; cases hz; exact ⟨⟨a0, a1, a2, a3, a4, a5⟩, ⟨A5, n5, c5, s5, A10, n10, c10, s10, A12, n12, c12, s12, rfl, hF5, hF10, hF12⟩, r0, r1, r2, r3, r4, r5⟩
end Go.Proofs.YtklnkmdgajiebaaGreat
namespace Go.Proofs.YtklnkmdgajiebaaGreat
open Go.RowKit Go.ChangeShapes Go.WideShapes Go.ChangeAt
theorem Tryz.own : ownKnob Tryz.prog.godebug = none := by kernel_rfl
theorem Tryz.laidOut : laidOutB Tryz.prog = true := by kernel_rfl
theorem lawRes (y : TupD DD [4]) (hy : y.1 = true) {H : Hp} {v : Value} {L : List Ent} (hr : ResR Tryz.prog tab [4] [[false]] y H v L) : ∃ z, z = true ∧ v = .bool z ∧ L = [] := by
  obtain ⟨ρ, _, _, _, _, h1, h2⟩ := hr 0 (fun _ => none) (fun _ _ => rfl) _ _ _ (show resE Tryz.prog tab _ _ y 0 = some (.b y.1, [], 0) by kernel_rfl); exact ⟨y.1, hy, h1, h2⟩
theorem pkw26 (v : Value) (cs : List Value) : PkR Tryz.prog 26 v cs = (v = .agg cs.toArray) := by kernel_rfl
end Go.Proofs.YtklnkmdgajiebaaGreat
namespace Go.Proofs.YtklnkmdgajiebaaGreat
open Go.RowKit
def q247 (x0 : List q8) (a : Int) (rec1 : (Int) → Prop) (Φ : Bool → Prop) : Bool → Prop
 | b =>
 (b = true →
 inX a x0.length ∧
 (24 < (((ix x0 a).Data).length : Int) →
 Φ false) ∧
 (¬ (24 < (((ix x0 a).Data).length : Int)) →
 inI (a + 1) ∧
 rec1 (a + 1))) ∧
 (¬ (b = true) →
 Φ (decide ((x0.length : Int) ≤ 40)))
def q159 (x0 : List q8) (Φ : Bool → Prop) : (Int) → ((Int) → Prop) → Prop
 | a, rec1 =>
 Join (q247 x0 a rec1 Φ) fun J2 =>
 (a < (x0.length : Int) →
 J2 (decide (a < 60))) ∧
 (¬ (a < (x0.length : Int)) →
 J2 false)
def q194 (x0 : List q8) (Φ : Bool → Prop) : Prop :=
 LoopW (q159 x0 Φ) 0
def Z0 (x0 : List q8) (Φ : Int → Prop) : (Int × Int) → ((Int × Int) → Prop) → Prop
 | (b, a), rec1 =>
 (a < (x0.length : Int) →
 inX a x0.length ∧
 inI (b + (((ix x0 a).Data).length : Int)) ∧
 inI (a + 1) ∧
 rec1 ((b + (((ix x0 a).Data).length : Int)), (a + 1))) ∧
 (¬ (a < (x0.length : Int)) →
 Φ b)
def Z1 (x0 : List q8) (Φ : Int → Prop) : Prop :=
 LoopW (Z0 x0 Φ) (0, 0)
def Z2 (x0 : q13) (a : Int) (b : List Int) (rec2 : (Int × List Int) → Prop) (Φ : q15 × Bool → Prop) : Bool → Prop
 | d =>
 (d = true →
 Φ ((q15.mk b ([] : List Int) (((x0.Period.toNat : Int) % 6) + 1) ((x0.Latency.toNat : Int) % 5) ((x0.Apply.toNat : Int) % 4)), false)) ∧
 (¬ (d = true) →
 ∃ c : Int × Unit, Z1 (ix x0.Ticks a) (fun z => (z, ()) = c) ∧
 lenOk (b ++ ([c.1] : List Int)).length 8 ∧
 inI (a + 1) ∧
 rec2 ((a + 1), (b ++ ([c.1] : List Int))))
def Z3 (x0 : q13) (c : List Int) (d : Int) (Φ : q15 × Bool → Prop) : (Int × List Int) → ((Int × List Int) → Prop) → Prop
 | (a, b), rec5 =>
 (a < (x0.Capacity.length : Int) →
 inX a x0.Capacity.length ∧
 (0 ≤ ((ix x0.Capacity a).toNat : Int) ∧ 8 ≠ (0 : Int)) ∧
 lenOk (b ++ ([(((ix x0.Capacity a).toNat : Int) % 8)] : List Int)).length 8 ∧
 inI (a + 1) ∧
 rec5 ((a + 1), (b ++ ([(((ix x0.Capacity a).toNat : Int) % 8)] : List Int)))) ∧
 (¬ (a < (x0.Capacity.length : Int)) →
 Φ ((q15.mk c b (((x0.Period.toNat : Int) % 6) + 1) ((x0.Latency.toNat : Int) % 5) ((x0.Apply.toNat : Int) % 4)), decide (d ≤ 200)))
def Z4 (x0 : q13) (b : List Int) (Φ : q15 × Bool → Prop) : (Int × Int) → ((Int × Int) → Prop) → Prop
 | (c, a), rec4 =>
 (a < (b.length : Int) →
 inX a b.length ∧
 inI (c + (ix b a)) ∧
 inI (a + 1) ∧
 rec4 ((c + (ix b a)), (a + 1))) ∧
 (¬ (a < (b.length : Int)) →
 LoopW (Z3 x0 b c Φ) (0, ([] : List Int)))
def Z5 (x0 : q13) (Φ : q15 × Bool → Prop) : (Int × List Int) → ((Int × List Int) → Prop) → Prop
 | (a, b), rec2 =>
 (a < (x0.Ticks.length : Int) →
 inX a x0.Ticks.length ∧
 Join (Z2 x0 a b rec2 Φ) fun J3 =>
 q194 (ix x0.Ticks a) fun c =>
 (¬ (c = true) →
 J3 true) ∧
 (¬ (¬ (c = true)) →
 J3 (decide (6 < ((ix x0.Ticks a).length : Int))))) ∧
 (¬ (a < (x0.Ticks.length : Int)) →
 LoopW (Z4 x0 b Φ) (0, 0))
def Z6 (x0 : q13) (Φ : q15 × Bool → Prop) : Bool → Prop
 | a =>
 (a = true →
 Φ ((q15.mk ([] : List Int) ([] : List Int) (((x0.Period.toNat : Int) % 6) + 1) ((x0.Latency.toNat : Int) % 5) ((x0.Apply.toNat : Int) % 4)), false)) ∧
 (¬ (a = true) →
 LoopW (Z5 x0 Φ) (0, ([] : List Int)))
def Z7 (x0 : q13) (Φ : q15 × Bool → Prop) : Prop :=
 (0 ≤ (x0.Period.toNat : Int) ∧ 6 ≠ (0 : Int)) ∧
 inI (((x0.Period.toNat : Int) % 6) + 1) ∧
 (0 ≤ (x0.Latency.toNat : Int) ∧ 5 ≠ (0 : Int)) ∧
 (0 ≤ (x0.Apply.toNat : Int) ∧ 4 ≠ (0 : Int)) ∧
 Join (Z6 x0 Φ) fun J1 =>
 (24 < (x0.Ticks.length : Int) →
 J1 true) ∧
 (¬ (24 < (x0.Ticks.length : Int)) →
 (30 < (x0.Capacity.length : Int) →
 J1 true) ∧
 (¬ (30 < (x0.Capacity.length : Int)) →
 J1 (decide ((x0.Capacity.length : Int) = 0))))
def Z8 (x0 : Int) (x1 : Int) (x2 : Int) (Φ : Bool → Prop) : Prop :=
 (x1 ≤ x0 →
 Φ (decide (x0 ≤ x2))) ∧
 (¬ (x1 ≤ x0) →
 Φ false)
def Z9 (x0 : Int) (Φ : Bool → Prop) : Prop :=
 Z8 x0 0 4096 fun a =>
 Φ (decide (¬ (a = true)))
def Z10 (x0 : List Int) (Φ : Bool → Prop) : (Int) → ((Int) → Prop) → Prop
 | a, rec1 =>
 (a < (x0.length : Int) →
 inX a x0.length ∧
 Z9 (ix x0 a) fun b =>
 (b = true →
 Φ (decide (¬ (0 ≤ a)))) ∧
 (¬ (b = true) →
 inI (a + 1) ∧
 rec1 (a + 1))) ∧
 (¬ (a < (x0.length : Int)) →
 Φ (decide (¬ (0 ≤ ((-1) : Int)))))
def Z11 (x0 : List Int) (Φ : Bool → Prop) : Prop :=
 LoopW (Z10 x0 Φ) 0
def Z12 (x0 : q15) (Φ : Int → Prop) : Bool → Prop
 | a =>
 (a = true →
 Φ 6) ∧
 (¬ (a = true) →
 Z11 x0.Writes fun b =>
 (¬ (b = true) →
 Φ 2) ∧
 (¬ (¬ (b = true)) →
 Z11 x0.Capacity fun c =>
 (¬ (c = true) →
 Φ 2) ∧
 (¬ (¬ (c = true)) →
 Z8 x0.Period 1 4096 fun d =>
 (¬ (d = true) →
 Φ 2) ∧
 (¬ (¬ (d = true)) →
 Z8 x0.Latency 0 1073741824 fun e =>
 (¬ (e = true) →
 Φ 2) ∧
 (¬ (¬ (e = true)) →
 Z8 x0.Apply 0 1073741824 fun f =>
 (¬ (f = true) →
 Φ 2) ∧
 (¬ (¬ (f = true)) →
 Φ 0))))))
def Z13 (x0 : q15) (Φ : Int → Prop) : Prop :=
 Join (Z12 x0 Φ) fun J1 =>
 (4096 < (x0.Writes.length : Int) →
 J1 true) ∧
 (¬ (4096 < (x0.Writes.length : Int)) →
 Z8 (x0.Capacity.length : Int) 1 4096 fun a =>
 J1 (decide (¬ (a = true))))
def Z14 (x0 : List Int) (x1 : Int) : (List (List Int × Unit) × Int) → ((List (List Int × Unit) × Int) → Prop) → Prop
 | (l1, a), rec1 =>
 (a < (x0.length : Int) →
 inS a (x0.length : Int) x0.length ∧
 inI (a + (if ((sub x0 a (x0.length : Int)).length : Int) < x1 then ((sub x0 a (x0.length : Int)).length : Int) else x1)) ∧
 inI (a + (if ((sub x0 a (x0.length : Int)).length : Int) < x1 then ((sub x0 a (x0.length : Int)).length : Int) else x1)) ∧
 inS a (a + (if ((sub x0 a (x0.length : Int)).length : Int) < x1 then ((sub x0 a (x0.length : Int)).length : Int) else x1)) x0.length ∧
 inS (a + (if ((sub x0 a (x0.length : Int)).length : Int) < x1 then ((sub x0 a (x0.length : Int)).length : Int) else x1)) (a + (if ((sub x0 a (x0.length : Int)).length : Int) < x1 then ((sub x0 a (x0.length : Int)).length : Int) else x1)) x0.length ∧
 Yl l1 fun b r3 => ((sub x0 a (a + (if ((sub x0 a (x0.length : Int)).length : Int) < x1 then ((sub x0 a (x0.length : Int)).length : Int) else x1))), ()) = b ∧ (
 inI (a + x1) ∧
 rec1 (r3, (a + x1))) ∧ (
 True)) ∧
 (¬ (a < (x0.length : Int)) →
 l1 = [])
def q39 (x0 : List Int) (x1 : Int) (l : List (List Int × Unit)) : Prop :=
 LoopW (Z14 x0 x1) (l, 0)
def Z15 (d : List Int) (rec1 : (List (List Int × Unit) × List Int) → Prop) (b : List Int × Unit) (r3 : List (List Int × Unit)) (_ : List Int → Prop) : (Int × Int) → ((Int × Int) → Prop) → Prop
 | (c, a), rec2 =>
 (a < (b.1.length : Int) →
 inX a b.1.length ∧
 inI (c + (ix b.1 a)) ∧
 inI (a + 1) ∧
 rec2 ((c + (ix b.1 a)), (a + 1))) ∧
 (¬ (a < (b.1.length : Int)) →
 lenOk (d ++ ([c] : List Int)).length 8 ∧
 rec1 (r3, (d ++ ([c] : List Int))))
def Z16 (Φ : List Int → Prop) : (List (List Int × Unit) × List Int) → ((List (List Int × Unit) × List Int) → Prop) → Prop
 | (lst, a), rec1 =>
 match lst with
 | [] =>
 Φ a
 | b :: r3 =>
 LoopW (Z15 a rec1 b r3 Φ) (0, 0)
def Z17 (x0 : q15) (Φ : List Int → Prop) : Prop :=
 (x0.Period < 1 →
 False) ∧
 (¬ (x0.Period < 1) →
 ∃ l6 : List (List Int × Unit), q39 x0.Writes x0.Period l6 ∧
 LoopW (Z16 Φ) (l6, ([] : List Int)))
def Z18 (x0 : Ptr q23) (x1 : Int) (Φ : Int → Prop) : Prop :=
 inI ((x0.val.sums.length : Int) - 1) ∧
 (x1 ≤ ((x0.val.sums.length : Int) - 1) →
 inX x1 x0.val.sums.length ∧
 Φ (ix x0.val.sums x1)) ∧
 (¬ (x1 ≤ ((x0.val.sums.length : Int) - 1)) →
 inX ((x0.val.sums.length : Int) - 1) x0.val.sums.length ∧
 inI (x1 - ((x0.val.sums.length : Int) - 1)) ∧
 inI ((x1 - ((x0.val.sums.length : Int) - 1)) * x0.val.last) ∧
 inI ((ix x0.val.sums ((x0.val.sums.length : Int) - 1)) + ((x1 - ((x0.val.sums.length : Int) - 1)) * x0.val.last)) ∧
 Φ ((ix x0.val.sums ((x0.val.sums.length : Int) - 1)) + ((x1 - ((x0.val.sums.length : Int) - 1)) * x0.val.last)))
def Z19 (x0 : q18) (a : Int) (rec1 : (Int × Int × Int) → Prop) (_ : Int → Prop) : Int → Prop
 | b =>
 inX a x0.Close.length ∧
 inI ((ix x0.Applied a) - (ix x0.Close a)) ∧
 inI (a + 1) ∧
 rec1 ((if b < ((ix x0.Applied a) - (ix x0.Close a)) then ((ix x0.Applied a) - (ix x0.Close a)) else b), (ix x0.Close a), (a + 1))
def Z20 (x0 : q18) (b : Int) (c : Int) (a : Int) (rec1 : (Int × Int × Int) → Prop) (Φ : Int → Prop) : Bool → Prop
 | d =>
 (d = true →
 inI ((ix x0.Applied a) - 1) ∧
 inI (((ix x0.Applied a) - 1) - c) ∧
 Z19 x0 a rec1 Φ (if b < (((ix x0.Applied a) - 1) - c) then (((ix x0.Applied a) - 1) - c) else b)) ∧
 (¬ (d = true) →
 Z19 x0 a rec1 Φ b)
def Z21 (x0 : q18) (Φ : Int → Prop) : (Int × Int × Int) → ((Int × Int × Int) → Prop) → Prop
 | (b, c, a), rec1 =>
 (a < (x0.Applied.length : Int) →
 inX a x0.Applied.length ∧
 Join (Z20 x0 b c a rec1 Φ) fun J3 =>
 (a = 0 →
 J3 true) ∧
 (¬ (a = 0) →
 inI (a - 1) ∧
 inX (a - 1) x0.Applied.length ∧
 J3 (decide ((ix x0.Applied (a - 1)) < (ix x0.Applied a))))) ∧
 (¬ (a < (x0.Applied.length : Int)) →
 Φ b)
def Z22 (x0 : q18) (Φ : Int → Prop) : Prop :=
 LoopW (Z21 x0 Φ) (0, 0, 0)
abbrev Y5 := Int × Int × List Int × List Int × List Int × List Int
def Z23 (x0 : q15) (c : Int) (a : Int) (d : List Int) (e : List Int) (f : List Int) (g : List Int) (rec2 : (Y5) → Prop) (Φ : q18 × Int → Prop) : Int × Bool → Prop
 | (b, h) =>
 (¬ (h = true) →
 (
 Φ ((q18.mk ([] : List Int) ([] : List Int) ([] : List Int) ([] : List Int) 0), 21)) ∧
 (
 Φ ((q18.mk ([] : List Int) ([] : List Int) ([] : List Int) ([] : List Int) 0), 21))) ∧
 (¬ (¬ (h = true)) →
 lenOk (d ++ ([((a + 1) * x0.Period)] : List Int)).length 8 ∧
 lenOk (e ++ ([(if ((a + 1) * x0.Period) < c then c else ((a + 1) * x0.Period))] : List Int)).length 8 ∧
 lenOk (f ++ ([b] : List Int)).length 8 ∧
 inI (b + x0.Latency) ∧
 inI ((b + x0.Latency) + x0.Apply) ∧
 lenOk (g ++ ([((b + x0.Latency) + x0.Apply)] : List Int)).length 8 ∧
 inI (a + 1) ∧
 rec2 (b, (a + 1), (d ++ ([((a + 1) * x0.Period)] : List Int)), (e ++ ([(if ((a + 1) * x0.Period) < c then c else ((a + 1) * x0.Period))] : List Int)), (f ++ ([b] : List Int)), (g ++ ([((b + x0.Latency) + x0.Apply)] : List Int))))
def Z24 (x0 : q15) (h : Int) (i : List Int) (e : List Int) (d : Int) (b : Int) (J3 : (Int × Bool) → Prop) (f : Int) (_ : q18 × Int → Prop) : (Int × Int) → ((Int × Int) → Prop) → Prop
 | (a, c), rec4 =>
 (a < c →
 inI (a + c) ∧
 inI ((if ((b + 1) * x0.Period) < d then d else ((b + 1) * x0.Period)) + (((BitVec.ofInt 64 (a + c)) >>> ((1#64).toNat : Int).toNat).toInt)) ∧
 Z18 (Ptr.mk (q23.mk i h)) ((if ((b + 1) * x0.Period) < d then d else ((b + 1) * x0.Period)) + (((BitVec.ofInt 64 (a + c)) >>> ((1#64).toNat : Int).toNat).toInt)) fun g =>
 (¬ ((f + (ix e b)) ≤ g) →
 inI ((((BitVec.ofInt 64 (a + c)) >>> ((1#64).toNat : Int).toNat).toInt) + 1) ∧
 rec4 (((((BitVec.ofInt 64 (a + c)) >>> ((1#64).toNat : Int).toNat).toInt) + 1), c)) ∧
 (¬ (¬ ((f + (ix e b)) ≤ g)) →
 rec4 (a, ((BitVec.ofInt 64 (a + c)) >>> ((1#64).toNat : Int).toNat).toInt))) ∧
 (¬ (a < c) →
 inI ((if ((b + 1) * x0.Period) < d then d else ((b + 1) * x0.Period)) + a) ∧
 J3 (((if ((b + 1) * x0.Period) < d then d else ((b + 1) * x0.Period)) + a), true))
def Z25 (x0 : q15) (d : Int) (e : List Int) (c : List Int) (Φ : q18 × Int → Prop) : (Y5) → ((Y5) → Prop) → Prop
 | (b, a, h, i, j, k), rec2 =>
 (a < (c.length : Int) →
 inX a c.length ∧
 inI (a + 1) ∧
 inI ((a + 1) * x0.Period) ∧
 Join (Z23 x0 b a h i j k rec2 Φ) fun J3 =>
 Z18 (Ptr.mk (q23.mk e d)) (if ((a + 1) * x0.Period) < b then b else ((a + 1) * x0.Period)) fun f =>
 inI (f + (ix c a)) ∧
 inI ((e.length : Int) - 1) ∧
 ((ix c a) = 0 →
 J3 ((if ((a + 1) * x0.Period) < b then b else ((a + 1) * x0.Period)), true)) ∧
 (¬ ((ix c a) = 0) →
 Z18 (Ptr.mk (q23.mk e d)) (if (if ((a + 1) * x0.Period) < b then b else ((a + 1) * x0.Period)) < ((e.length : Int) - 1) then ((e.length : Int) - 1) else (if ((a + 1) * x0.Period) < b then b else ((a + 1) * x0.Period))) fun l =>
 ((f + (ix c a)) ≤ l →
 inI (((e.length : Int) - 1) - (if ((a + 1) * x0.Period) < b then b else ((a + 1) * x0.Period))) ∧
 LoopW (Z24 x0 d e c b a J3 f Φ) (0, (((e.length : Int) - 1) - (if ((a + 1) * x0.Period) < b then b else ((a + 1) * x0.Period))))) ∧
 (¬ ((f + (ix c a)) ≤ l) →
 (d = 0 →
 J3 (0, false)) ∧
 (¬ (d = 0) →
 Z18 (Ptr.mk (q23.mk e d)) (if (if ((a + 1) * x0.Period) < b then b else ((a + 1) * x0.Period)) < ((e.length : Int) - 1) then ((e.length : Int) - 1) else (if ((a + 1) * x0.Period) < b then b else ((a + 1) * x0.Period))) fun g =>
 inI ((f + (ix c a)) - g) ∧
 inI (((f + (ix c a)) - g) + d) ∧
 inI ((((f + (ix c a)) - g) + d) - 1) ∧
 (0 ≤ ((((f + (ix c a)) - g) + d) - 1) ∧ inI ((((f + (ix c a)) - g) + d) - 1) ∧ (0 : Int) < d) ∧
 inI ((if (if ((a + 1) * x0.Period) < b then b else ((a + 1) * x0.Period)) < ((e.length : Int) - 1) then ((e.length : Int) - 1) else (if ((a + 1) * x0.Period) < b then b else ((a + 1) * x0.Period))) + (((((f + (ix c a)) - g) + d) - 1) / d)) ∧
 J3 (((if (if ((a + 1) * x0.Period) < b then b else ((a + 1) * x0.Period)) < ((e.length : Int) - 1) then ((e.length : Int) - 1) else (if ((a + 1) * x0.Period) < b then b else ((a + 1) * x0.Period))) + (((((f + (ix c a)) - g) + d) - 1) / d)), true))))) ∧
 (¬ (a < (c.length : Int)) →
 Z22 (q18.mk h i j k 0) fun m =>
 (
 Φ ((q18.mk h i j k m), 0)) ∧
 (
 Φ ((q18.mk h i j k m), 0)))
def Z26 (x0 : q15) (Φ : q18 × Int → Prop) : (Int × Int × List Int) → ((Int × Int × List Int) → Prop) → Prop
 | (b, c, a), rec1 =>
 (b < (x0.Capacity.length : Int) →
 inX b x0.Capacity.length ∧
 inI ((a.length : Int) - 1) ∧
 inX ((a.length : Int) - 1) a.length ∧
 inI ((ix a ((a.length : Int) - 1)) + (ix x0.Capacity b)) ∧
 lenOk (a ++ ([((ix a ((a.length : Int) - 1)) + (ix x0.Capacity b))] : List Int)).length 8 ∧
 inI (b + 1) ∧
 rec1 ((b + 1), (ix x0.Capacity b), (a ++ ([((ix a ((a.length : Int) - 1)) + (ix x0.Capacity b))] : List Int)))) ∧
 (¬ (b < (x0.Capacity.length : Int)) →
 Z17 x0 fun d =>
 LoopW (Z25 x0 c a d Φ) (0, 0, ([] : List Int), ([] : List Int), ([] : List Int), ([] : List Int)))
def Z27 (x0 : q15) (Φ : q18 × Int → Prop) : Prop :=
 Z13 x0 fun a =>
 (a ≠ 0 →
 Φ ((q18.mk ([] : List Int) ([] : List Int) ([] : List Int) ([] : List Int) 0), a)) ∧
 (¬ (a ≠ 0) →
 LoopW (Z26 x0 Φ) (0, 0, ([0] : List Int)))
def Z28 (x0 : List Int) (b : Int) (e : List (List q8)) (rec1 : (Int × Int × List (List q8)) → Prop) (_ : List (List q8) × List Int → Prop) : (Int × Int × List q8) → ((Int × Int × List q8) → Prop) → Prop
 | (a, c, d), rec2 =>
 (c < (ix x0 b) →
 (8#64).toNat ≤ 64 ∧
 lenOk (d ++ ([(q8.mk 0 a ([(Sec.mk (1#8) (BitVec.ofInt 8 a) (BitVec.ofInt 8 (a / 2 ^ (8#64).toNat)) (0#8) (0#8) (0#8) (0#8) (0#8))] : List Sec))] : List q8)).length 40 ∧
 inI (a + 2) ∧
 inI (c + 1) ∧
 rec2 ((a + 2), (c + 1), (d ++ ([(q8.mk 0 a ([(Sec.mk (1#8) (BitVec.ofInt 8 a) (BitVec.ofInt 8 (a / 2 ^ (8#64).toNat)) (0#8) (0#8) (0#8) (0#8) (0#8))] : List Sec))] : List q8)))) ∧
 (¬ (c < (ix x0 b)) →
 lenOk (e ++ ([d] : List (List q8))).length 24 ∧
 inI (b + 1) ∧
 rec1 (a, (b + 1), (e ++ ([d] : List (List q8)))))
def Z29 (x0 : List Int) (Φ : List (List q8) × List Int → Prop) : (Int × Int × List (List q8)) → ((Int × Int × List (List q8)) → Prop) → Prop
 | (b, a, c), rec1 =>
 (a < (x0.length : Int) →
 inX a x0.length ∧
 LoopW (Z28 x0 a c rec1 Φ) (b, 0, ([] : List q8))) ∧
 (¬ (a < (x0.length : Int)) →
 Φ (c, ([(if 1 < b then b else 1)] : List Int)))
def Z30 (x0 : List Int) (Φ : List (List q8) × List Int → Prop) : Prop :=
 LoopW (Z29 x0 Φ) (0, 0, ([] : List (List q8)))
def Z31 (x0 : Int) (Φ : Bool → Prop) : Prop :=
 (x0 < 1 →
 Φ true) ∧
 (¬ (x0 < 1) →
 Φ (decide (4096 < x0)))
def Z32 (x0 : List Int) (Φ : Int → Prop) : (Int) → ((Int) → Prop) → Prop
 | a, rec1 =>
 (a < (x0.length : Int) →
 inX a x0.length ∧
 Z31 (ix x0 a) fun b =>
 (b = true →
 (0 ≤ a →
 Φ 2) ∧
 (¬ (0 ≤ a) →
 Φ 0)) ∧
 (¬ (b = true) →
 inI (a + 1) ∧
 rec1 (a + 1))) ∧
 (¬ (a < (x0.length : Int)) →
 (0 ≤ ((-1) : Int) →
 Φ 2) ∧
 (¬ (0 ≤ ((-1) : Int)) →
 Φ 0))
def Z33 (x0 : List Int) (Φ : Int → Prop) : Prop :=
 ((x0.length : Int) < 1 →
 Φ 6) ∧
 (¬ ((x0.length : Int) < 1) →
 (8 < (x0.length : Int) →
 Φ 6) ∧
 (¬ (8 < (x0.length : Int)) →
 LoopW (Z32 x0 Φ) 0))
def q217 (x0 : Int) (Φ : List Sec → Prop) : Prop :=
 0 ≤ x0 ∧
 lenOk x0.toNat 8 ∧
 Φ (List.replicate x0.toNat (sec0 : Sec))
def q411 (x0 : List Int) (Φ : List (List Sec) × Int → Prop) : (Int × List (List Sec)) → ((Int × List (List Sec)) → Prop) → Prop
 | (a, b), rec1 =>
 (a < (x0.length : Int) →
 inX a x0.length ∧
 q217 (ix x0 a) fun c =>
 lenOk (b ++ ([c] : List (List Sec))).length 24 ∧
 inI (a + 1) ∧
 rec1 ((a + 1), (b ++ ([c] : List (List Sec))))) ∧
 (¬ (a < (x0.length : Int)) →
 Φ (b, 0))
def q53 (x0 : List Int) (Φ : List (List Sec) × Int → Prop) : Prop :=
 Z33 x0 fun a =>
 (a ≠ 0 →
 Φ (([] : List (List Sec)), a)) ∧
 (¬ (a ≠ 0) →
 0 ≤ (x0.length : Int) ∧
 lenOk (x0.length : Int).toNat 24 ∧
 LoopW (q411 x0 Φ) (0, ([] : List (List Sec))))
def q34 (x0 : Int) (x1 : Int) (x2 : Int) (Φ : Bool → Prop) : Prop :=
 (x1 ≤ x0 →
 Φ (decide (x0 ≤ x2))) ∧
 (¬ (x1 ≤ x0) →
 Φ false)
def Z34 (x0 : List Int) (Φ : List Int → Prop) : Prop :=
 (x0 = [] →
 Φ ([] : List Int)) ∧
 (
 lenOk (([] : List Int) ++ x0).length 8 ∧
 Φ (([] : List Int) ++ x0))
def q160 (x0 : List Int) (x1 : Int) (x2 : Int) (Φ : q10 × Int → Prop) : Prop :=
 q53 x0 fun a =>
 (a.2 ≠ 0 →
 Φ ((q10.mk 0 ([] : List Int) ([] : List Int) ([] : List Int) ([] : List q8)), a.2)) ∧
 (¬ (a.2 ≠ 0) →
 q34 x1 1 8 fun b =>
 (¬ (b = true) →
 Φ ((q10.mk 0 ([] : List Int) ([] : List Int) ([] : List Int) ([] : List q8)), 6)) ∧
 (¬ (¬ (b = true)) →
 q34 x2 0 1073741823 fun c =>
 (¬ (c = true) →
 Φ ((q10.mk 0 ([] : List Int) ([] : List Int) ([] : List Int) ([] : List q8)), 2)) ∧
 (¬ (¬ (c = true)) →
 ∃ d : List Int × Unit, Z34 x0 (fun z => (z, ()) = d) ∧
 0 ≤ x1 ∧
 lenOk x1.toNat 8 ∧
 Φ ((q10.mk x2 d.1 (List.replicate x1.toNat (0 : Int)) ([] : List Int) ([] : List q8)), 0))))
def Z35 (x0 : BitVec 64) (x1 : BitVec 64) (Φ : BitVec 64 × BitVec 64 → Prop) : Prop :=
 Φ (((((x0 >>> ((32#64).toNat : Int).toNat) * (x1 >>> ((32#64).toNat : Int).toNat)) + ((((x0 >>> ((32#64).toNat : Int).toNat) * (x1 &&& (4294967295#64))) + (((x0 &&& (4294967295#64)) * (x1 &&& (4294967295#64))) >>> ((32#64).toNat : Int).toNat)) >>> ((32#64).toNat : Int).toNat)) + ((((((x0 >>> ((32#64).toNat : Int).toNat) * (x1 &&& (4294967295#64))) + (((x0 &&& (4294967295#64)) * (x1 &&& (4294967295#64))) >>> ((32#64).toNat : Int).toNat)) &&& (4294967295#64)) + ((x0 &&& (4294967295#64)) * (x1 >>> ((32#64).toNat : Int).toNat))) >>> ((32#64).toNat : Int).toNat)), (x0 * x1))
def Z36 (x0 : BitVec 64) (x1 : BitVec 64) (Φ : BitVec 64 × BitVec 64 → Prop) : Prop :=
 Z35 x0 x1 fun a =>
 Φ (a.1, a.2)
def Z37 (Φ : List Int → Prop) : (Int × List Int) → ((Int × List Int) → Prop) → Prop
 | (a, b), rec2 =>
 (a < (b.length : Int) →
 inS a (b.length : Int) b.length ∧
 inS 0 a b.length ∧
 inI (a + ((min (sub b 0 a).length (b.length - (a : Int).toNat) : Nat) : Int)) ∧
 rec2 ((a + ((min (sub b 0 a).length (b.length - (a : Int).toNat) : Nat) : Int)), (paste b a (sub b 0 a)))) ∧
 (¬ (a < (b.length : Int)) →
 Φ b)
def Z38 (x0 : List Int) (a : BitVec 64 × BitVec 64) (Φ : List Int → Prop) : Bool → Prop
 | b =>
 (b = true →
 False) ∧
 (¬ (b = true) →
 0 ≤ a.2.toInt ∧
 lenOk a.2.toInt.toNat 8 ∧
 LoopW (Z37 Φ) (((min x0.length ((List.replicate a.2.toInt.toNat (0 : Int)).length - (0 : Int).toNat) : Nat) : Int), (paste (List.replicate a.2.toInt.toNat (0 : Int)) 0 x0)))
def Z39 (x0 : List Int) (x1 : Int) (Φ : List Int → Prop) : Prop :=
 (x1 < 0 →
 False) ∧
 (¬ (x1 < 0) →
 Z36 (BitVec.ofInt 64 (x0.length : Int)) (BitVec.ofInt 64 x1) fun a =>
 Join (Z38 x0 a Φ) fun J1 =>
 ((0#64) < a.1 →
 J1 true) ∧
 (¬ ((0#64) < a.1) →
 J1 (decide ((9223372036854775807#64) < a.2))))
def q137 (x0 : Int) (x1 : Int) (x2 : Int) (Φ : q12 × Int → Prop) : Bool → Prop
 | a =>
 (a = true →
 Φ ((q12.mk 0 ([] : List q11) ([] : List Int) ([] : List Bool)), 2)) ∧
 (¬ (a = true) →
 ∃ b : List Int × Unit, Z39 ([x2] : List Int) x0 (fun z => (z, ()) = b) ∧
 0 ≤ x0 ∧
 lenOk x0.toNat 1 ∧
 Φ ((q12.mk x1 ([] : List q11) b.1 (List.replicate x0.toNat (false : Bool))), 0))
def q138 (x0 : Int) (x1 : Int) (x2 : Int) (Φ : q12 × Int → Prop) : Bool → Prop
 | a =>
 (a = true →
 Φ ((q12.mk 0 ([] : List q11) ([] : List Int) ([] : List Bool)), 6)) ∧
 (¬ (a = true) →
 Join (q137 x0 x1 x2 Φ) fun J2 =>
 (x1 < 1 →
 J2 true) ∧
 (¬ (x1 < 1) →
 (1024 < x1 →
 J2 true) ∧
 (¬ (1024 < x1) →
 (x2 < 0 →
 J2 true) ∧
 (¬ (x2 < 0) →
 J2 (decide (1073741824 < x2))))))
def q115 (x0 : Int) (x1 : Int) (x2 : Int) (Φ : q12 × Int → Prop) : Prop :=
 Join (q138 x0 x1 x2 Φ) fun J1 =>
 (x0 < 1 →
 J1 true) ∧
 (¬ (x0 < 1) →
 J1 (decide (4 < x0)))
def Z40 (x0 : List Sec) (Φ : Int → Prop) : Prop :=
 Φ (x0.length : Int)
def Z41 (x0 : List (List Sec)) (Φ : List Int → Prop) : (Int × List Int) → ((Int × List Int) → Prop) → Prop
 | (a, b), rec1 =>
 (a < (x0.length : Int) →
 inX a x0.length ∧
 Z40 (ix x0 a) fun c =>
 lenOk (b ++ ([c] : List Int)).length 8 ∧
 inI (a + 1) ∧
 rec1 ((a + 1), (b ++ ([c] : List Int)))) ∧
 (¬ (a < (x0.length : Int)) →
 Φ b)
def q139 (x0 : List (List Sec)) (Φ : List Int → Prop) : Prop :=
 0 ≤ (x0.length : Int) ∧
 lenOk (x0.length : Int).toNat 8 ∧
 LoopW (Z41 x0 Φ) (0, ([] : List Int))
def q57 (x0 : List (List Sec)) (Φ : Int → Prop) : Prop :=
 q139 x0 fun a =>
 Z33 a fun b =>
 Φ b
def Z42 (x0 : List Sec) (Φ : List Sec → Prop) : Prop :=
 (x0 = [] →
 Φ ([] : List Sec)) ∧
 (
 lenOk (([] : List Sec) ++ x0).length 8 ∧
 Φ (([] : List Sec) ++ x0))
def q140 (x0 : List (List Sec)) (x1 : q8) (Φ : Int → Prop) : Bool → Prop
 | a =>
 (a = true →
 Φ 7) ∧
 (¬ (a = true) →
 ((x1.Data.length : Int) = 0 →
 Φ 1) ∧
 (¬ ((x1.Data.length : Int) = 0) →
 (x1.Start < 0 →
 Φ 2) ∧
 (¬ (x1.Start < 0) →
 inX x1.Volume x0.length ∧
 inI (((ix x0 x1.Volume).length : Int) - (x1.Data.length : Int)) ∧
 ((((ix x0 x1.Volume).length : Int) - (x1.Data.length : Int)) < x1.Start →
 Φ 2) ∧
 (¬ ((((ix x0 x1.Volume).length : Int) - (x1.Data.length : Int)) < x1.Start) →
 Φ 0))))
def q84 (x0 : List (List Sec)) (x1 : q8) (Φ : Int → Prop) : Prop :=
 Join (q140 x0 x1 Φ) fun J1 =>
 (x1.Volume < 0 →
 J1 true) ∧
 (¬ (x1.Volume < 0) →
 J1 (decide ((x0.length : Int) ≤ x1.Volume)))
def Z43 (x0 : List (List Sec)) (Φ : List (List Sec) → Prop) : (List (List Sec) × Int) → ((List (List Sec) × Int) → Prop) → Prop
 | (b, a), rec1 =>
 (a < (x0.length : Int) →
 inX a x0.length ∧
 Z42 (ix x0 a) fun c =>
 lenOk (b ++ [c]).length 24 ∧
 inI (a + 1) ∧
 rec1 ((b ++ [c]), a + 1)) ∧
 (¬ (a < (x0.length : Int)) →
 Φ b)
def Z44 (x0 : List (List Sec)) (Φ : List (List Sec) → Prop) : Prop :=
 0 ≤ (x0.length : Int) ∧
 lenOk (x0.length : Int).toNat 24 ∧
 LoopW (Z43 x0 Φ) (([] : List (List Sec)), 0)
def Z45 (x0 : List (List Sec)) (Φ : List (List Sec) → Prop) : Prop :=
 Z44 x0 fun a =>
 Φ a
def Z46 (x1 : List q8) (Φ : List (List Sec) × Int × Int → Prop) : (List (List Sec) × Int) → ((List (List Sec) × Int) → Prop) → Prop
 | (b, a), rec1 =>
 (a < (x1.length : Int) →
 inX a x1.length ∧
 q84 b (ix x1 a) fun c =>
 (c ≠ 0 →
 Φ (([] : List (List Sec)), a, c)) ∧
 (¬ (c ≠ 0) →
 inX ((ix x1 a).Volume) b.length ∧
 inS ((ix x1 a).Start) ((ix b ((ix x1 a).Volume)).length : Int) (ix b ((ix x1 a).Volume)).length ∧
 inI (a + 1) ∧
 rec1 ((put b ((ix x1 a).Volume) (paste (ix b ((ix x1 a).Volume)) ((ix x1 a).Start) ((ix x1 a).Data))), a + 1))) ∧
 (¬ (a < (x1.length : Int)) →
 Φ (b, 0, 0))
def q58 (x0 : List (List Sec)) (x1 : List q8) (Φ : List (List Sec) × Int × Int → Prop) : Prop :=
 q57 x0 fun a =>
 (a ≠ 0 →
 Φ (([] : List (List Sec)), 0, a)) ∧
 (¬ (a ≠ 0) →
 Z45 x0 fun b =>
 LoopW (Z46 x1 Φ) (b, 0))
def Z47 (x0 : Int) (Φ : Bool → Prop) : Prop :=
 q34 x0 0 1073741824 fun a =>
 Φ (decide (¬ (a = true)))
def Z48 (x0 : List Int) (Φ : Int → Prop) : (Int) → ((Int) → Prop) → Prop
 | a, rec1 =>
 (a < (x0.length : Int) →
 inX a x0.length ∧
 Z47 (ix x0 a) fun b =>
 (b = true →
 (0 ≤ a →
 Φ 2) ∧
 (¬ (0 ≤ a) →
 Φ 0)) ∧
 (¬ (b = true) →
 inI (a + 1) ∧
 rec1 (a + 1))) ∧
 (¬ (a < (x0.length : Int)) →
 (0 ≤ ((-1) : Int) →
 Φ 2) ∧
 (¬ (0 ≤ ((-1) : Int)) →
 Φ 0))
def Z49 (x0 : List Int) (x1 : Int) (Φ : Int → Prop) : Prop :=
 q34 (x0.length : Int) x1 8 fun a =>
 (¬ (a = true) →
 Φ 6) ∧
 (¬ (¬ (a = true)) →
 LoopW (Z48 x0 Φ) 0)
def q66 (x0 : List (List Sec)) (x1 : q8) (Φ : Int → Prop) : Prop :=
 q57 x0 fun a =>
 (a ≠ 0 →
 Φ a) ∧
 (¬ (a ≠ 0) →
 q84 x0 x1 fun b =>
 Φ b)
def Z50 (x0 : q8) (Φ : q8 → Prop) : Prop :=
 Z42 x0.Data fun a =>
 Φ (q8.mk x0.Volume x0.Start a)
def Z51 (x0 : q10) (d : List Int × Unit) (e : List Int × Unit) (f : List Int × Unit) (Φ : q10 → Prop) : (Int × List q8) → ((Int × List q8) → Prop) → Prop
 | (a, b), rec1 =>
 (a < (x0.Writes.length : Int) →
 inX a x0.Writes.length ∧
 Z50 (ix x0.Writes a) fun c =>
 lenOk (b ++ ([c] : List q8)).length 40 ∧
 inI (a + 1) ∧
 rec1 ((a + 1), (b ++ ([c] : List q8)))) ∧
 (¬ (a < (x0.Writes.length : Int)) →
 Φ (q10.mk x0.Number d.1 e.1 f.1 b))
def Z52 (x0 : q10) (Φ : q10 → Prop) : Prop :=
 ∃ a : List Int × Unit, Z34 x0.Sizes (fun z => (z, ()) = a) ∧
 ∃ b : List Int × Unit, Z34 x0.Positions (fun z => (z, ()) = b) ∧
 ∃ c : List Int × Unit, Z34 x0.Nodes (fun z => (z, ()) = c) ∧
 LoopW (Z51 x0 a b c Φ) (0, ([] : List q8))
def q412 (x0 : q10) (x1 : Int) (x2 : q8) (f : List (List Sec) × Int) (Φ : q10 × Int → Prop) : (Int) → ((Int) → Prop) → Prop
 | a, rec1 =>
 (a < (x0.Writes.length : Int) →
 inX a x0.Writes.length ∧
 inX a x0.Nodes.length ∧
 inI ((x0.Positions.length : Int) - 1) ∧
 q34 (ix x0.Nodes a) 0 ((x0.Positions.length : Int) - 1) fun g =>
 (¬ (g = true) →
 Φ ((q10.mk 0 ([] : List Int) ([] : List Int) ([] : List Int) ([] : List q8)), 7)) ∧
 (¬ (¬ (g = true)) →
 q66 f.1 (ix x0.Writes a) fun c =>
 (¬ (c = 0) →
 Φ ((q10.mk 0 ([] : List Int) ([] : List Int) ([] : List Int) ([] : List q8)), c)) ∧
 (¬ (¬ (c = 0)) →
 inI (a + 1) ∧
 rec1 (a + 1)))) ∧
 (¬ (a < (x0.Writes.length : Int)) →
 inI ((x0.Positions.length : Int) - 1) ∧
 q34 x1 0 ((x0.Positions.length : Int) - 1) fun h =>
 (¬ (h = true) →
 Φ ((q10.mk 0 ([] : List Int) ([] : List Int) ([] : List Int) ([] : List q8)), 7)) ∧
 (¬ (¬ (h = true)) →
 q66 f.1 x2 fun d =>
 (¬ (d = 0) →
 Φ ((q10.mk 0 ([] : List Int) ([] : List Int) ([] : List Int) ([] : List q8)), d)) ∧
 (¬ (¬ (d = 0)) →
 (¬ ((x0.Writes.length : Int) < 4096) →
 Φ ((q10.mk 0 ([] : List Int) ([] : List Int) ([] : List Int) ([] : List q8)), 11)) ∧
 (¬ (¬ ((x0.Writes.length : Int) < 4096)) →
 Z52 x0 fun b =>
 lenOk (b.Nodes ++ ([x1] : List Int)).length 8 ∧
 ∃ e : q8 × Unit, Z50 x2 (fun z => (z, ()) = e) ∧
 lenOk (b.Writes ++ ([e.1] : List q8)).length 40 ∧
 Φ ((q10.mk b.Number b.Sizes b.Positions (b.Nodes ++ ([x1] : List Int)) (b.Writes ++ ([e.1] : List q8))), 0)))))
def q195 (x0 : q10) (x1 : Int) (x2 : q8) (Φ : q10 × Int → Prop) : Prop :=
 q53 x0.Sizes fun a =>
 (¬ (a.2 = 0) →
 Φ ((q10.mk 0 ([] : List Int) ([] : List Int) ([] : List Int) ([] : List q8)), a.2)) ∧
 (¬ (¬ (a.2 = 0)) →
 q34 x0.Number 0 1073741823 fun c =>
 (¬ (c = true) →
 Φ ((q10.mk 0 ([] : List Int) ([] : List Int) ([] : List Int) ([] : List q8)), 2)) ∧
 (¬ (¬ (c = true)) →
 Z49 x0.Positions 1 fun b =>
 (¬ (b = 0) →
 Φ ((q10.mk 0 ([] : List Int) ([] : List Int) ([] : List Int) ([] : List q8)), b)) ∧
 (¬ (¬ (b = 0)) →
 ((x0.Nodes.length : Int) = (x0.Writes.length : Int) →
 (¬ ((x0.Writes.length : Int) ≤ 4096) →
 Φ ((q10.mk 0 ([] : List Int) ([] : List Int) ([] : List Int) ([] : List q8)), 6)) ∧
 (¬ (¬ ((x0.Writes.length : Int) ≤ 4096)) →
 LoopW (q412 x0 x1 x2 a Φ) 0)) ∧
 (¬ ((x0.Nodes.length : Int) = (x0.Writes.length : Int)) →
 Φ ((q10.mk 0 ([] : List Int) ([] : List Int) ([] : List Int) ([] : List q8)), 6)))))
def Z53 (x0 : Int) (Φ : Bool → Prop) : Prop :=
 Φ (decide (0 < x0))
def Z54 (x0 : q29) (x1 : Bool) : (List (Int × q8 × Unit) × Int) → ((List (Int × q8 × Unit) × Int) → Prop) → Prop
 | (l1, a), rec1 =>
 (a < (x0.c.Writes.length : Int) →
 inX a x0.c.Writes.length ∧
 inX a x0.part.length ∧
 ((ix x0.part a) = x1 →
 Yl l1 fun b r3 => (a, (ix x0.c.Writes a), ()) = b ∧ (
 inI (a + 1) ∧
 rec1 (r3, (a + 1))) ∧ (
 True)) ∧
 (¬ ((ix x0.part a) = x1) →
 inI (a + 1) ∧
 rec1 (l1, (a + 1)))) ∧
 (¬ (a < (x0.c.Writes.length : Int)) →
 l1 = [])
def q28 (x0 : q29) (x1 : Bool) (l : List (Int × q8 × Unit)) : Prop :=
 LoopW (Z54 x0 x1) (l, 0)
def Z55 (x0 : q8) (Φ : Int → Prop) : Bool → Prop
 | a =>
 (a = true →
 Φ 7) ∧
 (¬ (a = true) →
 ((x0.Data.length : Int) = 0 →
 Φ 1) ∧
 (¬ ((x0.Data.length : Int) = 0) →
 (x0.Start < 0 →
 Φ 2) ∧
 (¬ (x0.Start < 0) →
 inI (4096 - (x0.Data.length : Int)) ∧
 ((4096 - (x0.Data.length : Int)) < x0.Start →
 Φ 2) ∧
 (¬ ((4096 - (x0.Data.length : Int)) < x0.Start) →
 Φ 0))))
def Z56 (x0 : q8) (Φ : Int → Prop) : Prop :=
 Join (Z55 x0 Φ) fun J1 =>
 (x0.Volume < 0 →
 J1 true) ∧
 (¬ (x0.Volume < 0) →
 J1 (decide (8 ≤ x0.Volume)))
def Z57 (x0 : q9) (Φ : q9 → Prop) : Prop :=
 inI (x0.sector + 1) ∧
 Φ (q9.mk x0.volume (x0.sector + 1))
def Z58 (x0 : Int) (Φ : Bool → Prop) : Prop :=
 Φ (decide (x0 ≠ x0))
def Z59 (x0 : Int) (x1 : Int) (Φ : Int → Prop) : Prop :=
 Z58 x0 fun b =>
 Z58 x1 fun a =>
 (b = true →
 (a = true →
 Φ 0) ∧
 (¬ (a = true) →
 Φ (-1))) ∧
 (¬ (b = true) →
 (a = true →
 Φ 1) ∧
 (¬ (a = true) →
 (x0 < x1 →
 Φ (-1)) ∧
 (¬ (x0 < x1) →
 (x1 < x0 →
 Φ 1) ∧
 (¬ (x1 < x0) →
 Φ 0))))
def q372 (x0 : List Int) (Φ : Int → Prop) : (Int) → ((Int) → Prop) → Prop
 | a, rec1 =>
 (a < (x0.length : Int) →
 inX a x0.length ∧
 ((ix x0 a) ≠ 0 →
 Φ (ix x0 a)) ∧
 (¬ ((ix x0 a) ≠ 0) →
 inI (a + 1) ∧
 rec1 (a + 1))) ∧
 (¬ (a < (x0.length : Int)) →
 Φ 0)
def q248 (x0 : List Int) (Φ : Int → Prop) : Prop :=
 LoopW (q372 x0 Φ) 0
def Z60 (x0 : q9) (x1 : q9) (Φ : Int → Prop) : Prop :=
 ∃ a : Int × Unit, Z59 x0.volume x1.volume (fun z => (z, ()) = a) ∧
 ∃ b : Int × Unit, Z59 x0.sector x1.sector (fun z => (z, ()) = b) ∧
 ∃ c : Int × Unit, q248 ([a.1, b.1] : List Int) (fun z => (z, ()) = c) ∧
 Φ c.1
def pleB (a b : q9) : Bool := decide (a.volume < b.volume ∨ a.volume = b.volume ∧ a.sector ≤ b.sector)
def Z61 (xs : List q9) (Φ : List q9 → Prop) : Prop := xs.length ≤ 1099511627776 ∧ Φ (sortG pleB xs)
def Z62 (x0 : List q8) (a : Int) (rec2 : (Int × (List (q9 × Sec))) → Prop) (_ : List q8 × Int → Prop) : (Int × Int × Int × (List (q9 × Sec))) → ((Int × Int × Int × (List (q9 × Sec))) → Prop) → Prop
 | (b, c, d, e), rec3 =>
 (b < (((ix x0 a).Data).length : Int) →
 inX b ((ix x0 a).Data).length ∧
 Z57 (q9.mk c d) fun f =>
 inI (b + 1) ∧
 rec3 ((b + 1), f.volume, f.sector, (mput e (q9.mk c d) (ix ((ix x0 a).Data) b)))) ∧
 (¬ (b < (((ix x0 a).Data).length : Int)) →
 inI (a + 1) ∧
 rec2 ((a + 1), e))
abbrev Y6 := Int × Int × Int × List q8 × List Sec
def Z63 (d : List (q9 × Sec)) (c : List q9) (b : Int) (rec5 : (Y6) → Prop) (_ : List q8 × Int → Prop) : List q8 × List Sec → Prop
 | (a, e) =>
 inI ((a.length : Int) - 1) ∧
 inX ((a.length : Int) - 1) a.length ∧
 ((a.length : Int) - 1) + 1 = (a.length : Int) ∧
 lenOk (e ++ ([(mget d (ix c b) sec0)] : List Sec)).length 8 ∧
 Z57 (ix c b) fun f =>
 inI (b + 1) ∧
 rec5 ((b + 1), f.volume, f.sector, a, (e ++ ([(mget d (ix c b) sec0)] : List Sec)))
def Z64 (g : List (q9 × Sec)) (b : List q9) (Φ : List q8 × Int → Prop) : (Y6) → ((Y6) → Prop) → Prop
 | (c, e, f, a, d), rec5 =>
 (c < (b.length : Int) →
 inX c b.length ∧
 Join (Z63 g b c rec5 Φ) fun J6 =>
 ((ix b c) ≠ (q9.mk e f) →
 lenOk ((put a ((a.length : Int) - 1) (q8.mk ((ix a ((a.length : Int) - 1)).Volume) ((ix a ((a.length : Int) - 1)).Start) d)) ++ ([(q8.mk ((ix b c).volume) ((ix b c).sector) ([] : List Sec))] : List q8)).length 40 ∧
 J6 (((put a ((a.length : Int) - 1) (q8.mk ((ix a ((a.length : Int) - 1)).Volume) ((ix a ((a.length : Int) - 1)).Start) d)) ++ ([(q8.mk ((ix b c).volume) ((ix b c).sector) ([] : List Sec))] : List q8)), ([] : List Sec))) ∧
 (¬ ((ix b c) ≠ (q9.mk e f)) →
 J6 (a, d))) ∧
 (¬ (c < (b.length : Int)) →
 Φ ((put a ((a.length : Int) - 1) (q8.mk ((ix a ((a.length : Int) - 1)).Volume) ((ix a ((a.length : Int) - 1)).Start) d)), 0))
def Z65 (a : List (q9 × Sec)) (Φ : List q8 × Int → Prop) : (((Nat × List Nat)) × List q9) → ((((Nat × List Nat)) × List q9) → Prop) → Prop
 | (b, c), rec4 =>
 a.length = b.1 ∧ ((∀ i, i < a.length → i ∈ b.2) →
 Z61 c fun d =>
 LoopW (Z64 a d Φ) (0, (-1), 0, ([] : List q8), ([] : List Sec))) ∧
 ∀ i12, i12 < a.length → i12 ∉ b.2 →
 a.length = b.1 ∧
 i12 < a.length ∧
 lenOk (c ++ ([((ent a i12).1)] : List q9)).length 16 ∧
 rec4 ((b.1, (i12 :: b.2)), (c ++ ([((ent a i12).1)] : List q9)))
def Z66 (x0 : List q8) (Φ : List q8 × Int → Prop) : (Int × (List (q9 × Sec))) → ((Int × (List (q9 × Sec))) → Prop) → Prop
 | (a, b), rec2 =>
 (a < (x0.length : Int) →
 inX a x0.length ∧
 LoopW (Z62 x0 a rec2 Φ) (0, (ix x0 a).Volume, (ix x0 a).Start, b)) ∧
 (¬ (a < (x0.length : Int)) →
 0 ≤ (b.length : Int) ∧
 lenOk (b.length : Int).toNat 16 ∧
 LoopW (Z65 b Φ) ((b.length, []), ([] : List q9)))
def Z67 (x0 : List q8) (Φ : List q8 × Int → Prop) : (Int) → ((Int) → Prop) → Prop
 | a, rec1 =>
 (a < (x0.length : Int) →
 inX a x0.length ∧
 Z56 (ix x0 a) fun b =>
 (b ≠ 0 →
 Φ (([] : List q8), b)) ∧
 (¬ (b ≠ 0) →
 inI (a + 1) ∧
 rec1 (a + 1))) ∧
 (¬ (a < (x0.length : Int)) →
 LoopW (Z66 x0 Φ) (0, ([] : List (q9 × Sec))))
def Z68 (x0 : List q8) (Φ : List q8 × Int → Prop) : Prop :=
 LoopW (Z67 x0 Φ) 0
def Z69 (c : q8) (e : List Sec) (rec1 : (List (Int × q8 × Unit) × List Sec) → Prop) (b : Int × q8 × Unit) (r4 : List (Int × q8 × Unit)) (_ : q8 → Prop) : (Int × List Sec) → ((Int × List Sec) → Prop) → Prop
 | (a, d), rec3 =>
 (a < (e.length : Int) →
 inI (c.Start + a) ∧
 inI ((c.Start + a) - b.2.1.Start) ∧
 inI ((b.2.1.Data.length : Int) - 1) ∧
 q34 ((c.Start + a) - b.2.1.Start) 0 ((b.2.1.Data.length : Int) - 1) fun f =>
 (f = true →
 inX ((c.Start + a) - b.2.1.Start) b.2.1.Data.length ∧
 inX a d.length ∧
 inI (a + 1) ∧
 rec3 ((a + 1), (put d a (ix b.2.1.Data ((c.Start + a) - b.2.1.Start))))) ∧
 (¬ (f = true) →
 inI (a + 1) ∧
 rec3 ((a + 1), d))) ∧
 (¬ (a < (e.length : Int)) →
 rec1 (r4, d))
def Z70 (c : q8) (a : List Sec) (rec1 : (List (Int × q8 × Unit) × List Sec) → Prop) (d : Int × q8 × Unit) (r4 : List (Int × q8 × Unit)) (Φ : q8 → Prop) : Bool → Prop
 | b =>
 (b = true →
 rec1 (r4, a)) ∧
 (¬ (b = true) →
 LoopW (Z69 c a rec1 d r4 Φ) (0, a))
def Z71 (x1 : Int) (a : q8) (Φ : q8 → Prop) : (List (Int × q8 × Unit) × List Sec) → ((List (Int × q8 × Unit) × List Sec) → Prop) → Prop
 | (lst, c), rec1 =>
 match lst with
 | [] =>
 Φ (q8.mk a.Volume a.Start c)
 | b :: r4 =>
 Join (Z70 a c rec1 b r4 Φ) fun J2 =>
 (b.1 < x1 →
 J2 true) ∧
 (¬ (b.1 < x1) →
 J2 (decide (b.2.1.Volume ≠ a.Volume)))
def Z72 (x0 : q29) (x1 : Int) (x2 : q8) (Φ : q8 → Prop) : Prop :=
 Z50 x2 fun a =>
 ∃ l9 : List (Int × q8 × Unit), q28 x0 true l9 ∧
 LoopW (Z71 x1 a Φ) (l9, a.Data)
def Z73 (x0 : q10) (x1 : Int) (e : Int) (f : List Int) (g : List Int) (h : List Int) (i : List q8) (j : List Bool) (k : List q8 × Int) (l : List Int × Unit) (m : List Int × Unit) (n : List Int × Unit) (Φ : q10 × q11 × Int → Prop) : (List (Int × q8 × Unit) × (List Int × List q8)) → ((List (Int × q8 × Unit) × (List Int × List q8)) → Prop) → Prop
 | (lst, b, c), rec4 =>
 match lst with
 | [] =>
 Φ ((q10.mk (x0.Number + 1) m.1 n.1 b c), (q11.mk x0.Number (x0.Number + 1) x1 l.1 k.1), 0)
 | a :: r24 =>
 inX a.1 x0.Nodes.length ∧
 lenOk (b ++ ([(ix x0.Nodes a.1)] : List Int)).length 8 ∧
 ∃ d : q8 × Unit, Z72 (q29.mk (q10.mk e f g h i) j) a.1 a.2.1 (fun z => (z, ()) = d) ∧
 lenOk (c ++ ([d.1] : List q8)).length 40 ∧
 rec4 (r24, ((b ++ ([(ix x0.Nodes a.1)] : List Int)), (c ++ ([d.1] : List q8))))
def Z74 (x0 : q10) (x1 : Int) (x2 : List Int) (c : Int) (d : List Int) (e : List Int) (f : List Int) (g : List q8) (h : List Bool) (Φ : q10 × q11 × Int → Prop) : (List (Int × q8 × Unit) × List q8) → ((List (Int × q8 × Unit) × List q8) → Prop) → Prop
 | (lst, b), rec3 =>
 match lst with
 | [] =>
 Z68 b fun a =>
 (¬ (a.2 = 0) →
 Φ ((q10.mk 0 ([] : List Int) ([] : List Int) ([] : List Int) ([] : List q8)), (q11.mk 0 0 0 ([] : List Int) ([] : List q8)), a.2)) ∧
 (¬ (¬ (a.2 = 0)) →
 inI (x0.Number + 1) ∧
 ∃ i : List Int × Unit, Z34 x2 (fun z => (z, ()) = i) ∧
 inI (x0.Number + 1) ∧
 ∃ j : List Int × Unit, Z34 x0.Sizes (fun z => (z, ()) = j) ∧
 ∃ k : List Int × Unit, Z34 x2 (fun z => (z, ()) = k) ∧
 ∃ l26 : List (Int × q8 × Unit), q28 (q29.mk (q10.mk c d e f g) h) false l26 ∧
 LoopW (Z73 x0 x1 c d e f g h a i j k Φ) (l26, (([] : List Int), ([] : List q8))))
 | l :: r16 =>
 lenOk (b ++ ([l.2.1] : List q8)).length 40 ∧
 rec3 (r16, (b ++ ([l.2.1] : List q8)))
def Z75 (x0 : q10) (x1 : Int) (x2 : List Int) (Φ : q10 × q11 × Int → Prop) : Int × List Int × List Int × List Int × List q8 × List Bool → Prop
 | (a, b, c, d, e, f) =>
 ∃ l27 : List (Int × q8 × Unit), q28 (q29.mk (q10.mk a b c d e) f) true l27 ∧
 LoopW (Z74 x0 x1 x2 a b c d e f Φ) (l27, ([] : List q8))
def Z76 (x0 : q10) (x1 : Int) (x2 : List Int) (b : List Int) (c : List Bool) (Φ : q10 × q11 × Int → Prop) : (Int) → ((Int) → Prop) → Prop
 | a, rec7 =>
 (a < (b.length : Int) →
 inX a b.length ∧
 Z53 (ix b a) fun d =>
 (d = true →
 (¬ (¬ (0 ≤ a)) →
 Φ ((q10.mk 0 ([] : List Int) ([] : List Int) ([] : List Int) ([] : List q8)), (q11.mk 0 0 0 ([] : List Int) ([] : List q8)), 2)) ∧
 (¬ (¬ (¬ (0 ≤ a))) →
 Z75 x0 x1 x2 Φ (x0.Number, x0.Sizes, x0.Positions, x0.Nodes, x0.Writes, c))) ∧
 (¬ (d = true) →
 inI (a + 1) ∧
 rec7 (a + 1))) ∧
 (¬ (a < (b.length : Int)) →
 (¬ (¬ (0 ≤ ((-1) : Int))) →
 Φ ((q10.mk 0 ([] : List Int) ([] : List Int) ([] : List Int) ([] : List q8)), (q11.mk 0 0 0 ([] : List Int) ([] : List q8)), 2)) ∧
 (¬ (¬ (¬ (0 ≤ ((-1) : Int)))) →
 Z75 x0 x1 x2 Φ (x0.Number, x0.Sizes, x0.Positions, x0.Nodes, x0.Writes, c)))
def Z77 (x0 : q10) (x1 : Int) (x2 : List Int) (Φ : q10 × q11 × Int → Prop) : (Int × List Int × List Bool) → ((Int × List Int × List Bool) → Prop) → Prop
 | (a, b, c), rec6 =>
 (a < (x0.Nodes.length : Int) →
 inX a x0.Nodes.length ∧
 inX (ix x0.Nodes a) b.length ∧
 lenOk (c ++ ([decide (0 < (ix b (ix x0.Nodes a)))] : List Bool)).length 1 ∧
 inX (ix x0.Nodes a) b.length ∧
 inI ((ix b (ix x0.Nodes a)) - 1) ∧
 inX (ix x0.Nodes a) b.length ∧
 inI (a + 1) ∧
 rec6 ((a + 1), (put b (ix x0.Nodes a) (if ((ix b (ix x0.Nodes a)) - 1) < 0 then 0 else ((ix b (ix x0.Nodes a)) - 1))), (c ++ ([decide (0 < (ix b (ix x0.Nodes a)))] : List Bool)))) ∧
 (¬ (a < (x0.Nodes.length : Int)) →
 LoopW (Z76 x0 x1 x2 b c Φ) 0)
def Z78 (x0 : q10) (x1 : Int) (x2 : List Int) (Φ : q10 × q11 × Int → Prop) : (Int × List Int) → ((Int × List Int) → Prop) → Prop
 | (a, b), rec5 =>
 (a < (x2.length : Int) →
 inX a x2.length ∧
 inX a x0.Positions.length ∧
 inX a b.length ∧
 inX a (put b a (Go.IntKind.wrap Go.IntKind.i64 ((ix x2 a) - (ix x0.Positions a)))).length ∧
 (¬ (0 ≤ (ix (put b a (Go.IntKind.wrap Go.IntKind.i64 ((ix x2 a) - (ix x0.Positions a)))) a)) →
 Φ ((q10.mk 0 ([] : List Int) ([] : List Int) ([] : List Int) ([] : List q8)), (q11.mk 0 0 0 ([] : List Int) ([] : List q8)), 2)) ∧
 (¬ (¬ (0 ≤ (ix (put b a (Go.IntKind.wrap Go.IntKind.i64 ((ix x2 a) - (ix x0.Positions a)))) a))) →
 inI (a + 1) ∧
 rec5 ((a + 1), (put b a (Go.IntKind.wrap Go.IntKind.i64 ((ix x2 a) - (ix x0.Positions a))))))) ∧
 (¬ (a < (x2.length : Int)) →
 LoopW (Z77 x0 x1 x2 Φ) (0, b, ([] : List Bool)))
def Z79 (x0 : q10) (x1 : Int) (x2 : List Int) (e : List (List Sec) × Int) (Φ : q10 × q11 × Int → Prop) : (Int) → ((Int) → Prop) → Prop
 | a, rec1 =>
 (a < (x0.Writes.length : Int) →
 inX a x0.Writes.length ∧
 inX a x0.Nodes.length ∧
 inI ((x0.Positions.length : Int) - 1) ∧
 q34 (ix x0.Nodes a) 0 ((x0.Positions.length : Int) - 1) fun c =>
 (¬ (c = true) →
 Φ ((q10.mk 0 ([] : List Int) ([] : List Int) ([] : List Int) ([] : List q8)), (q11.mk 0 0 0 ([] : List Int) ([] : List q8)), 7)) ∧
 (¬ (¬ (c = true)) →
 q66 e.1 (ix x0.Writes a) fun b =>
 (¬ (b = 0) →
 Φ ((q10.mk 0 ([] : List Int) ([] : List Int) ([] : List Int) ([] : List q8)), (q11.mk 0 0 0 ([] : List Int) ([] : List q8)), b)) ∧
 (¬ (¬ (b = 0)) →
 inI (a + 1) ∧
 rec1 (a + 1)))) ∧
 (¬ (a < (x0.Writes.length : Int)) →
 q34 x1 0 1073741824 fun d =>
 (¬ (d = true) →
 Φ ((q10.mk 0 ([] : List Int) ([] : List Int) ([] : List Int) ([] : List q8)), (q11.mk 0 0 0 ([] : List Int) ([] : List q8)), 24)) ∧
 (¬ (¬ (d = true)) →
 (¬ ((x2.length : Int) = (x0.Positions.length : Int)) →
 Φ ((q10.mk 0 ([] : List Int) ([] : List Int) ([] : List Int) ([] : List q8)), (q11.mk 0 0 0 ([] : List Int) ([] : List q8)), 6)) ∧
 (¬ (¬ ((x2.length : Int) = (x0.Positions.length : Int))) →
 0 ≤ (x2.length : Int) ∧
 lenOk (x2.length : Int).toNat 8 ∧
 LoopW (Z78 x0 x1 x2 Φ) (0, (List.replicate (x2.length : Int).toNat (0 : Int))))))
def q141 (x0 : q10) (x1 : Int) (x2 : List Int) (Φ : q10 × q11 × Int → Prop) : Prop :=
 q53 x0.Sizes fun a =>
 (¬ (a.2 = 0) →
 Φ ((q10.mk 0 ([] : List Int) ([] : List Int) ([] : List Int) ([] : List q8)), (q11.mk 0 0 0 ([] : List Int) ([] : List q8)), a.2)) ∧
 (¬ (¬ (a.2 = 0)) →
 q34 x0.Number 0 1073741823 fun c =>
 (¬ (c = true) →
 Φ ((q10.mk 0 ([] : List Int) ([] : List Int) ([] : List Int) ([] : List q8)), (q11.mk 0 0 0 ([] : List Int) ([] : List q8)), 2)) ∧
 (¬ (¬ (c = true)) →
 Z49 x0.Positions 1 fun b =>
 (¬ (b = 0) →
 Φ ((q10.mk 0 ([] : List Int) ([] : List Int) ([] : List Int) ([] : List q8)), (q11.mk 0 0 0 ([] : List Int) ([] : List q8)), b)) ∧
 (¬ (¬ (b = 0)) →
 ((x0.Nodes.length : Int) = (x0.Writes.length : Int) →
 (¬ ((x0.Writes.length : Int) ≤ 4096) →
 Φ ((q10.mk 0 ([] : List Int) ([] : List Int) ([] : List Int) ([] : List q8)), (q11.mk 0 0 0 ([] : List Int) ([] : List q8)), 6)) ∧
 (¬ (¬ ((x0.Writes.length : Int) ≤ 4096)) →
 LoopW (Z79 x0 x1 x2 a Φ) 0)) ∧
 (¬ ((x0.Nodes.length : Int) = (x0.Writes.length : Int)) →
 Φ ((q10.mk 0 ([] : List Int) ([] : List Int) ([] : List Int) ([] : List q8)), (q11.mk 0 0 0 ([] : List Int) ([] : List q8)), 6)))))
def Z80 (x0 : Int) (Φ : Bool → Prop) : Prop :=
 (0 ≤ x0 →
 Φ (decide (x0 ≤ 1073741824))) ∧
 (¬ (0 ≤ x0) →
 Φ false)
def q59 (Φ : List Int → Prop) : Prop :=
 Z39 ([4096] : List Int) 8 fun a =>
 Φ a
def Z81 (x0 : List q8) (c : List (List Sec) × Int) (Φ : Int → Prop) : (Int) → ((Int) → Prop) → Prop
 | a, rec1 =>
 (a < (x0.length : Int) →
 inX a x0.length ∧
 q66 c.1 (ix x0 a) fun b =>
 (b ≠ 0 →
 Φ b) ∧
 (¬ (b ≠ 0) →
 (a = 0 →
 inI (a + 1) ∧
 rec1 (a + 1)) ∧
 (¬ (a = 0) →
 inI (a - 1) ∧
 inX (a - 1) x0.length ∧
 (((ix x0 a).Volume) < ((ix x0 (a - 1)).Volume) →
 Φ 3) ∧
 (¬ (((ix x0 a).Volume) < ((ix x0 (a - 1)).Volume)) →
 (((ix x0 a).Volume) = ((ix x0 (a - 1)).Volume) →
 inI (((ix x0 (a - 1)).Start) + (((ix x0 (a - 1)).Data).length : Int)) ∧
 (((ix x0 a).Start) ≤ (((ix x0 (a - 1)).Start) + (((ix x0 (a - 1)).Data).length : Int)) →
 Φ 3) ∧
 (¬ (((ix x0 a).Start) ≤ (((ix x0 (a - 1)).Start) + (((ix x0 (a - 1)).Data).length : Int))) →
 inI (a + 1) ∧
 rec1 (a + 1))) ∧
 (¬ (((ix x0 a).Volume) = ((ix x0 (a - 1)).Volume)) →
 inI (a + 1) ∧
 rec1 (a + 1)))))) ∧
 (¬ (a < (x0.length : Int)) →
 Φ 0)
def Z82 (x0 : List q8) (x1 : List Int) (Φ : Int → Prop) : Prop :=
 q53 x1 fun a =>
 (a.2 ≠ 0 →
 Φ a.2) ∧
 (¬ (a.2 ≠ 0) →
 LoopW (Z81 x0 a Φ) 0)
def Z83 (x0 : q11) (x1 : List Int) (Φ : Int → Prop) : Bool → Prop
 | b =>
 (b = true →
 Φ 2) ∧
 (¬ (b = true) →
 q34 x0.Time 0 1073741824 fun c =>
 (¬ (c = true) →
 Φ 24) ∧
 (¬ (¬ (c = true)) →
 Z49 x0.Positions 0 fun a =>
 (a ≠ 0 →
 Φ a) ∧
 (¬ (a ≠ 0) →
 Z82 x0.Writes x1 fun d =>
 Φ d)))
def q44 (x0 : q11) (x1 : List Int) (Φ : Int → Prop) : Prop :=
 q53 x1 fun a =>
 (a.2 ≠ 0 →
 Φ a.2) ∧
 (¬ (a.2 ≠ 0) →
 Join (Z83 x0 x1 Φ) fun J1 =>
 (x0.Base < 0 →
 J1 true) ∧
 (¬ (x0.Base < 0) →
 (x0.Number ≤ x0.Base →
 J1 true) ∧
 (¬ (x0.Number ≤ x0.Base) →
 J1 (decide (1073741824 < x0.Number)))))
def Z84 (x0 : List Int) (Φ : Int → Prop) : (Int × Int) → ((Int × Int) → Prop) → Prop
 | (b, a), rec1 =>
 (a < (x0.length : Int) →
 inX a x0.length ∧
 inI (a + 1) ∧
 rec1 ((if b < (ix x0 a) then (ix x0 a) else b), (a + 1))) ∧
 (¬ (a < (x0.length : Int)) →
 Φ b)
def Z85 (x0 : List Int) (Φ : Int → Prop) : Prop :=
 ((x0.length : Int) < 1 →
 False) ∧
 (¬ ((x0.length : Int) < 1) →
 inX 0 x0.length ∧
 LoopW (Z84 x0 Φ) ((ix x0 0), 1))
def Z86 (x0 : q12) (Φ : Int → Prop) : Prop :=
 (0 < (x0.Kept.length : Int) →
 inI ((x0.Kept.length : Int) - 1) ∧
 inX ((x0.Kept.length : Int) - 1) x0.Kept.length ∧
 Φ ((ix x0.Kept ((x0.Kept.length : Int) - 1)).Number)) ∧
 (¬ (0 < (x0.Kept.length : Int)) →
 Z85 x0.Applied fun a =>
 Φ a)
def Z87 (x0 : q12) (x1 : Int) (Φ : Bool → Prop) : (Int) → ((Int) → Prop) → Prop
 | a, rec1 =>
 (a < (x0.Kept.length : Int) →
 inX a x0.Kept.length ∧
 (((ix x0.Kept a).Number) = x1 →
 Φ (decide (0 ≤ a))) ∧
 (¬ (((ix x0.Kept a).Number) = x1) →
 inI (a + 1) ∧
 rec1 (a + 1))) ∧
 (¬ (a < (x0.Kept.length : Int)) →
 Φ (decide (0 ≤ ((-1) : Int))))
def Z88 (x0 : q12) (x1 : Int) (Φ : Bool → Prop) : Prop :=
 LoopW (Z87 x0 x1 Φ) 0
def Z89 (x0 : q12) (x1 : Int) (Φ : Bool → Prop) : Prop :=
 Z86 x0 fun a =>
 (x1 = a →
 Φ true) ∧
 (¬ (x1 = a) →
 Z88 x0 x1 fun b =>
 (b = true →
 Φ true) ∧
 (¬ (b = true) →
 (0 < (x0.Kept.length : Int) →
 inX 0 x0.Kept.length ∧
 Φ (decide (((ix x0.Kept 0).Base) = x1))) ∧
 (¬ (0 < (x0.Kept.length : Int)) →
 Φ false)))
def Z90 (x0 : Int) (x1 : Int) (Φ : Int → Prop) : Prop :=
 (x0 < 0 →
 Φ x1) ∧
 (¬ (x0 < 0) →
 Φ (if x1 < x0 then x1 else x0))
def Z91 (x0 : q12) (Φ : Int → Prop) : (Int × Int) → ((Int × Int) → Prop) → Prop
 | (b, a), rec1 =>
 (a < (x0.Applied.length : Int) →
 inX a x0.Applied.length ∧
 inX a x0.Lost.length ∧
 (¬ ((ix x0.Lost a) = true) →
 Z90 b (ix x0.Applied a) fun c =>
 inI (a + 1) ∧
 rec1 (c, (a + 1))) ∧
 (¬ (¬ ((ix x0.Lost a) = true)) →
 inI (a + 1) ∧
 rec1 (b, (a + 1)))) ∧
 (¬ (a < (x0.Applied.length : Int)) →
 Φ b)
def Z92 (x0 : q12) (Φ : Int → Prop) : Prop :=
 LoopW (Z91 x0 Φ) ((-1), 0)
def Z93 (x0 : q12) (Φ : Int → Prop) : (Int) → ((Int) → Prop) → Prop
 | a, rec4 =>
 (a < (x0.Applied.length : Int) →
 inX a x0.Applied.length ∧
 Z86 x0 fun c =>
 (c < (ix x0.Applied a) →
 Φ 12) ∧
 (¬ (c < (ix x0.Applied a)) →
 inX a x0.Lost.length ∧
 (¬ ((ix x0.Lost a) = true) →
 Z89 x0 (ix x0.Applied a) fun d =>
 (¬ (d = true) →
 Φ 12) ∧
 (¬ (¬ (d = true)) →
 inI (a + 1) ∧
 rec4 (a + 1))) ∧
 (¬ (¬ ((ix x0.Lost a) = true)) →
 inI (a + 1) ∧
 rec4 (a + 1)))) ∧
 (¬ (a < (x0.Applied.length : Int)) →
 (0 < (x0.Kept.length : Int) →
 ∃ b : Int × Unit, Z92 x0 (fun z => (z, ()) = b) ∧
 inX 0 x0.Kept.length ∧
 (b.1 ≠ ((ix x0.Kept 0).Base) →
 Φ 12) ∧
 (¬ (b.1 ≠ ((ix x0.Kept 0).Base)) →
 Φ 0)) ∧
 (¬ (0 < (x0.Kept.length : Int)) →
 Φ 0))
def Z94 (x0 : q12) (c : List Int) (Φ : Int → Prop) : (Int) → ((Int) → Prop) → Prop
 | a, rec3 =>
 (a < (x0.Kept.length : Int) →
 inX a x0.Kept.length ∧
 q44 (ix x0.Kept a) c fun b =>
 (b ≠ 0 →
 Φ b) ∧
 (¬ (b ≠ 0) →
 (0 < a →
 inI (a - 1) ∧
 inX (a - 1) x0.Kept.length ∧
 (((ix x0.Kept a).Base) ≠ ((ix x0.Kept (a - 1)).Number) →
 Φ 15) ∧
 (¬ (((ix x0.Kept a).Base) ≠ ((ix x0.Kept (a - 1)).Number)) →
 inI (a + 1) ∧
 rec3 (a + 1))) ∧
 (¬ (0 < a) →
 inI (a + 1) ∧
 rec3 (a + 1)))) ∧
 (¬ (a < (x0.Kept.length : Int)) →
 LoopW (Z93 x0 Φ) 0)
def Z95 (x0 : q12) (Φ : Int → Prop) : Bool → Prop
 | a =>
 (a = true →
 Φ 2) ∧
 (¬ (a = true) →
 (x0.Limit < (x0.Kept.length : Int) →
 Φ 6) ∧
 (¬ (x0.Limit < (x0.Kept.length : Int)) →
 q59 fun b =>
 LoopW (Z94 x0 b Φ) 0))
def Z96 (x0 : q12) (Φ : Int → Prop) : (Int) → ((Int) → Prop) → Prop
 | a, rec5 =>
 (a < (x0.Applied.length : Int) →
 inX a x0.Applied.length ∧
 Z80 (ix x0.Applied a) fun b =>
 (¬ (b = true) →
 Z95 x0 Φ (decide (0 ≤ a))) ∧
 (¬ (¬ (b = true)) →
 inI (a + 1) ∧
 rec5 (a + 1))) ∧
 (¬ (a < (x0.Applied.length : Int)) →
 Z95 x0 Φ (decide (0 ≤ ((-1) : Int))))
def Z97 (x0 : q12) (Φ : Int → Prop) : Bool → Prop
 | a =>
 (a = true →
 Φ 6) ∧
 (¬ (a = true) →
 (x0.Limit < 1 →
 Z95 x0 Φ true) ∧
 (¬ (x0.Limit < 1) →
 (1024 < x0.Limit →
 Z95 x0 Φ true) ∧
 (¬ (1024 < x0.Limit) →
 LoopW (Z96 x0 Φ) 0)))
def Z98 (x0 : q12) (Φ : Int → Prop) : Prop :=
 Join (Z97 x0 Φ) fun J1 =>
 ((x0.Applied.length : Int) < 1 →
 J1 true) ∧
 (¬ ((x0.Applied.length : Int) < 1) →
 (4 < (x0.Applied.length : Int) →
 J1 true) ∧
 (¬ (4 < (x0.Applied.length : Int)) →
 J1 (decide ((x0.Lost.length : Int) ≠ (x0.Applied.length : Int)))))
def Z99 (x0 : List Bool) (Φ : List Bool → Prop) : Prop :=
 (x0 = [] →
 Φ ([] : List Bool)) ∧
 (
 lenOk (([] : List Bool) ++ x0).length 1 ∧
 Φ (([] : List Bool) ++ x0))
def Z100 (x0 : q11) (d : List Int) (Φ : q11 → Prop) : (Int × List q8) → ((Int × List q8) → Prop) → Prop
 | (a, b), rec1 =>
 (a < (x0.Writes.length : Int) →
 inX a x0.Writes.length ∧
 Z42 ((ix x0.Writes a).Data) fun c =>
 lenOk (b ++ ([(q8.mk ((ix x0.Writes a).Volume) ((ix x0.Writes a).Start) c)] : List q8)).length 40 ∧
 inI (a + 1) ∧
 rec1 ((a + 1), (b ++ ([(q8.mk ((ix x0.Writes a).Volume) ((ix x0.Writes a).Start) c)] : List q8)))) ∧
 (¬ (a < (x0.Writes.length : Int)) →
 Φ (q11.mk x0.Base x0.Number x0.Time d b))
def Z101 (x0 : q11) (Φ : q11 → Prop) : Prop :=
 Z34 x0.Positions fun a =>
 0 ≤ (x0.Writes.length : Int) ∧
 lenOk (x0.Writes.length : Int).toNat 40 ∧
 LoopW (Z100 x0 a Φ) (0, ([] : List q8))
def Z102 (x0 : q12) (d : List Int × Unit) (e : List Bool × Unit) (Φ : q12 → Prop) : (Int × List q11) → ((Int × List q11) → Prop) → Prop
 | (a, b), rec1 =>
 (a < (x0.Kept.length : Int) →
 inX a x0.Kept.length ∧
 ∃ c : q11 × Unit, Z101 (ix x0.Kept a) (fun z => (z, ()) = c) ∧
 lenOk (b ++ ([c.1] : List q11)).length 72 ∧
 inI (a + 1) ∧
 rec1 ((a + 1), (b ++ ([c.1] : List q11)))) ∧
 (¬ (a < (x0.Kept.length : Int)) →
 Φ (q12.mk x0.Limit b d.1 e.1))
def Z103 (x0 : q12) (Φ : q12 → Prop) : Prop :=
 ∃ a : List Int × Unit, Z34 x0.Applied (fun z => (z, ()) = a) ∧
 ∃ b : List Bool × Unit, Z99 x0.Lost (fun z => (z, ()) = b) ∧
 LoopW (Z102 x0 a b Φ) (0, ([] : List q11))
def Z104 (xs : List (Int)) (Φ : List (Int) → Prop) : Prop := xs.length ≤ 1099511627776 ∧ Φ (sortI xs)
def Z105 (a : Int) (b : List Int) (c : List Bool) (rec2 : (Int × List Int × List Bool) → Prop) (_ : q12 × List Int × Int → Prop) : Bool → Prop
 | d =>
 (d = true →
 inX a c.length ∧
 lenOk (b ++ ([a] : List Int)).length 8 ∧
 inI (a + 1) ∧
 rec2 ((a + 1), (b ++ ([a] : List Int)), (put c a true))) ∧
 (¬ (d = true) →
 inI (a + 1) ∧
 rec2 ((a + 1), b, c))
abbrev Y4 := Int × List q11 × List Int × List Int × List Bool
def Z106 (c : Int) (a : List q11) (d : List Int) (rec1 : (Y4) → Prop) (e : List Int) (f : List Bool) (_ : q12 × List Int × Int → Prop) : Int → Prop
 | b =>
 inS b (a.length : Int) a.length ∧
 rec1 (c, (sub a b (a.length : Int)), d, e, f)
def Z107 (c : Int) (b : List q11) (d : List Int) (rec1 : (Y4) → Prop) (e : List Int) (f : List Bool) (Φ : q12 × List Int × Int → Prop) : Int → Prop
 | a =>
 Join (Z106 c b d rec1 e f Φ) fun J5 =>
 (a < 0 →
 J5 (b.length : Int)) ∧
 (¬ (a < 0) →
 J5 a)
def Z108 (c : Int) (d : List q11) (e : List Int) (rec1 : (Y4) → Prop) (f : List Int) (g : List Bool) (a : Int) (rec6 : (Int) → Prop) (Φ : q12 × List Int × Int → Prop) : Bool → Prop
 | b =>
 (b = true →
 Z107 c d e rec1 f g Φ a) ∧
 (¬ (b = true) →
 inI (a + 1) ∧
 rec6 (a + 1))
def Z109 (d : Int) (a : List q11) (e : List Int) (rec1 : (Y4) → Prop) (f : List Int) (g : List Bool) (c : Int) (Φ : q12 × List Int × Int → Prop) : (Int) → ((Int) → Prop) → Prop
 | b, rec6 =>
 (b < (a.length : Int) →
 Join (Z108 d a e rec1 f g b rec6 Φ) fun J7 =>
 inX b a.length ∧
 (0 ≤ c →
 J7 (decide (c < ((ix a b).Number)))) ∧
 (¬ (0 ≤ c) →
 J7 false)) ∧
 (¬ (b < (a.length : Int)) →
 Z107 d a e rec1 f g Φ (-1))
def Z110 (d : Int) (e : List q11) (b : List Int) (rec1 : (Y4) → Prop) (f : Int) (Φ : q12 × List Int × Int → Prop) : (Int × List Int × List Bool) → ((Int × List Int × List Bool) → Prop) → Prop
 | (a, g, c), rec2 =>
 (a < (b.length : Int) →
 inX a b.length ∧
 Join (Z105 a g c rec2 Φ) fun J3 =>
 ((ix b a) = f →
 inX a c.length ∧
 J3 (decide (¬ ((ix c a) = true)))) ∧
 (¬ ((ix b a) = f) →
 J3 false)) ∧
 (¬ (a < (b.length : Int)) →
 Z92 (q12.mk d e b c) fun h =>
 LoopW (Z109 d e b rec1 g c h Φ) 0)
def Z111 (Φ : q12 × List Int × Int → Prop) : (Y4) → ((Y4) → Prop) → Prop
 | (a, b, c, e, d), rec1 =>
 (a < (b.length : Int) →
 Z92 (q12.mk a b c d) fun f =>
 LoopW (Z110 a b c rec1 f Φ) (0, e, d)) ∧
 (¬ (a < (b.length : Int)) →
 Z104 e fun g =>
 Φ ((q12.mk a b c d), g, 0))
def q142 (x0 : q12) (x1 : q11) (Φ : q12 × List Int × Int → Prop) : Prop :=
 Z98 x0 fun c =>
 (c ≠ 0 →
 Φ ((q12.mk 0 ([] : List q11) ([] : List Int) ([] : List Bool)), ([] : List Int), c)) ∧
 (¬ (c ≠ 0) →
 Z92 x0 fun f =>
 (f < 0 →
 Φ ((q12.mk 0 ([] : List q11) ([] : List Int) ([] : List Bool)), ([] : List Int), 17)) ∧
 (¬ (f < 0) →
 ∃ g : List Int × Unit, q59 (fun z => (z, ()) = g) ∧
 ∃ b : Int × Unit, q44 x1 g.1 (fun z => (z, ()) = b) ∧
 (b.1 ≠ 0 →
 Φ ((q12.mk 0 ([] : List q11) ([] : List Int) ([] : List Bool)), ([] : List Int), b.1)) ∧
 (¬ (b.1 ≠ 0) →
 ∃ d : Int × Unit, Z86 x0 (fun z => (z, ()) = d) ∧
 (x1.Base ≠ d.1 →
 Φ ((q12.mk 0 ([] : List q11) ([] : List Int) ([] : List Bool)), ([] : List Int), 15)) ∧
 (¬ (x1.Base ≠ d.1) →
 Z103 x0 fun a =>
 ∃ e : q11 × Unit, Z101 x1 (fun z => (z, ()) = e) ∧
 lenOk (a.Kept ++ ([e.1] : List q11)).length 72 ∧
 LoopW (Z111 Φ) (a.Limit, (a.Kept ++ ([e.1] : List q11)), a.Applied, ([] : List Int), a.Lost)))))
def Z112 (x0 : q12) (x1 : Int) (Φ : Int → Prop) : Prop :=
 Z98 x0 fun a =>
 (a ≠ 0 →
 Φ a) ∧
 (¬ (a ≠ 0) →
 (x1 < 0 →
 Φ 7) ∧
 (¬ (x1 < 0) →
 ((x0.Applied.length : Int) ≤ x1 →
 Φ 7) ∧
 (¬ ((x0.Applied.length : Int) ≤ x1) →
 Φ 0)))
def Z113 (x0 : q12) (x1 : Int) (Φ : q11 × Bool → Prop) : (Int) → ((Int) → Prop) → Prop
 | a, rec2 =>
 (a < (x0.Kept.length : Int) →
 inX a x0.Kept.length ∧
 inX x1 x0.Applied.length ∧
 ((ix x0.Applied x1) < ((ix x0.Kept a).Number) →
 Z101 (ix x0.Kept a) fun b =>
 Φ (b, true)) ∧
 (¬ ((ix x0.Applied x1) < ((ix x0.Kept a).Number)) →
 inI (a + 1) ∧
 rec2 (a + 1))) ∧
 (¬ (a < (x0.Kept.length : Int)) →
 Φ ((q11.mk 0 0 0 ([] : List Int) ([] : List q8)), false))
def Z114 (x0 : q12) (x1 : Int) (Φ : q11 × Bool → Prop) : Bool → Prop
 | a =>
 (a = true →
 Φ ((q11.mk 0 0 0 ([] : List Int) ([] : List q8)), false)) ∧
 (¬ (a = true) →
 LoopW (Z113 x0 x1 Φ) 0)
def q143 (x0 : q12) (x1 : Int) (Φ : q11 × Bool → Prop) : Prop :=
 Join (Z114 x0 x1 Φ) fun J1 =>
 Z112 x0 x1 fun a =>
 (a ≠ 0 →
 J1 true) ∧
 (¬ (a ≠ 0) →
 inX x1 x0.Lost.length ∧
 J1 (ix x0.Lost x1))
def Z115 (x0 : List (List Sec)) (x1 : q11) (Φ : List (List Sec) × Int → Prop) : (Int × List Int) → ((Int × List Int) → Prop) → Prop
 | (a, b), rec1 =>
 (a < (x0.length : Int) →
 inX a x0.length ∧
 lenOk (b ++ ([((ix x0 a).length : Int)] : List Int)).length 8 ∧
 inI (a + 1) ∧
 rec1 ((a + 1), (b ++ ([((ix x0 a).length : Int)] : List Int)))) ∧
 (¬ (a < (x0.length : Int)) →
 q44 x1 b fun c =>
 (c ≠ 0 →
 Φ (([] : List (List Sec)), c)) ∧
 (¬ (c ≠ 0) →
 q58 x0 x1.Writes fun d =>
 Φ (d.1, d.2.2)))
def q95 (x0 : List (List Sec)) (x1 : q11) (Φ : List (List Sec) × Int → Prop) : Prop :=
 q57 x0 fun a =>
 (a ≠ 0 →
 Φ (([] : List (List Sec)), a)) ∧
 (¬ (a ≠ 0) →
 LoopW (Z115 x0 x1 Φ) (0, ([] : List Int)))
def Z116 (x0 : q12) (Φ : q12 → Prop) : Int → Prop
 | a =>
 inS a (x0.Kept.length : Int) x0.Kept.length ∧
 Φ (q12.mk x0.Limit (sub x0.Kept a (x0.Kept.length : Int)) x0.Applied x0.Lost)
def Z117 (x0 : q12) (Φ : q12 → Prop) : Int → Prop
 | a =>
 Join (Z116 x0 Φ) fun J2 =>
 (a < 0 →
 J2 (x0.Kept.length : Int)) ∧
 (¬ (a < 0) →
 J2 a)
def Z118 (x0 : q12) (a : Int) (rec3 : (Int) → Prop) (Φ : q12 → Prop) : Bool → Prop
 | b =>
 (b = true →
 Z117 x0 Φ a) ∧
 (¬ (b = true) →
 inI (a + 1) ∧
 rec3 (a + 1))
def Z119 (x0 : q12) (b : Int) (Φ : q12 → Prop) : (Int) → ((Int) → Prop) → Prop
 | a, rec3 =>
 (a < (x0.Kept.length : Int) →
 Join (Z118 x0 a rec3 Φ) fun J4 =>
 inX a x0.Kept.length ∧
 (0 ≤ b →
 J4 (decide (b < ((ix x0.Kept a).Number)))) ∧
 (¬ (0 ≤ b) →
 J4 false)) ∧
 (¬ (a < (x0.Kept.length : Int)) →
 Z117 x0 Φ (-1))
def q96 (x0 : q12) (Φ : q12 → Prop) : Prop :=
 Z92 x0 fun a =>
 LoopW (Z119 x0 a Φ) 0
def Z120 (x0 : q12) (x1 : Int) (x2 : Int) (Φ : q12 × Int → Prop) : Bool → Prop
 | b =>
 (b = true →
 Φ ((q12.mk 0 ([] : List q11) ([] : List Int) ([] : List Bool)), 15)) ∧
 (¬ (b = true) →
 Z103 x0 fun a =>
 inX x1 a.Applied.length ∧
 q96 (q12.mk a.Limit a.Kept (put a.Applied x1 x2) a.Lost) fun c =>
 Φ (c, 0))
def Z121 (x0 : q12) (x1 : Int) (x2 : Int) (Φ : q12 × Int → Prop) : Prop :=
 Z112 x0 x1 fun a =>
 (a ≠ 0 →
 Φ ((q12.mk 0 ([] : List q11) ([] : List Int) ([] : List Bool)), a)) ∧
 (¬ (a ≠ 0) →
 inX x1 x0.Lost.length ∧
 ((ix x0.Lost x1) = true →
 Φ ((q12.mk 0 ([] : List q11) ([] : List Int) ([] : List Bool)), 17)) ∧
 (¬ ((ix x0.Lost x1) = true) →
 inX x1 x0.Applied.length ∧
 (x2 < (ix x0.Applied x1) →
 Φ ((q12.mk 0 ([] : List q11) ([] : List Int) ([] : List Bool)), 2)) ∧
 (¬ (x2 < (ix x0.Applied x1)) →
 Join (Z120 x0 x1 x2 Φ) fun J1 =>
 inX x1 x0.Applied.length ∧
 (x2 ≠ (ix x0.Applied x1) →
 Z88 x0 x2 fun b =>
 J1 (decide (¬ (b = true)))) ∧
 (¬ (x2 ≠ (ix x0.Applied x1)) →
 J1 false))))
def Z122 (x0 : List Sec) (x1 : List Sec) (Φ : Bool → Prop) : (Int) → ((Int) → Prop) → Prop
 | a, rec1 =>
 (a < (x0.length : Int) →
 inX a x0.length ∧
 inX a x1.length ∧
 ((ix x0 a) ≠ (ix x1 a) →
 Φ false) ∧
 (¬ ((ix x0 a) ≠ (ix x1 a)) →
 inI (a + 1) ∧
 rec1 (a + 1))) ∧
 (¬ (a < (x0.length : Int)) →
 Φ true)
def Z123 (x0 : List Sec) (x1 : List Sec) (Φ : Bool → Prop) : Prop :=
 ((x0.length : Int) ≠ (x1.length : Int) →
 Φ false) ∧
 (¬ ((x0.length : Int) ≠ (x1.length : Int)) →
 LoopW (Z122 x0 x1 Φ) 0)
def q373 (x0 : List (List Sec)) (x1 : List (List Sec)) (Φ : Bool → Prop) : (Int) → ((Int) → Prop) → Prop
 | a, rec1 =>
 (a < (x0.length : Int) →
 inX a x0.length ∧
 inX a x1.length ∧
 Z123 (ix x0 a) (ix x1 a) fun b =>
 (¬ (b = true) →
 Φ false) ∧
 (¬ (¬ (b = true)) →
 inI (a + 1) ∧
 rec1 (a + 1))) ∧
 (¬ (a < (x0.length : Int)) →
 Φ true)
def q116 (x0 : List (List Sec)) (x1 : List (List Sec)) (Φ : Bool → Prop) : Prop :=
 ((x0.length : Int) ≠ (x1.length : Int) →
 Φ false) ∧
 (¬ ((x0.length : Int) ≠ (x1.length : Int)) →
 LoopW (q373 x0 x1 Φ) 0)
def Z124 (x0 : List Int) (x1 : List Int) (Φ : Bool → Prop) : (Int) → ((Int) → Prop) → Prop
 | a, rec1 =>
 (a < (x0.length : Int) →
 inX a x0.length ∧
 inX a x1.length ∧
 ((ix x0 a) ≠ (ix x1 a) →
 Φ false) ∧
 (¬ ((ix x0 a) ≠ (ix x1 a)) →
 inI (a + 1) ∧
 rec1 (a + 1))) ∧
 (¬ (a < (x0.length : Int)) →
 Φ true)
def Z125 (x0 : List Int) (x1 : List Int) (Φ : Bool → Prop) : Prop :=
 ((x0.length : Int) ≠ (x1.length : Int) →
 Φ false) ∧
 (¬ ((x0.length : Int) ≠ (x1.length : Int)) →
 LoopW (Z124 x0 x1 Φ) 0)
def Z126 (x1 : q18) (a : q18 × Int) (Φ : Int → Prop) : (Bool × Int) → ((Bool × Int) → Prop) → Prop
 | (c, b), rec1 =>
 (b < (([(q16.mk x1.Close a.1.Close), (q16.mk x1.Start a.1.Start), (q16.mk x1.End a.1.End), (q16.mk x1.Applied a.1.Applied)] : List q16).length : Int) →
 inX b ([(q16.mk x1.Close a.1.Close), (q16.mk x1.Start a.1.Start), (q16.mk x1.End a.1.End), (q16.mk x1.Applied a.1.Applied)] : List q16).length ∧
 ((0 : Int) ≤ 0 ∧ 0 < (2 : Int)) ∧
 ((0 : Int) ≤ 1 ∧ 1 < (2 : Int)) ∧
 ((((ix ([(q16.mk x1.Close a.1.Close), (q16.mk x1.Start a.1.Start), (q16.mk x1.End a.1.End), (q16.mk x1.Applied a.1.Applied)] : List q16) b).e0).length : Int) ≠ (((ix ([(q16.mk x1.Close a.1.Close), (q16.mk x1.Start a.1.Start), (q16.mk x1.End a.1.End), (q16.mk x1.Applied a.1.Applied)] : List q16) b).e1).length : Int) →
 Φ 6) ∧
 (¬ ((((ix ([(q16.mk x1.Close a.1.Close), (q16.mk x1.Start a.1.Start), (q16.mk x1.End a.1.End), (q16.mk x1.Applied a.1.Applied)] : List q16) b).e0).length : Int) ≠ (((ix ([(q16.mk x1.Close a.1.Close), (q16.mk x1.Start a.1.Start), (q16.mk x1.End a.1.End), (q16.mk x1.Applied a.1.Applied)] : List q16) b).e1).length : Int)) →
 (c = true →
 ((0 : Int) ≤ 0 ∧ 0 < (2 : Int)) ∧
 ((0 : Int) ≤ 1 ∧ 1 < (2 : Int)) ∧
 Z125 ((ix ([(q16.mk x1.Close a.1.Close), (q16.mk x1.Start a.1.Start), (q16.mk x1.End a.1.End), (q16.mk x1.Applied a.1.Applied)] : List q16) b).e0) ((ix ([(q16.mk x1.Close a.1.Close), (q16.mk x1.Start a.1.Start), (q16.mk x1.End a.1.End), (q16.mk x1.Applied a.1.Applied)] : List q16) b).e1) fun d =>
 inI (b + 1) ∧
 rec1 (d, (b + 1))) ∧
 (¬ (c = true) →
 inI (b + 1) ∧
 rec1 (false, (b + 1))))) ∧
 (¬ (b < (([(q16.mk x1.Close a.1.Close), (q16.mk x1.Start a.1.Start), (q16.mk x1.End a.1.End), (q16.mk x1.Applied a.1.Applied)] : List q16).length : Int)) →
 (¬ (c = true) →
 Φ 22) ∧
 (¬ (¬ (c = true)) →
 Φ 0))
def Z127 (x0 : q15) (x1 : q18) (Φ : Int → Prop) : Prop :=
 Z27 x0 fun a =>
 (a.2 ≠ 0 →
 Φ a.2) ∧
 (¬ (a.2 ≠ 0) →
 LoopW (Z126 x1 a Φ) (decide (x1.Bound = a.1.Bound), 0))
def Z128 (x1 : q18) (x2 : Int) (Φ : Int × Int → Prop) : (Int × Int) → ((Int × Int) → Prop) → Prop
 | (a, b), rec1 =>
 (a < b →
 inI (a + b) ∧
 inX (((BitVec.ofInt 64 (a + b)) >>> ((1#64).toNat : Int).toNat).toInt) x1.Applied.length ∧
 (¬ (x2 < (ix x1.Applied (((BitVec.ofInt 64 (a + b)) >>> ((1#64).toNat : Int).toNat).toInt))) →
 inI ((((BitVec.ofInt 64 (a + b)) >>> ((1#64).toNat : Int).toNat).toInt) + 1) ∧
 rec1 (((((BitVec.ofInt 64 (a + b)) >>> ((1#64).toNat : Int).toNat).toInt) + 1), b)) ∧
 (¬ (¬ (x2 < (ix x1.Applied (((BitVec.ofInt 64 (a + b)) >>> ((1#64).toNat : Int).toNat).toInt)))) →
 rec1 (a, ((BitVec.ofInt 64 (a + b)) >>> ((1#64).toNat : Int).toNat).toInt))) ∧
 (¬ (a < b) →
 (a = 0 →
 Φ (x2, 0)) ∧
 (¬ (a = 0) →
 inI (a - 1) ∧
 inX (a - 1) x1.Close.length ∧
 inI (x2 - (ix x1.Close (a - 1))) ∧
 Φ ((x2 - (ix x1.Close (a - 1))), 0)))
def q144 (x0 : q15) (x1 : q18) (x2 : Int) (Φ : Int × Int → Prop) : Prop :=
 Z127 x0 x1 fun a =>
 (a ≠ 0 →
 Φ (0, a)) ∧
 (¬ (a ≠ 0) →
 Z8 x2 0 1073741824 fun b =>
 (¬ (b = true) →
 Φ (0, 24)) ∧
 (¬ (¬ (b = true)) →
 LoopW (Z128 x1 x2 Φ) (0, (x1.Applied.length : Int))))
abbrev Y1 := Bool × Int × Int × List Int × List Int × List Int × List q8 × Int × List q11 × List Int × List Bool × List (List Sec) × List (List Sec) × Int × Int × Int × List (List (List Sec)) × List Int
def Z129 (b : q18 × Int) (Φ : Bool → Prop) : Y1 → Prop
 | (a, c, _, _, _, _, _, _, _, _, _, _, _, _, _, _, _, _) =>
 (a = true →
 Φ (decide (c = b.1.Bound))) ∧
 (¬ (a = true) →
 Φ false)
abbrev Y0 := Int × Int × Int × Int × List Int × List Int × List Int × List q8 × Int × List q11 × List Int × List Bool × List (List Sec) × List (List Sec) × Int × Int × Int × List (List (List Sec)) × List Int
abbrev Y3 := Int × Int × List q11 × List Int × List Bool × List (List Sec) × Int
def Z130 (E : q15 × Bool) (F : q18 × Int) (t : Int) (w : Int) (B : Int) (J2 : (Y1) → Prop) (d : Int) (f : Int) (rec3 : (Y0) → Prop) (l : List (List Sec)) (m : Int) (n : Int) (o : List Int) (p : List Int) (q : List Int) (r : List q8) (e : List (List (List Sec))) (s : Int) (c : List Int) (_ : Bool → Prop) : (Y3) → ((Y3) → Prop) → Prop
 | (b, g, h, i, j, k, a), rec8 =>
 (b < (c.length : Int) →
 inX b c.length ∧
 inI ((ix c b) + w) ∧
 inI (((ix c b) + w) + B) ∧
 ((((ix c b) + w) + B) ≠ d →
 inI (b + 1) ∧
 rec8 ((b + 1), g, h, i, j, k, a)) ∧
 (¬ ((((ix c b) + w) + B) ≠ d) →
 q143 (q12.mk g h i j) 0 fun v =>
 ∃ y : List (List Sec) × Int × Unit, q95 k v.1 (fun z => (z.1, z.2, ()) = y) ∧
 ∃ u : q12 × Int × Unit, Z121 (q12.mk g h i j) 0 v.1.Number (fun z => (z.1, z.2, ()) = u) ∧
 (¬ (v.2 = true) →
 J2 (false, f, n, o, p, q, r, g, h, i, j, l, k, s, m, a, e, c)) ∧
 (¬ (¬ (v.2 = true)) →
 (y.2.1 ≠ 0 →
 J2 (false, f, n, o, p, q, r, g, h, i, j, l, k, s, m, a, e, c)) ∧
 (¬ (y.2.1 ≠ 0) →
 (u.2.1 ≠ 0 →
 J2 (false, f, n, o, p, q, r, g, h, i, j, l, k, s, m, a, e, c)) ∧
 (¬ (u.2.1 ≠ 0) →
 inI (b + 1) ∧
 (v.1.Number ≠ (b + 1) →
 J2 (false, f, n, o, p, q, r, g, h, i, j, l, k, s, m, a, e, c)) ∧
 (¬ (v.1.Number ≠ (b + 1)) →
 inI (b + 1) ∧
 inI ((b + 1) * t) ∧
 inI (b + 1) ∧
 rec8 ((b + 1), u.1.Limit, u.1.Kept, u.1.Applied, u.1.Lost, y.1, ((b + 1) * t)))))))) ∧
 (¬ (b < (c.length : Int)) →
 (0 ≤ a ∧ inI a ∧ (0 : Int) < t) ∧
 ((e.length : Int) ≤ (a / t) →
 J2 (false, f, n, o, p, q, r, g, h, i, j, l, k, s, m, a, e, c)) ∧
 (¬ ((e.length : Int) ≤ (a / t)) →
 inX (a / t) e.length ∧
 ∃ C : Bool × Unit, q116 k (ix e (a / t)) (fun z => (z, ()) = C) ∧
 (¬ (C.1 = true) →
 J2 (false, f, n, o, p, q, r, g, h, i, j, l, k, s, m, a, e, c)) ∧
 (¬ (¬ (C.1 = true)) →
 inI (d - a) ∧
 q144 E.1 F.1 d fun A =>
 (A.2 = 0 →
 (¬ ((d - a) = A.1) →
 J2 (false, (if f < (d - a) then (d - a) else f), n, o, p, q, r, g, h, i, j, l, k, s, m, a, e, c)) ∧
 (¬ (¬ ((d - a) = A.1)) →
 inI (d + 1) ∧
 rec3 ((a / t), (d + 1), (if f < (d - a) then (d - a) else f), n, o, p, q, r, g, h, i, j, l, k, s, m, a, e, c))) ∧
 (¬ (A.2 = 0) →
 J2 (false, (if f < (d - a) then (d - a) else f), n, o, p, q, r, g, h, i, j, l, k, s, m, a, e, c)))))
def Z131 (a : q15 × Bool) (b : q18 × Int) (c : Int) (d : Int) (e : Int) (J2 : (Y1) → Prop) (f : Int) (g : Int) (h : List (List Sec)) (i : Int) (rec3 : (Y0) → Prop) (j : List (List Sec)) (k : Int) (l : Int) (m : List Int) (n : List Int) (o : List Int) (p : List q8) (q : Int) (r : List q11) (s : List Int) (t : List Bool) (u : List (List (List Sec))) (Φ : Bool → Prop) : Int × List Int → Prop
 | (v, w) =>
 LoopW (Z130 a b c d e J2 f g rec3 j k l m n o p u v w Φ) (0, q, r, s, t, h, i)
def Z132 (b : Int) (J7 : (Int × List Int) → Prop) (a : List Int) (rec10 : (Int × Int × List Int) → Prop) (_ : Bool → Prop) : Int → Prop
 | c =>
 (c = 0 →
 lenOk (a ++ ([b] : List Int)).length 8 ∧
 rec10 (((a ++ ([b] : List Int)).length : Int), 0, (a ++ ([b] : List Int)))) ∧
 (¬ (c = 0) →
 J7 (c, a))
def Z133 (b : List q11) (c : Int) (J12 : (Int) → Prop) (_ : Bool → Prop) : (Int) → ((Int) → Prop) → Prop
 | a, rec13 =>
 (a < (b.length : Int) →
 inX a b.length ∧
 inI (c + 1) ∧
 (((ix b a).Number) = (c + 1) →
 Z1 ((ix b a).Writes) fun d =>
 J12 d) ∧
 (¬ (((ix b a).Number) = (c + 1)) →
 inI (a + 1) ∧
 rec13 (a + 1))) ∧
 (¬ (a < (b.length : Int)) →
 J12 0)
def Z134 (c : Int) (d : List q11) (J7 : (Int × List Int) → Prop) (e : Int) (f : Int) (a : List Int) (rec10 : (Int × Int × List Int) → Prop) (Φ : Bool → Prop) : Bool → Prop
 | b =>
 (b = true →
 Join (Z132 c J7 a rec10 Φ) fun J12 =>
 LoopW (Z133 d e J12 Φ) 0) ∧
 (¬ (b = true) →
 J7 (f, a))
def Z135 (b : Int) (c : Int) (f : List q11) (d : List (List (List Sec))) (J7 : (Int × List Int) → Prop) (Φ : Bool → Prop) : (Int × Int × List Int) → ((Int × Int × List Int) → Prop) → Prop
 | (a, e, g), rec10 =>
 Join (Z134 c f J7 a e g rec10 Φ) fun J11 =>
 inI ((d.length : Int) - 1) ∧
 (a < ((d.length : Int) - 1) →
 inI (a + 1) ∧
 inI ((a + 1) * b) ∧
 (((a + 1) * b) ≤ c →
 J11 (decide (e ≤ 0))) ∧
 (¬ (((a + 1) * b) ≤ c) →
 J11 false)) ∧
 (¬ (a < ((d.length : Int) - 1)) →
 J11 false)
def Z136 (b : Int) (c : Int) (d : List q11) (e : List (List (List Sec))) (J7 : (Int × List Int) → Prop) (Φ : Bool → Prop) : Int × List Int → Prop
 | (f, a) =>
 LoopW (Z135 b c d e J7 Φ) ((a.length : Int), f, a)
def Z137 (a : List Int) (b : Int) (c : Int) (d : List Int) (J9 : (Int × List Int) → Prop) (_ : Bool → Prop) : Bool → Prop
 | e =>
 (e = true →
 inI (b - 1) ∧
 inI ((a.length : Int) - 1) ∧
 inX (if ((a.length : Int) - 1) < (b - 1) then ((a.length : Int) - 1) else (b - 1)) a.length ∧
 inI (c - (ix a (if ((a.length : Int) - 1) < (b - 1) then ((a.length : Int) - 1) else (b - 1)))) ∧
 ((c - (ix a (if ((a.length : Int) - 1) < (b - 1) then ((a.length : Int) - 1) else (b - 1)))) ≤ 0 →
 lenOk (d ++ ([b] : List Int)).length 8 ∧
 J9 (0, (d ++ ([b] : List Int)))) ∧
 (¬ ((c - (ix a (if ((a.length : Int) - 1) < (b - 1) then ((a.length : Int) - 1) else (b - 1)))) ≤ 0) →
 J9 ((c - (ix a (if ((a.length : Int) - 1) < (b - 1) then ((a.length : Int) - 1) else (b - 1)))), d))) ∧
 (¬ (e = true) →
 J9 (c, d))
def Z138 (g : q15 × Bool) (h : q18 × Int) (i : List Int) (d : Int) (j : Int) (k : Int) (J2 : (Y1) → Prop) (a : Int) (l : Int) (m : List (List Sec)) (e : Int) (n : Int) (c : List Int) (rec3 : (Y0) → Prop) (o : List (List Sec)) (p : Int) (Φ : Bool → Prop) : Int × List Int × List Int × List Int × List q8 × Int × List q11 × List Int × List Bool × List (List (List Sec)) → Prop
 | (q, r, s, t, u, v, f, w, y, b) =>
 Join (Z131 g h d j k J2 a l m n rec3 o p q r s t u v f w y b Φ) fun J7 =>
 Join (Z136 d a f b J7 Φ) fun J9 =>
 Join (Z137 i a e c J9 Φ) fun J14 =>
 (0 < a →
 inI ((b.length : Int) - 1) ∧
 ((c.length : Int) < ((b.length : Int) - 1) →
 J14 (decide (0 < e))) ∧
 (¬ ((c.length : Int) < ((b.length : Int) - 1)) →
 J14 false)) ∧
 (¬ (0 < a) →
 J14 false)
abbrev Y2 := Int × List Int × List Int × List Int × List q8 × List (List Sec) × Int
def Z139 (w : q15 × Bool) (y : q18 × Int) (v : List (List q8) × List Int) (A : List Int) (e : Int) (B : Int) (C : Int) (J2 : (Y1) → Prop) (f : Int) (h : Int) (i : Int) (j : List q11) (k : List Int) (l : List Bool) (m : List (List Sec)) (n : Int) (o : Int) (c : List (List (List Sec))) (p : List Int) (rec3 : (Y0) → Prop) (Φ : Bool → Prop) : Y2 → Prop
 | (q, r, s, t, u, d, g) =>
 Join (Z138 w y A e B C J2 f h m n o p rec3 d g Φ) fun J6 =>
 (0 < f →
 (0 ≤ f ∧ e ≠ (0 : Int)) ∧
 ((f % e) = 0 →
 inI ((c.length : Int) - 1) ∧
 (((c.length : Int) - 1) < ((((v.1.length : Int) + e) - 1) / e) →
 ∃ a : q10 × q11 × Int × Unit, q141 (q10.mk q r s t u) f ([g] : List Int) (fun z => (z.1, z.2.1, z.2.2, ()) = a) ∧
 ∃ b : q12 × List Int × Int × Unit, q142 (q12.mk i j k l) a.2.1 (fun z => (z.1, z.2.1, z.2.2, ()) = b) ∧
 lenOk (c ++ ([d] : List (List (List Sec)))).length 24 ∧
 (a.2.2.1 = 0 →
 (b.2.2.1 = 0 →
 (¬ ((b.2.1.length : Int) = 0) →
 J2 (false, h, a.1.Number, a.1.Sizes, a.1.Positions, a.1.Nodes, a.1.Writes, b.1.Limit, b.1.Kept, b.1.Applied, b.1.Lost, d, m, n, g, o, (c ++ ([d] : List (List (List Sec)))), p)) ∧
 (¬ (¬ ((b.2.1.length : Int) = 0)) →
 J6 (a.1.Number, a.1.Sizes, a.1.Positions, a.1.Nodes, a.1.Writes, b.1.Limit, b.1.Kept, b.1.Applied, b.1.Lost, (c ++ ([d] : List (List (List Sec))))))) ∧
 (¬ (b.2.2.1 = 0) →
 J2 (false, h, a.1.Number, a.1.Sizes, a.1.Positions, a.1.Nodes, a.1.Writes, b.1.Limit, b.1.Kept, b.1.Applied, b.1.Lost, d, m, n, g, o, (c ++ ([d] : List (List (List Sec)))), p))) ∧
 (¬ (a.2.2.1 = 0) →
 J2 (false, h, a.1.Number, a.1.Sizes, a.1.Positions, a.1.Nodes, a.1.Writes, b.1.Limit, b.1.Kept, b.1.Applied, b.1.Lost, d, m, n, g, o, (c ++ ([d] : List (List (List Sec)))), p))) ∧
 (¬ (((c.length : Int) - 1) < ((((v.1.length : Int) + e) - 1) / e)) →
 J6 (q, r, s, t, u, i, j, k, l, c))) ∧
 (¬ ((f % e) = 0) →
 J6 (q, r, s, t, u, i, j, k, l, c))) ∧
 (¬ (0 < f) →
 J6 (q, r, s, t, u, i, j, k, l, c))
def Z140 (c : List (List q8) × List Int) (J2 : (Y1) → Prop) (d : Int) (m : Int) (n : Int) (o : List q11) (p : List Int) (q : List Bool) (r : List (List Sec)) (s : Int) (t : Int) (u : List (List (List Sec))) (v : List Int) (J5 : (Y2) → Prop) (_ : Bool → Prop) : (Int × Int × List Int × List Int × List Int × List q8 × List (List Sec) × Int) → ((Int × Int × List Int × List Int × List Int × List q8 × List (List Sec) × Int) → Prop) → Prop
 | (b, f, g, h, i, j, k, e), rec15 =>
 (b < ((ix c.1 (d - 1)).length : Int) →
 inX b (ix c.1 (d - 1)).length ∧
 ∃ l : List (List Sec) × Int × Int × Unit, q58 k ([(ix (ix c.1 (d - 1)) b)] : List q8) (fun z => (z.1, z.2.1, z.2.2, ()) = l) ∧
 ∃ a : q10 × Int × Unit, q195 (q10.mk f g h i j) 0 (ix (ix c.1 (d - 1)) b) (fun z => (z.1, z.2, ()) = a) ∧
 (l.2.2.1 ≠ 0 →
 J2 (false, m, f, g, h, i, j, n, o, p, q, k, r, s, e, t, u, v)) ∧
 (¬ (l.2.2.1 ≠ 0) →
 (a.2.1 ≠ 0 →
 J2 (false, m, f, g, h, i, j, n, o, p, q, k, r, s, e, t, u, v)) ∧
 (¬ (a.2.1 ≠ 0) →
 inI (e + 1) ∧
 inI (b + 1) ∧
 rec15 ((b + 1), a.1.Number, a.1.Sizes, a.1.Positions, a.1.Nodes, a.1.Writes, l.1, (e + 1))))) ∧
 (¬ (b < ((ix c.1 (d - 1)).length : Int)) →
 J5 (f, g, h, i, j, k, e))
def Z141 (v : q15 × Bool) (w : q18 × Int) (b : List (List q8) × List Int) (y : List Int) (j : Int) (z : Int) (A : Int) (J2 : (Y1) → Prop) (B : Int) (a : Int) (k : Int) (c : Int) (d : List Int) (e : List Int) (f : List Int) (g : List q8) (l : Int) (m : List q11) (n : List Int) (o : List Bool) (h : List (List Sec)) (p : List (List Sec)) (q : Int) (i : Int) (r : Int) (s : List (List (List Sec))) (t : List Int) (rec3 : (Y0) → Prop) (Φ : Bool → Prop) : Bool → Prop
 | u =>
 (u = true →
 Join (Z139 v w b y j z A J2 a k l m n o p q r s t rec3 Φ) fun J5 =>
 (0 < a →
 (a ≤ (b.1.length : Int) →
 inI (a - 1) ∧
 inX (a - 1) b.1.length ∧
 LoopW (Z140 b J2 a k l m n o p q r s t J5 Φ) (0, c, d, e, f, g, h, i)) ∧
 (¬ (a ≤ (b.1.length : Int)) →
 J5 (c, d, e, f, g, h, i))) ∧
 (¬ (0 < a) →
 J5 (c, d, e, f, g, h, i))) ∧
 (¬ (u = true) →
 J2 (decide (B = ((((b.1.length : Int) + j) - 1) / j)), k, c, d, e, f, g, l, m, n, o, h, p, q, i, r, s, t))
def Z142 (e : q15 × Bool) (f : q18 × Int) (b : List (List q8) × List Int) (g : List Int) (a : Int) (h : Int) (i : Int) (J2 : (Y1) → Prop) (Φ : Bool → Prop) : (Y0) → ((Y0) → Prop) → Prop
 | (c, d, j, k, l, m, n, o, p, q, r, s, t, u, v, w, y, z, A), rec3 =>
 Join (Z141 e f b g a h i J2 c d j k l m n o p q r s t u v w y z A rec3 Φ) fun J4 =>
 (c < ((((b.1.length : Int) + a) - 1) / a) →
 J4 (decide (d < 1500))) ∧
 (¬ (c < ((((b.1.length : Int) + a) - 1) / a)) →
 J4 false)
def Z143 (e : q15 × Bool) (c : q18 × Int) (b : List (List q8) × List Int) (Φ : Bool → Prop) : Bool × List Int × List Int × Int × Int × Int × Int × List Int × List q8 × Int × List q11 × List (List Sec) × List (List Sec) × Int × Int × Int × List Int × List Int × List Int × List Bool × List (List (List Sec)) × List Int → Prop
 | (d, _, f, a, g, h, i, j, k, l, m, n, o, p, q, r, s, t, u, v, w, y) =>
 (¬ (d = true) →
 Φ false) ∧
 (¬ (¬ (d = true)) →
 Join (Z129 c Φ) fun J2 =>
 inI ((b.1.length : Int) + a) ∧
 inI (((b.1.length : Int) + a) - 1) ∧
 (0 ≤ (((b.1.length : Int) + a) - 1) ∧ inI (((b.1.length : Int) + a) - 1) ∧ (0 : Int) < a) ∧
 LoopW (Z142 e c b f a g h J2 Φ) (0, 0, 0, i, s, t, j, k, l, m, u, v, n, o, p, q, r, w, y))
def Z144 (x0 : q13) (Φ : Bool → Prop) : Prop :=
 Z7 x0 fun a =>
 Z27 a.1 fun e =>
 (¬ (a.2 = true) →
 Φ true) ∧
 (¬ (¬ (a.2 = true)) →
 (e.2 ≠ 0 →
 Φ true) ∧
 (¬ (e.2 ≠ 0) →
 Z30 a.1.Writes fun f =>
 Join (Z143 a e f Φ) fun J1 =>
 q53 f.2 fun d =>
 q160 f.2 1 0 fun b =>
 q115 1 100 0 fun c =>
 (d.2 = 0 →
 (b.2 = 0 →
 J1 (decide (c.2 = 0), a.1.Writes, a.1.Capacity, a.1.Period, a.1.Latency, a.1.Apply, b.1.Number, b.1.Nodes, b.1.Writes, c.1.Limit, c.1.Kept, d.1, d.1, 0, 0, 0, b.1.Sizes, b.1.Positions, c.1.Applied, c.1.Lost, ([d.1] : List (List (List Sec))), ([] : List Int))) ∧
 (¬ (b.2 = 0) →
 J1 (false, a.1.Writes, a.1.Capacity, a.1.Period, a.1.Latency, a.1.Apply, b.1.Number, b.1.Nodes, b.1.Writes, c.1.Limit, c.1.Kept, d.1, d.1, 0, 0, 0, b.1.Sizes, b.1.Positions, c.1.Applied, c.1.Lost, ([d.1] : List (List (List Sec))), ([] : List Int)))) ∧
 (¬ (d.2 = 0) →
 J1 (false, a.1.Writes, a.1.Capacity, a.1.Period, a.1.Latency, a.1.Apply, b.1.Number, b.1.Nodes, b.1.Writes, c.1.Limit, c.1.Kept, d.1, d.1, 0, 0, 0, b.1.Sizes, b.1.Positions, c.1.Applied, c.1.Lost, ([d.1] : List (List (List Sec))), ([] : List Int)))))
def ghT : Hp → Prop := fun _ => True
def gh : Hp → Prop := fun _ => True
theorem ghUp : GUp gh := fun _ _ _ _ => trivial
def ct15 : Ct DD := ⟨15, [47], [4], [[false]], true, fun x Φ => q194 x.1 fun y => Φ (y, ())⟩
def pl15 : List PE := [⟨[4, 1, 0, 1], [], [], ⟨[.int], [(0, .kp 0), (3, .v .int)], [], [], []⟩, false, 0⟩, ⟨[0, 5, 4, 1, 0, 1], [], [], ⟨[.bool], [(0, .kp 0), (3, .kp 3), (11, .v .bool)], [], [], []⟩, true, 0⟩]
def ct16 : Ct DD := ⟨16, [47], [3], [[false]], true, fun x Φ => Z1 x.1 fun y => Φ (y, ())⟩
def pl16 : List PE := [⟨[4, 1, 0, 1, 1], [], [], ⟨[.int, .int], [(3, .v .int), (6, .kp 3), (7, .kp 4), (8, .v .int)], [], [], []⟩, false, 0⟩]
def ct5 : Ct DD := ⟨5, [26], [28, 4], [[true, true, false, false, false], [false]], false, fun x Φ => Z7 x.1 fun y => Φ (y.1, y.2, ())⟩
def pl5 : List PE := [⟨[4, 1, 0, 1, 1, 1], [], [0], ⟨[.int, .lst 3], [(1, .kp 4), (2, .kp 5), (4, .kp 21), (44, .kp 37), (45, .kp 40), (46, .v .int)], [(2, 28, [.own 0,.kp 23,.kp 24,.kp 25,.kp 26]), (1, 28, [.kp 27,.kp 28,.kp 29,.kp 30,.kp 31])], [3], []⟩, false, 0⟩, ⟨[0, 1, 4, 0, 1, 1, 5, 4, 1, 0, 1, 1, 1], [], [2, 1, 42], ⟨[.bool], [(1, .kp 4), (2, .kp 5), (4, .kp 21), (6, .kp 47), (44, .kp 37), (45, .kp 40), (46, .kp 43), (57, .v .bool)], [], [], []⟩, true, 0⟩, ⟨[4, 1, 0, 1, 1, 1, 1, 1], [], [2, 1, 42, 0], ⟨[.int, .int], [(1, .kp 4), (2, .kp 5), (4, .kp 21), (7, .v .int), (68, .kp 47), (69, .kp 48), (70, .v .int)], [], [], []⟩, false, 0⟩, ⟨[4, 1, 0, 1, 1, 1, 1, 1, 1], [], [1, 42, 0], ⟨[.int, .lst 3], [(2, .kp 5), (4, .kp 21), (7, .kp 51), (79, .kp 32), (80, .kp 55), (81, .v .int)], [(2, 28, [.kp 50,.own 0,.kp 24,.kp 25,.kp 26])], [3], []⟩, false, 0⟩, ⟨[0, 1, 1], [], [2, 1, 0], ⟨[.bool], [(1, .kp 4), (2, .kp 5), (4, .kp 21), (41, .v .bool)], [], [], []⟩, true, 0⟩]
def ct30 : Ct DD := ⟨30, [3, 3, 3], [4], [[false]], true, fun x Φ => Z8 x.1 x.2.1 x.2.2.1 fun y => Φ (y, ())⟩
def pl30 : List PE := []
def ct62 : Ct DD := ⟨62, [3], [4], [[false]], true, fun x Φ => Z9 x.1 fun y => Φ (y, ())⟩
def pl62 : List PE := []
def ct36 : Ct DD := ⟨36, [23], [4], [[false]], true, fun x Φ => Z11 x.1 fun y => Φ (y, ())⟩
def pl36 : List PE := [⟨[4, 1, 0, 1, 12, 0, 1, 11, 0, 1], [], [], ⟨[.int], [(0, .kp 0), (1, .kp 1), (7, .kp 4), (8, .v .int)], [], [], []⟩, false, 0⟩]
def ct17 : Ct DD := ⟨17, [28], [33], [[false]], true, fun x Φ => Z13 x.1 fun y => Φ (y, ())⟩
def pl17 : List PE := [⟨[4, 0, 1], [], [0], ⟨[.bool], [(1, .kp 2), (3, .v .bool)], [], [], []⟩, true, 0⟩]
def it94 : It DD := ⟨94, [23, 3], [23], fun x l => q39 x.1 x.2.1 l⟩
def pl94 : List PE := [⟨[4, 1], [], [], ⟨[.int], [(0, .kp 0), (1, .kp 3), (2, .kp 4), (4, .v .int)], [], [], []⟩, false, 0⟩, ⟨[0, 4, 0, 1, 5, 4, 1], [], [], ⟨[], [(0, .kp 0), (1, .kp 0), (2, .kp 0)], [], [0, 0, 0, 1, 2, 3, 4, 5, 6], []⟩, false, 0⟩]
def ct37 : Ct DD := ⟨37, [28], [23], [[true]], false, fun x Φ => Z17 x.1 fun y => Φ (y, ())⟩
def pl37 : List PE := [⟨[4, 1, 0, 1, 1], [2, 3], [3, 2, 0], ⟨[.lst 3], [], [(1, 23, [.own 0])], [3], []⟩, false, 0⟩, ⟨[4, 1, 0, 1, 4, 7, 4, 1, 0, 1, 1], [], [1, 19], ⟨[.int, .int], [(3, .kp 7), (5, .v .int), (14, .kp 23), (15, .kp 24), (16, .v .int)], [], [], []⟩, false, 0⟩]
def ct39 : Ct DD := ⟨39, [66, 3], [3], [[false]], true, fun x Φ => Z18 x.1 x.2.1 fun y => Φ (y, ())⟩
def pl39 : List PE := []
def ct38 : Ct DD := ⟨38, [32], [3], [[false]], true, fun x Φ => Z22 x.1 fun y => Φ (y, ())⟩
def pl38 : List PE := [⟨[4, 1, 0, 1, 1], [], [0], ⟨[.int, .int, .int], [(1, .kp 2), (3, .v .int), (4, .v .int), (8, .kp 7), (9, .kp 8), (10, .v .int)], [], [], []⟩, false, 0⟩, ⟨[1, 4, 0, 1, 1, 5, 4, 1, 0, 1, 1], [], [], ⟨[.int], [(1, .kp 2), (3, .v .int), (5, .kp 22), (6, .kp 23), (8, .kp 7), (9, .kp 8), (10, .kp 17)], [], [], []⟩, true, 0⟩, ⟨[0, 1, 4, 0, 1, 1, 5, 4, 1, 0, 1, 1], [], [], ⟨[.bool], [(1, .kp 2), (3, .kp 15), (4, .kp 16), (5, .kp 22), (6, .kp 23), (8, .kp 7), (9, .kp 8), (10, .kp 17), (26, .v .bool)], [], [], []⟩, true, 0⟩]
def ct6 : Ct DD := ⟨6, [28], [32, 33], [[true, true, true, true, false], [false]], false, fun x Φ => Z27 x.1 fun y => Φ (y.1, y.2, ())⟩
def pl6 : List PE := [⟨[0, 1, 1], [0], [0], ⟨[], [(0, .kp 0), (1, .kp 0), (2, .kp 0)], [], [7, 0, 0, 1, 2, 3, 4, 5, 6, 7, 8, 9, 7, 6, 8, 9], []⟩, false, 0⟩, ⟨[4, 1, 0, 1, 1, 13, 0, 1, 1], [], [1], ⟨[.int, .int, .lst 3], [(3, .kp 23), (9, .kp 24), (10, .kp 25), (11, .v .int)], [(17, 94, [.own 0,.v .int])], [3], []⟩, false, 0⟩, ⟨[4, 1, 0, 1, 1, 1, 15, 0, 1, 1], [], [33, 30, 17, 29, 1], ⟨[.int, .int, .lst 3, .lst 3, .lst 3, .lst 3], [(1, .kp 35), (2, .kp 36), (4, .kp 37), (6, .kp 39), (7, .v .int), (15, .kp 42), (16, .kp 43), (17, .v .int)], [(32, 32, [.own 0,.own 1,.own 2,.own 3,.kp 49]), (31, 32, [.kp 50,.kp 51,.kp 52,.kp 53,.kp 54])], [3, 3, 3, 3], []⟩, false, 0⟩, ⟨[1, 1, 1, 4, 0, 1, 1, 5, 4, 1, 0, 1, 1, 1, 15, 0, 1, 1], [], [32, 31, 60, 61, 62, 63], ⟨[.int, .bool], [(1, .kp 35), (2, .kp 36), (4, .kp 37), (6, .kp 39), (10, .kp 76), (11, .kp 80), (12, .v .int), (13, .v .bool), (15, .kp 42), (16, .kp 43), (17, .kp 65)], [], [], []⟩, true, 0⟩, ⟨[0, 3, 1, 4, 0, 1, 1, 1, 1, 13, 0, 1, 1, 1, 4, 0, 1, 1, 5, 4, 1, 0, 1, 1, 1, 15, 0, 1, 1], [86, 85, 87], [86, 85, 87], ⟨[], [(0, .kp 0), (1, .kp 0), (2, .kp 0), (5, .kp 0)], [], [0, 0, 0, 1, 2, 5, 3, 4, 6, 7], []⟩, false, 0⟩, ⟨[0, 2, 1, 3, 1, 4, 0, 1, 1, 1, 1, 13, 0, 1, 1, 1, 4, 0, 1, 1, 5, 4, 1, 0, 1, 1, 1, 15, 0, 1, 1], [], [], ⟨[], [(0, .kp 0), (1, .kp 0), (2, .kp 0), (4, .kp 0)], [], [0, 0, 0, 1, 2, 4, 3, 5, 6, 7, 8], []⟩, false, 0⟩, ⟨[4, 0, 1, 1, 15, 0, 2, 1, 3, 1, 4, 0, 1, 1, 1, 1, 13, 0, 1, 1, 1, 4, 0, 1, 1, 5, 4, 1, 0, 1, 1, 1, 15, 0, 1, 1], [], [87, 86, 85], ⟨[.int, .int], [(1, .kp 117), (5, .v .int), (6, .v .int)], [], [], []⟩, false, 0⟩, ⟨[0, 1, 12, 0, 1, 4, 1, 5, 4, 0, 1, 1, 15, 0, 2, 1, 3, 1, 4, 0, 1, 1, 1, 1, 13, 0, 1, 1, 1, 4, 0, 1, 1, 5, 4, 1, 0, 1, 1, 1, 15, 0, 1, 1], [], [], ⟨[], [(0, .kp 0), (1, .kp 0), (2, .kp 0), (5, .kp 0)], [], [0, 0, 0, 1, 2, 5, 3, 4, 6, 7], []⟩, false, 0⟩, ⟨[0, 1, 1, 1, 1, 1, 1, 13, 0, 1, 1, 1, 4, 0, 1, 1, 5, 4, 1, 0, 1, 1, 1, 15, 0, 1, 1], [], [], ⟨[], [(0, .kp 0), (1, .kp 0), (2, .kp 0), (3, .kp 0), (6, .kp 0), (7, .kp 0), (8, .kp 0), (9, .kp 0), (12, .kp 0), (13, .kp 0), (14, .kp 0), (15, .kp 0)], [], [0, 0, 0, 1, 2, 3, 6, 7, 8, 9, 12, 13, 14, 15, 4, 5, 10, 11, 16, 17, 18, 19], []⟩, false, 0⟩]
def ct7 : Ct DD := ⟨7, [23], [24, 23], [[true], [true]], false, fun x Φ => Z30 x.1 fun y => Φ (y.1, y.2, ())⟩
def pl7 : List PE := [⟨[4, 1, 0, 1, 1, 1], [], [], ⟨[.int, .int, .lst 47], [(4, .own 0), (5, .v .int), (9, .kp 5), (10, .kp 6), (11, .v .int)], [], [47], []⟩, false, 0⟩, ⟨[4, 1, 0, 1, 1, 4, 0, 1, 1, 5, 4, 1, 0, 1, 1, 1], [], [8], ⟨[.int, .int, .lst 73], [(4, .kp 9), (5, .v .int), (8, .own 0), (9, .kp 5), (10, .kp 6), (11, .kp 11), (15, .kp 17), (16, .v .int)], [], [73], []⟩, false, 0⟩]
def ct64 : Ct DD := ⟨64, [3], [4], [[false]], true, fun x Φ => Z31 x.1 fun y => Φ (y, ())⟩
def pl64 : List PE := []
def ct41 : Ct DD := ⟨41, [23], [33], [[false]], true, fun x Φ => Z33 x.1 fun y => Φ (y, ())⟩
def pl41 : List PE := [⟨[4, 1, 0, 1, 12, 0, 1, 11, 0, 0, 1, 1], [], [], ⟨[.int], [(0, .kp 0), (1, .kp 1), (7, .kp 4), (8, .v .int)], [], [], []⟩, false, 0⟩]
def ct43 : Ct DD := ⟨43, [3], [71], [[true]], false, fun x Φ => q217 x.1 fun y => Φ (y, ())⟩
def pl43 : List PE := []
def ct21 : Ct DD := ⟨21, [23], [55, 33], [[true], [false]], false, fun x Φ => q53 x.1 fun y => Φ (y.1, y.2, ())⟩
def pl21 : List PE := [⟨[4, 1, 0, 1, 1, 11, 0, 1, 1], [], [], ⟨[.int, .lst 71], [(1, .kp 2), (5, .own 0), (11, .kp 8), (12, .kp 9), (13, .v .int)], [], [71], []⟩, false, 0⟩]
def ct44 : Ct DD := ⟨44, [3, 3, 3], [4], [[false]], true, fun x Φ => q34 x.1 x.2.1 x.2.2.1 fun y => Φ (y, ())⟩
def pl44 : List PE := []
def ct45 : Ct DD := ⟨45, [23], [23], [[true]], false, fun x Φ => Z34 x.1 fun y => Φ (y, ())⟩
def pl45 : List PE := []
def ct22 : Ct DD := ⟨22, [23, 3, 3], [49, 33], [[false, true, true, false, false], [false]], false, fun x Φ => q160 x.1 x.2.1 x.2.2.1 fun y => Φ (y.1, y.2, ())⟩
def pl22 : List PE := []
def ct96 : Ct DD := ⟨96, [160, 160], [160, 160], [[false], [false]], true, fun x Φ => Z35 x.1 x.2.1 fun y => Φ (y.1, y.2, ())⟩
def pl96 : List PE := []
def ct65 : Ct DD := ⟨65, [68, 68], [68, 68], [[false], [false]], true, fun x Φ => Z36 x.1 x.2.1 fun y => Φ (y.1, y.2, ())⟩
def pl65 : List PE := []
def ct46 : Ct DD := ⟨46, [23, 3], [23], [[true]], false, fun x Φ => Z39 x.1 x.2.1 fun y => Φ (y, ())⟩
def pl46 : List PE := [⟨[4, 0, 1, 1, 1, 1, 1, 1], [], [], ⟨[.int, .lst 3], [(7, .own 0), (8, .v .int)], [], [3], []⟩, false, 0⟩, ⟨[0, 1, 1, 1], [], [], ⟨[.bool], [(0, .kp 0), (6, .kp 15), (26, .v .bool)], [], [], []⟩, true, 0⟩]
def ct23 : Ct DD := ⟨23, [3, 3, 3], [53, 33], [[false, false, true, true], [false]], false, fun x Φ => q115 x.1 x.2.1 x.2.2.1 fun y => Φ (y.1, y.2, ())⟩
def pl23 : List PE := [⟨[3, 1, 4, 0, 1], [], [0], ⟨[.bool], [(0, .kp 1), (1, .kp 2), (2, .kp 3), (6, .kp 4), (16, .v .bool)], [], [], []⟩, true, 0⟩, ⟨[4, 0, 1], [], [0], ⟨[.bool], [(0, .kp 1), (1, .kp 2), (2, .kp 3), (6, .kp 4), (8, .v .bool)], [], [], []⟩, true, 0⟩]
def ct92 : Ct DD := ⟨92, [71], [3], [[false]], true, fun x Φ => Z40 x.1 fun y => Φ (y, ())⟩
def pl92 : List PE := []
def ct58 : Ct DD := ⟨58, [55], [23], [[true]], false, fun x Φ => q139 x.1 fun y => Φ (y, ())⟩
def pl58 : List PE := [⟨[4, 1, 0, 1, 1, 11, 0, 1], [], [], ⟨[.int, .lst 3], [(1, .kp 2), (5, .own 0), (11, .kp 8), (12, .kp 9), (13, .v .int)], [], [3], []⟩, false, 0⟩]
def ct33 : Ct DD := ⟨33, [55], [33], [[false]], true, fun x Φ => q57 x.1 fun y => Φ (y, ())⟩
def pl33 : List PE := []
def ct60 : Ct DD := ⟨60, [71], [71], [[true]], false, fun x Φ => Z42 x.1 fun y => Φ (y, ())⟩
def pl60 : List PE := []
def ct35 : Ct DD := ⟨35, [55, 73], [33], [[false]], true, fun x Φ => q84 x.1 x.2.1 fun y => Φ (y, ())⟩
def pl35 : List PE := [⟨[4, 0, 1], [], [0], ⟨[.bool], [(0, .kp 1), (3, .kp 3), (5, .v .bool)], [], [], []⟩, true, 0⟩]
def ct13 : Ct DD := ⟨13, [55, 47], [55, 3, 33], [[true], [false], [false]], false, fun x Φ => q58 x.1 x.2.1 fun y => Φ (y.1, y.2.1, y.2.2, ())⟩
def ct119 : Ct DD := ⟨119, [3], [4], [[false]], true, fun x Φ => Z47 x.1 fun y => Φ (y, ())⟩
def pl119 : List PE := []
def ct98 : Ct DD := ⟨98, [23, 3], [33], [[false]], true, fun x Φ => Z49 x.1 x.2.1 fun y => Φ (y, ())⟩
def pl98 : List PE := [⟨[4, 1, 0, 1, 12, 0, 1, 11, 0, 0, 1, 1], [], [], ⟨[.int], [(0, .kp 0), (1, .kp 1), (7, .kp 4), (8, .v .int)], [], [], []⟩, false, 0⟩]
def ct97 : Ct DD := ⟨97, [55, 73], [33], [[false]], true, fun x Φ => q66 x.1 x.2.1 fun y => Φ (y, ())⟩
def pl97 : List PE := []
def ct72 : Ct DD := ⟨72, [73], [73], [[false, false, true]], false, fun x Φ => Z50 x.1 fun y => Φ (y, ())⟩
def pl72 : List PE := []
def ct71 : Ct DD := ⟨71, [49], [49], [[false, true, true, true, true]], false, fun x Φ => Z52 x.1 fun y => Φ (y, ())⟩
def pl71 : List PE := [⟨[4, 1, 0, 1, 1, 1], [], [4, 3, 2, 0, 1], ⟨[.int, .lst 73], [(1, .kp 6), (2, .kp 7), (3, .own 0), (19, .kp 22), (20, .kp 23), (21, .v .int)], [], [73], []⟩, false, 0⟩]
def ct47 : Ct DD := ⟨47, [49, 3, 73], [49, 33], [[false, true, true, true, true], [false]], false, fun x Φ => q195 x.1 x.2.1 x.2.2.1 fun y => Φ (y.1, y.2, ())⟩
def pl47 : List PE := [⟨[0, 1, 1], [0, 1], [0, 1], ⟨[], [(0, .kp 0), (1, .kp 0), (3, .kp 0), (4, .kp 0)], [], [0, 0, 0, 1, 3, 4, 2, 5], []⟩, false, 0⟩, ⟨[4, 1, 0, 1, 1, 1, 1, 1, 1, 12, 0, 1, 1], [19], [19, 18, 3, 2], ⟨[.int], [(1, .kp 21), (3, .kp 29), (38, .kp 56), (39, .kp 57), (40, .v .int)], [], [], []⟩, false, 0⟩, ⟨[1, 4, 0, 1, 1, 5, 4, 1, 0, 1, 1, 1, 1, 1, 1, 12, 0, 1, 1], [], [], ⟨[], [], [], [8], []⟩, false, 0⟩]
def ct99 : Ct DD := ⟨99, [3], [4], [[false]], true, fun x Φ => Z53 x.1 fun y => Φ (y, ())⟩
def pl99 : List PE := []
def it100 : It DD := ⟨100, [133, 4], [3, 73], fun x l => q28 x.1 x.2.1 l⟩
def pl100 : List PE := [⟨[4, 1], [], [], ⟨[.int], [(0, .kp 0), (1, .kp 3), (2, .kp 4), (8, .kp 7), (9, .kp 8), (10, .v .int)], [], [], []⟩, false, 0⟩, ⟨[0, 1, 4, 0, 1, 1, 5, 4, 1], [], [], ⟨[], [(2, .kp 0), (5, .kp 0), (7, .kp 0), (8, .kp 0), (9, .kp 0)], [], [0, 0, 2, 5, 0, 1, 3, 4, 6, 7, 8, 9, 10, 11, 12, 13], []⟩, false, 0⟩]
def ct101 : Ct DD := ⟨101, [73], [33], [[false]], true, fun x Φ => Z56 x.1 fun y => Φ (y, ())⟩
def pl101 : List PE := [⟨[4, 0, 1], [], [0], ⟨[.bool], [(1, .kp 2), (3, .v .bool)], [], [], []⟩, true, 0⟩]
def ct120 : Ct DD := ⟨120, [184], [184], [[false, false]], true, fun x Φ => Z57 x.1 fun y => Φ (y, ())⟩
def pl120 : List PE := []
def ct144 : Ct DD := ⟨144, [3], [4], [[false]], true, fun x Φ => Z58 x.1 fun y => Φ (y, ())⟩
def pl144 : List PE := []
def ct138 : Ct DD := ⟨138, [3, 3], [3], [[false]], true, fun x Φ => Z59 x.1 x.2.1 fun y => Φ (y, ())⟩
def pl138 : List PE := []
def ct137 : Ct DD := ⟨137, [23], [3], [[false]], true, fun x Φ => q248 x.1 fun y => Φ (y, ())⟩
def pl137 : List PE := [⟨[4, 1, 0, 1, 1], [], [], ⟨[.int], [(3, .kp 2), (6, .kp 3), (7, .kp 4), (8, .v .int)], [], [], []⟩, false, 0⟩]
def ct122 : Ct DD := ⟨122, [184, 184], [3], [[false]], true, fun x Φ => Z60 x.1 x.2.1 fun y => Φ (y, ())⟩
def pl122 : List PE := []
def tn121 : Tn DD := ⟨121, 184, [122], fun xs Φ => Z61 xs Φ⟩
def ct76 : Ct DD := ⟨76, [47], [47, 33], [[true], [false]], false, fun x Φ => Z68 x.1 fun y => Φ (y.1, y.2, ())⟩
def pl76 : List PE := [⟨[4, 1, 0, 1], [], [], ⟨[.int], [(0, .kp 0), (7, .kp 3), (8, .kp 4), (9, .v .int)], [], [], []⟩, false, 0⟩, ⟨[4, 1, 0, 1, 1, 11, 0, 1, 1], [], [], ⟨[.int, .mp 184 70], [(3, .kp 9), (10, .kp 0), (11, .kp 10), (12, .v .int)], [], [], [(6, .map 184 70 true true)]⟩, false, 0⟩, ⟨[4, 1, 1, 1, 4, 0, 1, 1, 5, 4, 1, 0, 1, 1, 11, 0, 1, 1], [], [12], ⟨[.int, .int, .int, .mp 184 70], [(3, .kp 9), (6, .kp 24), (10, .kp 0), (11, .kp 10), (12, .kp 14), (22, .kp 26), (23, .kp 27), (24, .v .int)], [(13, 184, [.v .int,.v .int])], [], [(6, .map 184 70 true true)]⟩, false, 0⟩, ⟨[4, 1, 0, 1, 1, 12, 0, 1, 1], [], [6], ⟨[.itr, .lst 184], [(0, .kp 9), (3, .own 0), (14, .kp 18)], [], [184], [(13, .itr 6)]⟩, false, 0⟩, ⟨[4, 1, 0, 1, 1, 1, 1, 1, 1, 12, 0, 1, 1], [], [13, 19, 6], ⟨[.int, .int, .int, .lst 73, .lst 70], [(0, .kp 9), (5, .own 0), (6, .kp 28), (26, .kp 29), (27, .kp 30), (28, .v .int)], [(20, 184, [.v .int,.v .int])], [300073, 70], []⟩, false, 0⟩, ⟨[1, 4, 0, 1, 1, 5, 4, 1, 0, 1, 1, 1, 1, 1, 1, 12, 0, 1, 1], [], [36, 20], ⟨[.lst 73, .lst 70], [(0, .kp 9), (5, .own 0), (6, .kp 28), (8, .kp 42), (26, .kp 29), (27, .kp 30), (28, .kp 38)], [], [300073, 70], []⟩, true, 0⟩]
def ct78 : Ct DD := ⟨78, [133, 3, 73], [73], [[false, false, true]], false, fun x Φ => Z72 x.1 x.2.1 x.2.2.1 fun y => Φ (y, ())⟩
def pl78 : List PE := [⟨[4, 1, 0, 1, 1], [5, 6], [6, 5, 3, 1, 0], ⟨[.lst 70], [], [(2, 73, [.kp 21,.kp 22,.own 0])], [70], []⟩, false, 0⟩, ⟨[4, 1, 1, 4, 7, 4, 1, 0, 1, 1], [], [32], ⟨[.int, .lst 70], [(5, .kp 12), (8, .kp 36), (29, .kp 43), (30, .v .int)], [(2, 73, [.kp 21,.kp 22,.own 0])], [70], []⟩, false, 0⟩, ⟨[0, 4, 7, 4, 1, 0, 1, 1], [], [32, 2, 31], ⟨[.bool], [(5, .kp 12), (8, .kp 36), (26, .v .bool)], [], [], []⟩, true, 0⟩]
def ct48 : Ct DD := ⟨48, [49, 3, 23], [49, 103, 33], [[false, true, true, true, true], [false, false, false, true, true], [false]], false, fun x Φ => q141 x.1 x.2.1 x.2.2.1 fun y => Φ (y.1, y.2.1, y.2.2, ())⟩
def pl48 : List PE := [⟨[4, 1, 0, 1, 1, 1, 1, 1, 1, 11, 0, 1, 1], [5], [5, 4, 3, 2, 1, 0], ⟨[.int], [(1, .kp 7), (3, .kp 15), (38, .kp 42), (39, .kp 43), (40, .v .int)], [], [], []⟩, false, 0⟩, ⟨[1, 4, 0, 1, 1, 5, 4, 1, 0, 1, 1, 1, 1, 1, 1, 11, 0, 1, 1], [], [], ⟨[], [], [], [8], []⟩, false, 0⟩, ⟨[4, 1, 0, 1, 1, 1, 1, 1, 1, 1], [135, 133, 136], [136, 135, 132, 133, 5, 4, 3, 2, 1, 0], ⟨[.lst 73], [], [(134, 47, [.own 0])], [73], []⟩, false, 0⟩, ⟨[4, 1, 0, 1, 1, 1, 1, 1, 1, 1, 1, 1, 1, 1, 1], [153, 154], [154, 153, 151, 152, 150, 149, 2, 134, 148, 136, 135, 132, 133, 5, 4, 3, 0], ⟨[.lst 3, .lst 73], [], [(1, 49, [.kp 176,.kp 177,.kp 178,.own 0,.own 1])], [3, 73], []⟩, false, 0⟩, ⟨[1, 1, 1, 1, 1], [], [5, 4, 3, 2, 1, 0], ⟨[.int, .lst 3, .lst 3, .lst 3, .lst 73, .lst 4], [(1, .kp 67), (2, .kp 68), (3, .kp 69), (6, .kp 70), (7, .kp 71), (8, .kp 72), (9, .pv 132 0)], [(132, 133, [.v .int,.v (.lst 3),.v (.lst 3),.v (.lst 3),.v (.lst 73),.own 0])], [4], []⟩, true, 49⟩, ⟨[4, 1, 0, 1, 1, 12, 0, 1, 1, 1, 1, 1], [], [85, 84], ⟨[.int, .lst 3], [(2, .kp 88), (4, .kp 89), (5, .own 0), (14, .kp 68), (15, .kp 93), (16, .v .int)], [], [3], []⟩, false, 0⟩, ⟨[4, 1, 0, 1, 1, 1, 1, 12, 0, 1, 1, 1, 1, 1], [], [85, 84], ⟨[.int, .lst 3, .lst 4], [(4, .kp 89), (5, .own 0), (8, .kp 113), (41, .kp 104), (42, .kp 115), (43, .v .int)], [(107, 133, [.kp 117,.kp 118,.kp 119,.kp 120,.kp 121,.own 1])], [3, 4], []⟩, false, 0⟩, ⟨[4, 1, 0, 1, 12, 0, 1, 11, 0, 1, 1, 1, 1, 1, 12, 0, 1, 1, 1, 1, 1], [], [107, 123, 124, 85, 84], ⟨[.int], [(0, .kp 125), (1, .kp 126), (7, .kp 129), (8, .v .int)], [], [], []⟩, false, 0⟩]
def ct104 : Ct DD := ⟨104, [3], [4], [[false]], true, fun x Φ => Z80 x.1 fun y => Φ (y, ())⟩
def pl104 : List PE := []
def ct82 : Ct DD := ⟨82, [], [23], [[true]], false, fun _ Φ => q59 fun y => Φ (y, ())⟩
def pl82 : List PE := []
def ct109 : Ct DD := ⟨109, [47, 23], [33], [[false]], true, fun x Φ => Z82 x.1 x.2.1 fun y => Φ (y, ())⟩
def pl109 : List PE := [⟨[4, 1, 0, 1, 12, 0, 1, 1, 1], [0], [1, 0], ⟨[.int], [(0, .kp 2), (1, .kp 3), (9, .kp 5), (10, .kp 6), (11, .v .int)], [], [], []⟩, false, 0⟩]
def ct81 : Ct DD := ⟨81, [103, 23], [33], [[false]], true, fun x Φ => q44 x.1 x.2.1 fun y => Φ (y, ())⟩
def pl81 : List PE := [⟨[4, 0, 1, 1], [], [1, 0], ⟨[.bool], [(1, .kp 3), (2, .kp 4), (16, .v .bool)], [], [], []⟩, true, 0⟩]
def ct110 : Ct DD := ⟨110, [23], [3], [[false]], true, fun x Φ => Z85 x.1 fun y => Φ (y, ())⟩
def pl110 : List PE := [⟨[4, 1, 0, 1, 1, 1], [], [], ⟨[.int, .int], [(0, .kp 0), (3, .v .int), (4, .v .int)], [], [], []⟩, false, 0⟩]
def ct83 : Ct DD := ⟨83, [53], [3], [[false]], true, fun x Φ => Z86 x.1 fun y => Φ (y, ())⟩
def pl83 : List PE := []
def ct90 : Ct DD := ⟨90, [53, 3], [4], [[false]], true, fun x Φ => Z88 x.1 x.2.1 fun y => Φ (y, ())⟩
def pl90 : List PE := [⟨[4, 1, 0, 1, 12, 0, 1, 13, 0, 1], [], [1, 0], ⟨[.int], [(0, .kp 2), (1, .kp 3), (7, .kp 6), (8, .v .int)], [], [], []⟩, false, 0⟩]
def ct106 : Ct DD := ⟨106, [53, 3], [4], [[false]], true, fun x Φ => Z89 x.1 x.2.1 fun y => Φ (y, ())⟩
def pl106 : List PE := []
def ct108 : Ct DD := ⟨108, [3, 3], [3], [[false]], true, fun x Φ => Z90 x.1 x.2.1 fun y => Φ (y, ())⟩
def pl108 : List PE := []
def ct80 : Ct DD := ⟨80, [53], [3], [[false]], true, fun x Φ => Z92 x.1 fun y => Φ (y, ())⟩
def pl80 : List PE := [⟨[4, 1, 0, 1, 1, 11, 0, 1], [], [1, 0], ⟨[.int, .int], [(2, .kp 4), (3, .kp 5), (7, .v .int), (12, .kp 10), (13, .kp 11), (14, .v .int)], [], [], []⟩, false, 0⟩]
def ct79 : Ct DD := ⟨79, [53], [33], [[false]], true, fun x Φ => Z98 x.1 fun y => Φ (y, ())⟩
def pl79 : List PE := [⟨[4, 1, 0, 1, 1, 1, 1], [12], [12, 1, 0], ⟨[.int], [(1, .kp 3), (4, .kp 20), (54, .kp 8), (55, .kp 22), (56, .v .int)], [], [], []⟩, false, 0⟩, ⟨[4, 1, 0, 1, 1, 1, 1, 1], [], [12, 1, 0], ⟨[.int], [(1, .kp 3), (83, .kp 9), (84, .kp 27), (85, .v .int)], [], [], []⟩, false, 0⟩, ⟨[3, 1, 4, 0, 1, 1], [], [1, 0], ⟨[.bool], [(1, .kp 3), (30, .v .bool)], [], [], []⟩, true, 0⟩, ⟨[4, 1, 0, 1, 12, 0, 1, 22, 0, 3, 1, 4, 0, 1, 1], [], [], ⟨[.int], [(0, .kp 9), (1, .kp 12), (7, .kp 14), (8, .v .int)], [], [], []⟩, false, 0⟩, ⟨[4, 0, 1, 1], [], [1, 0], ⟨[.bool], [(1, .kp 3), (3, .kp 5), (10, .v .bool)], [], [], []⟩, true, 0⟩]
def ct111 : Ct DD := ⟨111, [51], [51], [[true]], false, fun x Φ => Z99 x.1 fun y => Φ (y, ())⟩
def pl111 : List PE := []
def ct85 : Ct DD := ⟨85, [103], [103], [[false, false, false, true, true]], false, fun x Φ => Z101 x.1 fun y => Φ (y, ())⟩
def pl85 : List PE := [⟨[4, 1, 0, 1, 1, 1], [], [2, 1, 0], ⟨[.int, .lst 73], [(1, .kp 5), (2, .kp 6), (3, .own 0), (15, .kp 17), (16, .kp 18), (17, .v .int)], [], [73], []⟩, false, 0⟩]
def ct84 : Ct DD := ⟨84, [53], [53], [[false, true, true, true]], false, fun x Φ => Z103 x.1 fun y => Φ (y, ())⟩
def pl84 : List PE := [⟨[4, 1, 0, 1, 1], [], [2, 3, 1, 0], ⟨[.int, .lst 103], [(2, .kp 7), (3, .kp 17), (16, .kp 19), (17, .kp 20), (18, .v .int)], [(4, 53, [.kp 22,.own 0,.kp 24,.kp 25])], [103], []⟩, false, 0⟩]
def tn87 : Tn DD := ⟨87, 3, [], fun xs Φ => Z104 xs Φ⟩
def ct49 : Ct DD := ⟨49, [53, 103], [53, 23, 33], [[false, false, false, true], [true], [false]], false, fun x Φ => q142 x.1 x.2.1 fun y => Φ (y.1, y.2.1, y.2.2, ())⟩
def pl49 : List PE := [⟨[4, 0, 1, 1, 1, 1, 1, 1, 1, 1], [11, 5], [10, 8, 9, 11, 5, 3, 2, 1, 0], ⟨[.int, .lst 103, .lst 3, .lst 3, .lst 4], [(4, .kp 16), (9, .kp 40), (10, .own 0)], [(7, 53, [.v .int,.v (.lst 103),.v (.lst 3),.own 1])], [3, 4], []⟩, false, 0⟩, ⟨[4, 1, 0, 1, 4, 1, 5, 4, 0, 1, 1, 1, 1, 1, 1, 1, 1], [], [], ⟨[.int, .lst 3, .lst 4], [(4, .kp 16), (9, .kp 40), (10, .own 0), (11, .kp 77), (55, .kp 79), (56, .kp 80), (57, .v .int)], [(7, 53, [.kp 82,.kp 83,.kp 84,.own 1])], [3, 4], []⟩, false, 0⟩, ⟨[1, 4, 0, 1, 1, 5, 4, 1, 0, 1, 4, 1, 5, 4, 0, 1, 1, 1, 1, 1, 1, 1, 1], [], [7, 86, 87], ⟨[.bool], [(4, .kp 16), (9, .kp 40), (10, .kp 88), (11, .kp 77), (12, .kp 94), (55, .kp 79), (56, .kp 80), (57, .kp 89), (72, .v .bool)], [], [], []⟩, true, 0⟩, ⟨[1, 1, 1, 1, 11, 1, 1, 4, 1, 5, 4, 0, 1, 1, 1, 1, 1, 1, 1, 1], [], [90, 89, 88, 7, 86, 87], ⟨[.int], [(1, .kp 92), (2, .kp 93), (5, .v .int)], [], [], []⟩, true, 0⟩, ⟨[1, 1, 1, 11, 1, 1, 4, 1, 5, 4, 0, 1, 1, 1, 1, 1, 1, 1, 1], [], [90, 89, 88, 7, 86, 87], ⟨[.int], [(1, .kp 92), (2, .kp 93), (5, .v .int)], [], [], []⟩, true, 0⟩, ⟨[4, 1, 0, 1, 13, 0, 1, 1, 1, 11, 1, 1, 4, 1, 5, 4, 0, 1, 1, 1, 1, 1, 1, 1, 1], [], [], ⟨[.int], [(0, .kp 105), (1, .kp 98), (7, .kp 110), (8, .v .int)], [], [], []⟩, false, 0⟩, ⟨[1, 4, 0, 1, 1, 5, 4, 1, 0, 1, 13, 0, 1, 1, 1, 11, 1, 1, 4, 1, 5, 4, 0, 1, 1, 1, 1, 1, 1, 1, 1], [], [], ⟨[.bool], [(0, .kp 105), (1, .kp 98), (5, .kp 115), (7, .kp 110), (8, .kp 112), (16, .v .bool)], [], [], []⟩, true, 0⟩]
def ct88 : Ct DD := ⟨88, [53, 3], [33], [[false]], true, fun x Φ => Z112 x.1 x.2.1 fun y => Φ (y, ())⟩
def pl88 : List PE := []
def ct52 : Ct DD := ⟨52, [53, 3], [103, 4], [[false, false, false, true, true], [false]], false, fun x Φ => q143 x.1 x.2.1 fun y => Φ (y.1, y.2, ())⟩
def pl52 : List PE := [⟨[4, 1, 9, 4, 1, 0, 1, 1], [], [19, 18, 0], ⟨[.int], [(0, .kp 20), (1, .kp 22), (2, .kp 23), (7, .kp 25), (8, .kp 26), (9, .v .int)], [(2, 4, [.kp 8]), (1, 103, [.kp 9,.kp 10,.kp 11,.kp 12,.kp 13])], [], [(21, .jmp)]⟩, false, 0⟩, ⟨[0, 1, 4, 0, 1, 1, 5, 4, 1, 9, 4, 1, 0, 1, 1], [], [], ⟨[], [], [], [11], []⟩, false, 0⟩, ⟨[0, 1], [], [2, 1, 0], ⟨[.bool], [(1, .kp 4), (2, .kp 5), (4, .kp 6), (5, .kp 7), (17, .v .bool)], [], [], []⟩, true, 0⟩]
def ct53 : Ct DD := ⟨53, [55, 103], [55, 33], [[true], [false]], false, fun x Φ => q95 x.1 x.2.1 fun y => Φ (y.1, y.2, ())⟩
def pl53 : List PE := [⟨[4, 1, 0, 1, 1, 1], [], [0], ⟨[.int, .lst 3], [(0, .kp 1), (3, .kp 3), (7, .own 0), (19, .kp 12), (20, .kp 13), (21, .v .int)], [], [3], []⟩, false, 0⟩]
def ct86 : Ct DD := ⟨86, [53], [53], [[false, false, false, false]], false, fun x Φ => q96 x.1 fun y => Φ (y, ())⟩
def pl86 : List PE := [⟨[1, 1, 1, 1], [], [2, 1, 0], ⟨[.int], [(1, .kp 4), (2, .kp 5), (5, .v .int)], [], [], []⟩, true, 0⟩, ⟨[1, 1, 1], [], [2, 1, 0], ⟨[.int], [(1, .kp 4), (2, .kp 5), (5, .v .int)], [], [], []⟩, true, 0⟩, ⟨[4, 1, 0, 1, 13, 0, 1, 1, 1], [], [], ⟨[.int], [(0, .kp 17), (1, .kp 10), (7, .kp 21), (8, .v .int)], [], [], []⟩, false, 0⟩, ⟨[1, 4, 0, 1, 1, 5, 4, 1, 0, 1, 13, 0, 1, 1, 1], [], [], ⟨[.bool], [(0, .kp 17), (1, .kp 10), (5, .kp 26), (7, .kp 21), (8, .kp 23), (16, .v .bool)], [], [], []⟩, true, 0⟩]
def ct54 : Ct DD := ⟨54, [53, 3, 3], [53, 33], [[false, false, false, false], [false]], false, fun x Φ => Z121 x.1 x.2.1 x.2.2.1 fun y => Φ (y.1, y.2, ())⟩
def pl54 : List PE := [⟨[3, 1, 3, 1, 4, 0, 1, 1], [], [1, 0], ⟨[.bool], [(1, .kp 3), (2, .kp 4), (3, .kp 5), (6, .kp 6), (33, .v .bool)], [], [], []⟩, true, 0⟩]
def ct56 : Ct DD := ⟨56, [71, 71], [4], [[false]], true, fun x Φ => Z123 x.1 x.2.1 fun y => Φ (y, ())⟩
def pl56 : List PE := [⟨[4, 1, 0, 1, 1], [], [], ⟨[.int], [(0, .kp 0), (1, .kp 1), (12, .kp 9), (13, .v .int)], [], [], []⟩, false, 0⟩]
def ct28 : Ct DD := ⟨28, [55, 55], [4], [[false]], true, fun x Φ => q116 x.1 x.2.1 fun y => Φ (y, ())⟩
def pl28 : List PE := [⟨[4, 1, 0, 1, 1, 12, 0, 1], [], [], ⟨[.int], [(1, .kp 1), (2, .kp 2), (15, .kp 9), (16, .kp 10), (17, .v .int)], [], [], []⟩, false, 0⟩]
def ct57 : Ct DD := ⟨57, [23, 23], [4], [[false]], true, fun x Φ => Z125 x.1 x.2.1 fun y => Φ (y, ())⟩
def pl57 : List PE := [⟨[4, 1, 0, 1, 1], [], [], ⟨[.int], [(0, .kp 0), (1, .kp 1), (12, .kp 9), (13, .v .int)], [], [], []⟩, false, 0⟩]
def ct29 : Ct DD := ⟨29, [28, 32], [33], [[false]], true, fun x Φ => Z127 x.1 x.2.1 fun y => Φ (y, ())⟩
def pl29 : List PE := [⟨[4, 1, 0, 1, 1, 1, 1, 1], [], [7, 6, 2, 3, 4, 5, 1, 0], ⟨[.bool, .int], [(8, .v .bool), (45, .kp 50), (46, .kp 51), (47, .v .int)], [], [], []⟩, false, 0⟩]
def ct11 : Ct DD := ⟨11, [28, 32, 3], [3, 33], [[false], [false]], true, fun x Φ => q144 x.1 x.2.1 x.2.2.1 fun y => Φ (y.1, y.2, ())⟩
def pl11 : List PE := [⟨[4, 0, 1, 1, 14, 0, 1, 1, 1], [], [2, 1, 0], ⟨[.int, .int], [(1, .kp 4), (5, .v .int), (6, .v .int)], [], [], []⟩, false, 0⟩]
def ct3 : Ct DD := ⟨3, [26], [4], [[false]], true, fun x Φ => Z144 x.1 fun y => Φ (y, ())⟩
def pl3 : List PE := [⟨[1, 1, 1, 1, 1, 1, 1, 1], [68, 69, 70, 71, 4, 5, 6, 7], [68, 69, 70, 71, 9, 10, 8, 4, 5, 6, 7, 3, 1, 2, 0], ⟨[.bool, .int, .int, .lst 3, .lst 3, .lst 3, .lst 73, .int, .lst 103, .lst 3, .lst 4, .lst 71, .lst 71, .int, .int, .int, .lst 55, .lst 3], [(5, .kp 26), (10, .kp 79), (11, .v .bool)], [(74, 3, [.v .int]), (67, 58, [.kp 81,.kp 82,.kp 83,.kp 84,.kp 85,.v .int,.v (.lst 3),.v (.lst 3),.v (.lst 3),.v (.lst 73),.v .int,.v (.lst 103),.v (.lst 3),.v (.lst 4),.v (.lst 71),.v (.lst 71),.own 0,.own 1,.v .int,.v .int,.v .int])], [55, 3], []⟩, true, 0⟩, ⟨[4, 1, 0, 1, 1, 1, 13, 0, 1, 1, 1, 1, 1, 1, 1, 1], [], [], ⟨[.int, .int, .int, .int, .lst 3, .lst 3, .lst 3, .lst 73, .int, .lst 103, .lst 3, .lst 4, .lst 71, .lst 71, .int, .int, .int, .lst 55, .lst 3], [(0, .kp 76), (1, .kp 40), (2, .kp 102), (7, .kp 114), (8, .v .int), (9, .v .int)], [(74, 3, [.v .int]), (67, 58, [.kp 81,.kp 82,.kp 83,.kp 84,.kp 85,.v .int,.v (.lst 3),.v (.lst 3),.v (.lst 3),.v (.lst 73),.v .int,.v (.lst 103),.v (.lst 3),.v (.lst 4),.v (.lst 71),.v (.lst 71),.own 0,.own 1,.v .int,.v .int,.v .int])], [55, 3], []⟩, false, 0⟩, ⟨[4, 1, 0, 1, 12, 0, 0, 1, 1, 1, 4, 0, 1, 5, 4, 1, 0, 1, 1, 1, 13, 0, 1, 1, 1, 1, 1, 1, 1, 1], [], [157, 146, 74], ⟨[.int, .int, .lst 103, .lst 3, .lst 4, .lst 71, .int], [(0, .kp 76), (1, .kp 120), (16, .kp 161), (17, .kp 162), (18, .v .int)], [(67, 58, [.kp 81,.kp 82,.kp 83,.kp 84,.kp 85,.kp 147,.kp 148,.kp 149,.kp 150,.kp 151,.v .int,.v (.lst 103),.v (.lst 3),.v (.lst 4),.kp 144,.v (.lst 71),.kp 156,.kp 164,.kp 165,.kp 145,.v .int])], [], []⟩, false, 0⟩, ⟨[0, 1, 1, 1, 1, 1, 4, 0, 1, 5, 4, 1, 0, 1, 1, 1, 13, 0, 1, 1, 1, 1, 1, 1, 1, 1], [], [], ⟨[], [], [], [31], []⟩, false, 0⟩, ⟨[1, 1, 4, 0, 1, 5, 4, 1, 0, 1, 1, 1, 13, 0, 1, 1, 1, 1, 1, 1, 1, 1], [], [146, 74], ⟨[.int, .lst 3], [(0, .kp 76), (1, .kp 40), (2, .kp 102), (7, .kp 114), (9, .kp 120)], [(67, 58, [.kp 81,.kp 82,.kp 83,.kp 84,.kp 85,.kp 147,.kp 148,.kp 149,.kp 150,.kp 151,.kp 152,.kp 153,.kp 154,.kp 155,.kp 144,.kp 132,.kp 156,.own 0,.v .int,.kp 145,.kp 137])], [3], []⟩, true, 0⟩, ⟨[4, 1, 1, 1, 12, 0, 1, 1, 4, 0, 1, 5, 4, 1, 0, 1, 1, 1, 13, 0, 1, 1, 1, 1, 1, 1, 1, 1], [], [], ⟨[.int, .int, .lst 3], [(0, .kp 76), (1, .kp 120), (4, .v .int)], [(67, 58, [.kp 81,.kp 82,.kp 83,.kp 84,.kp 85,.kp 147,.kp 148,.kp 149,.kp 150,.kp 151,.kp 152,.kp 153,.kp 154,.kp 155,.kp 144,.kp 132,.kp 156,.own 0,.v .int,.kp 145,.kp 137])], [3], []⟩, false, 0⟩, ⟨[4, 0, 1, 5, 4, 1, 1, 1, 12, 0, 1, 1, 4, 0, 1, 5, 4, 1, 0, 1, 1, 1, 13, 0, 1, 1, 1, 1, 1, 1, 1, 1], [], [169], ⟨[.int], [(0, .kp 76), (1, .kp 120)], [(67, 58, [.kp 81,.kp 82,.kp 83,.kp 84,.kp 85,.kp 147,.kp 148,.kp 149,.kp 150,.kp 151,.kp 152,.kp 153,.kp 154,.kp 155,.kp 144,.kp 132,.kp 156,.kp 171,.v .int,.kp 145,.kp 137])], [], []⟩, true, 0⟩, ⟨[4, 1, 0, 1, 13, 0, 4, 0, 1, 5, 4, 1, 1, 1, 12, 0, 1, 1, 4, 0, 1, 5, 4, 1, 0, 1, 1, 1, 13, 0, 1, 1, 1, 1, 1, 1, 1, 1], [], [67], ⟨[.int], [(1, .kp 170), (11, .kp 153), (12, .kp 178), (13, .v .int)], [], [], []⟩, false, 0⟩, ⟨[0, 5, 4, 1, 1, 1, 12, 0, 1, 1, 4, 0, 1, 5, 4, 1, 0, 1, 1, 1, 13, 0, 1, 1, 1, 1, 1, 1, 1, 1], [], [67, 169], ⟨[.bool], [(0, .kp 76), (1, .kp 120), (4, .kp 170), (92, .v .bool)], [], [], []⟩, true, 0⟩, ⟨[1, 12, 0, 1, 1, 4, 0, 1, 5, 4, 1, 0, 1, 1, 1, 13, 0, 1, 1, 1, 1, 1, 1, 1, 1], [], [], ⟨[.int, .lst 3], [(0, .kp 76), (1, .kp 120)], [(67, 58, [.kp 81,.kp 82,.kp 83,.kp 84,.kp 85,.kp 147,.kp 148,.kp 149,.kp 150,.kp 151,.kp 152,.kp 153,.kp 154,.kp 155,.kp 144,.kp 132,.kp 156,.own 0,.v .int,.kp 145,.kp 137])], [3], []⟩, true, 0⟩, ⟨[0, 1, 12, 0, 1, 1, 4, 0, 1, 5, 4, 1, 0, 1, 1, 1, 13, 0, 1, 1, 1, 1, 1, 1, 1, 1], [], [67, 118], ⟨[.bool], [(0, .kp 76), (1, .kp 120), (28, .v .bool)], [], [], []⟩, true, 0⟩, ⟨[1, 4, 0, 1, 5, 4, 1, 0, 1, 1, 1, 13, 0, 1, 1, 1, 1, 1, 1, 1, 1], [], [74, 118], ⟨[.int, .lst 3, .lst 3, .lst 3, .lst 73, .int, .lst 103, .lst 3, .lst 4, .lst 55], [(0, .kp 76), (1, .kp 40), (2, .kp 102), (7, .kp 114), (9, .kp 120)], [(67, 58, [.kp 81,.kp 82,.kp 83,.kp 84,.kp 85,.v .int,.v (.lst 3),.v (.lst 3),.v (.lst 3),.v (.lst 73),.v .int,.v (.lst 103),.v (.lst 3),.v (.lst 4),.kp 144,.kp 132,.own 0,.kp 134,.kp 135,.kp 145,.kp 137])], [55], []⟩, true, 0⟩, ⟨[4, 0, 1, 5, 4, 1, 0, 1, 1, 1, 13, 0, 1, 1, 1, 1, 1, 1, 1, 1], [], [74, 117, 118], ⟨[.int, .lst 3, .lst 3, .lst 3, .lst 73, .lst 71, .int], [(0, .kp 76), (1, .kp 40), (2, .kp 102), (7, .kp 114), (9, .kp 120)], [(67, 58, [.kp 81,.kp 82,.kp 83,.kp 84,.kp 85,.v .int,.v (.lst 3),.v (.lst 3),.v (.lst 3),.v (.lst 73),.kp 127,.kp 128,.kp 129,.kp 130,.v (.lst 71),.kp 132,.kp 133,.kp 134,.kp 135,.v .int,.kp 137])], [], []⟩, true, 0⟩, ⟨[4, 1, 0, 1, 25, 0, 0, 4, 0, 1, 5, 4, 1, 0, 1, 1, 1, 13, 0, 1, 1, 1, 1, 1, 1, 1, 1], [], [], ⟨[.int, .int, .lst 3, .lst 3, .lst 3, .lst 73, .lst 71, .int], [(0, .kp 76), (12, .kp 141), (13, .kp 142), (14, .v .int)], [(67, 58, [.kp 81,.kp 82,.kp 83,.kp 84,.kp 85,.v .int,.v (.lst 3),.v (.lst 3),.v (.lst 3),.v (.lst 73),.kp 127,.kp 128,.kp 129,.kp 130,.v (.lst 71),.kp 132,.kp 133,.kp 134,.kp 135,.v .int,.kp 137])], [], []⟩, false, 0⟩, ⟨[0, 5, 4, 1, 0, 1, 1, 1, 13, 0, 1, 1, 1, 1, 1, 1, 1, 1], [], [74, 67, 117, 118], ⟨[.bool], [(0, .kp 76), (1, .kp 40), (2, .kp 102), (7, .kp 114), (8, .kp 119), (9, .kp 120), (31, .v .bool)], [], [], []⟩, true, 0⟩, ⟨[1, 1, 1, 1, 1], [10], [9, 10, 8, 4, 5, 6, 7, 3, 1, 2, 0], ⟨[.bool, .lst 3, .lst 3, .int, .int, .int, .int, .lst 3, .lst 73, .int, .lst 103, .lst 71, .lst 71, .int, .int, .int, .lst 3, .lst 3, .lst 3, .lst 4, .lst 55, .lst 3], [(3, .kp 19), (4, .v .bool), (5, .kp 26), (7, .kp 40), (9, .pv 67 0)], [(67, 58, [.v (.lst 3),.v (.lst 3),.v .int,.v .int,.v .int,.v .int,.own 0,.own 1,.v (.lst 3),.v (.lst 73),.v .int,.v (.lst 103),.own 2,.own 3,.v (.lst 71),.v (.lst 71),.own 4,.own 5,.v .int,.v .int,.v .int])], [3, 3, 3, 4, 55, 3], []⟩, true, 10⟩]
def Eqn (cs : List (Ct DD)) (pl : List PE) (S : List (List Nat × Nat)) (K : List (Sk DD)) (c : Ct DD) : Prop := ∀ x Φ, c.W x Φ = topF ⟨Tryz.prog, tab, cs, pl, [], gh, [], S, K⟩ 9 c.f c.ps c.rs c.own x Φ
theorem eq3 : Eqn [ct5, ct6, ct7, ct11, ct13, ct16, ct21, ct22, ct23, ct28, ct47, ct48, ct49, ct52, ct53, ct54] pl3 [] [] ct3 := fun x Φ => by kernel_rfl
theorem eq48 (x : TupD DD ct48.ps) (Φ : TupD DD ct48.rs → Prop) : ct48.W x Φ = topD ⟨Tryz.prog, tab, [ct21, ct44, ct45, ct76, ct78, ct97, ct98, ct99], pl48, [it100], gh, [], [([18, 0, 1, 4, 0, 1, 1, 5, 4, 1, 0, 1, 1, 12, 0, 1, 1, 1, 1, 1], 0)], []⟩ 9 ct48.f ct48.ps ct48.rs ct48.own x Φ := by kernel_rfl
theorem eq37 (x : TupD DD ct37.ps) (Φ : TupD DD ct37.rs → Prop) : ct37.W x Φ = topF ⟨Tryz.prog, tab, [], pl37, [it94], gh, [], [], []⟩ 9 ct37.f ct37.ps ct37.rs ct37.own x Φ := by kernel_rfl
theorem eq81 : Eqn [ct21, ct44, ct98, ct109] pl81 [] [] ct81 := fun x Φ => by kernel_rfl
theorem eq98 : Eqn [ct44, ct119] pl98 [] [] ct98 := fun x Φ => by kernel_rfl
theorem eq80 : Eqn [ct108] pl80 [] [] ct80 := fun x Φ => by kernel_rfl
theorem eq36 : Eqn [ct62] pl36 [] [] ct36 := fun x Φ => by kernel_rfl
theorem eq83 : Eqn [ct110] pl83 [] [] ct83 := fun x Φ => by kernel_rfl
theorem eq72 : Eqn [ct60] pl72 [] [] ct72 := fun x Φ => by kernel_rfl
theorem eq43 : Eqn [] pl43 [] [] ct43 := fun x Φ => by kernel_rfl
theorem eq99 : Eqn [] pl99 [] [] ct99 := fun x Φ => by kernel_rfl
theorem eq6 : Eqn [ct17, ct37, ct38, ct39] pl6 [([14, 0, 1, 1], 998)] [] ct6 := fun x Φ => by kernel_rfl
theorem eq38 : Eqn [] pl38 [] [] ct38 := fun x Φ => by kernel_rfl
theorem eq17 : Eqn [ct30, ct36] pl17 [] [] ct17 := fun x Φ => by kernel_rfl
theorem eq85 : Eqn [ct45, ct60] pl85 [] [] ct85 := fun x Φ => by kernel_rfl
theorem eqi100 (x : TupD DD it100.cs) (l : List (TupD DD it100.ts)) : it100.W x l = iterF ⟨Tryz.prog, tab, [], pl100, [], gh, [], [], []⟩ it100.f it100.cs it100.ts x l := by kernel_rfl
theorem eq39 : Eqn [] pl39 [] [] ct39 := fun x Φ => by kernel_rfl
theorem eq58 : Eqn [ct92] pl58 [] [] ct58 := fun x Φ => by kernel_rfl
theorem eq137 : Eqn [] pl137 [] [] ct137 := fun x Φ => by kernel_rfl
theorem eq60 : Eqn [] pl60 [] [] ct60 := fun x Φ => by kernel_rfl
theorem eq30 : Eqn [] pl30 [] [] ct30 := fun x Φ => by kernel_rfl
theorem eq33 : Eqn [ct41, ct58] pl33 [] [] ct33 := fun x Φ => by kernel_rfl
theorem eq92 : Eqn [] pl92 [] [] ct92 := fun x Φ => by kernel_rfl
theorem eq49 (x : TupD DD ct49.ps) (Φ : TupD DD ct49.rs → Prop) : ct49.W x Φ = topF ⟨Tryz.prog, tab, [ct79, ct80, ct81, ct82, ct83, ct84, ct85], pl49, [], gh, [tn87], [], []⟩ 9 ct49.f ct49.ps ct49.rs ct49.own x Φ := by kernel_rfl
theorem eq7 : Eqn [] pl7 [] [] ct7 := fun x Φ => by kernel_rfl
theorem eq54 : Eqn [ct84, ct86, ct88, ct90] pl54 [] [] ct54 := fun x Φ => by kernel_rfl
theorem eq86 : Eqn [ct80] pl86 [] [] ct86 := fun x Φ => by kernel_rfl
theorem eq22 : Eqn [ct21, ct44, ct45] pl22 [] [] ct22 := fun x Φ => by kernel_rfl
theorem eq41 : Eqn [ct64] pl41 [] [] ct41 := fun x Φ => by kernel_rfl
theorem eq96 : Eqn [] pl96 [] [] ct96 := fun x Φ => by kernel_rfl
theorem eq110 : Eqn [] pl110 [] [] ct110 := fun x Φ => by kernel_rfl
theorem eq106 : Eqn [ct83, ct90] pl106 [] [] ct106 := fun x Φ => by kernel_rfl
theorem eq45 : Eqn [] pl45 [] [] ct45 := fun x Φ => by kernel_rfl
theorem eq44 : Eqn [] pl44 [] [] ct44 := fun x Φ => by kernel_rfl
theorem eq62 : Eqn [ct30] pl62 [] [] ct62 := fun x Φ => by kernel_rfl
theorem eq144 : Eqn [] pl144 [] [] ct144 := fun x Φ => by kernel_rfl
end Go.Proofs.YtklnkmdgajiebaaGreat
