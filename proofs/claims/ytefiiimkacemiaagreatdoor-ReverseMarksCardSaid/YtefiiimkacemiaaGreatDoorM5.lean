/- Part 5 of the proof of the statement ReverseMarksCardSaid: lemmas. No condition of its own. -/
import Derived.Lib.TrailingZeros
import Derived.SevenTiedAt
import Derived.Test.YtefiiimkacemiaaGreatDoorRows
import Derived.Test.YtefiiimkacemiaaGreatDoorTie
import Derived.Test.YtefiiimkacemiaaGreatDoorCards
import Derived.Test.YtefiiimkacemiaaGreatDoorProg
import Derived.CallsIn
import Derived.Shelf.SlIterI.Sorted
import Derived.Shelf.SortM.Plain
import Derived.Shelf.SortM.SortNone
import Derived.Ground.GgzProg
import Derived.Ground.SlgmProg
import Derived.Test.YtefiiimkacemiaaGreatDoorM4
namespace Go.Proofs.YtefiiimkacemiaaGreatDoor
open Go.RowKit
section
section
variable {F : Fence} {n : Nat} {P : Program} {ops : Array Oper} {Q : Exit → Act → World → Prop}
theorem wpList_cons1 {Q1 : Exit → Act → World → Prop} {o : Oper} {l : List Oper} {a : Act} {w : World} (h : wpListIn F n P ops Q1 [o] a w) (hK : ∀ a w, Q1 .normal a w → wpListIn F n P ops Q l a w) (hp : ∀ c a w, ¬ Q1 (.panic c) a w) (hl : ¬ LetsOut Q1) : wpListIn F n P ops Q (o :: l) a w := by
  unfold wpListIn at h ⊢
  split at h
  · rename_i hw
    rw [if_pos hw]
    refine ⟨h.1, ?_⟩
    have h2 := h.2
    generalize (o.semAt F.round a.eval).run P w = res at h2
    cases res with
    | ok nx w' =>
      cases nx with
      | value v => exact hK _ _ h2
      | skip => exact hK _ _ h2
      | defer d => exact hK _ _ h2
      | enter f args =>
        refine ⟨h2.1, h2.2.mono fun e w'' he => ?_⟩
        cases e with
        | returned v => exact hK _ _ he
        | panicked chain => exact absurd he (hp _ _ _)
        | outgrown => exact absurd he hl
      | row row args => exact ⟨h2.1, h2.2.mono fun v w'' he => hK _ _ he⟩
      | round l f tmps assign body =>
        refine ⟨h2.1, h2.2.mono fun e w'' he => ?_⟩
        cases e with
        | returned v => exact hK _ _ he
        | panicked chain => exact absurd he (hp _ _ _)
        | outgrown => exact absurd he hl
      | _ => exact h2
    | halt x w' =>
      cases x with
      | panic v => exact absurd h2 (hp _ _ _)
      | _ => exact h2
  · rename_i hw
    rw [if_neg hw]
    exact ⟨h.1, hK _ _ h.2⟩
end
theorem RW.cons1 {r : Option Nat} {md : Nat} {P : Program} {N : Nat} {ops : Array Oper} {o : Oper} {l : List Oper} {Q : Exit → List Deferred → (Nat → Value) → World → Prop} {Dd : List Deferred} {σ : Nat → Value} {w : World}
    (h : RW r md P N ops [o] (fun e D' σ' w' => e = .normal ∧ RW r md P N ops l Q D' σ' w') Dd σ w) : RW r md P N ops (o :: l) Q Dd σ w := by
  intro a ha
  refine wpList_cons1 (h a ha) (fun a' w' hq => ?_) (fun c a' w' hq => ?_) (fun hq => ?_)
  · obtain ⟨D', σ', h1, _, h2⟩ := hq
    exact h2 a' h1
  · obtain ⟨_, _, _, hn, _⟩ := hq
    cases hn
  · obtain ⟨_, _, _, _, _, hn, _⟩ := hq
    cases hn
def Yl {α : Type} (l : List α) (K : α → List α → Prop) : Prop := match l with
  | [] => False
  | x :: r => K x r
section
variable {D : Nat → Type} [∀ t, Dt (D t)]
def yieldE (st : St D) (op : Op) : Option (List Operand) := match op with
  | .call ⟨.value g, xs, _⟩ => match evO st.sl g with
    | some (.kp 0) => some xs.toList
    | _ => none
  | _ => none
omit [∀ t, Dt (D t)] in
theorem yieldE_ok {st : St D} {op : Op} {xs : List Operand} (h : yieldE st op = some xs) : ∃ g ys tys, op = .call ⟨.value g, ys, tys⟩ ∧ evO st.sl g = some (.kp 0) ∧ xs = ys.toList := by
  unfold yieldE at h
  split at h
  · split at h
    · rename_i hg
      cases h
      exact ⟨_, _, _, rfl, hg, rfl⟩
    · cases h
  · cases h
def memI (P : Program) (tb : Tb D) (st : St D) (fr : List (Nat × Blk D)) (op : Op) : Option (SV D × St D) := match op with
  | .alloc T => match alE P st.nx T with
    | some (_, v, ef) => some (v, st.eff ef)
    | none => none
  | .box T _ => match opVals st fr op with
    | some [a] => match bxE st.nx T a with
      | some (_, v, ef) => some (v, st.eff ef)
      | none => none
    | _ => none
  | .store T _ _ => match opVals st fr op with
    | some [.ptr id off, b] => match stE P tb (gtB st.bk) T (.ptr id off) b with
      | some (_, v, ef) => some (v, st.eff ef)
      | none => none
    | _ => none
  | _ => none
def isMemI : Op → Bool
  | .alloc _ => true
  | .box _ _ => true
  | .store _ _ _ => true
  | _ => false
def yOp (E : Env D) (fr : List (Nat × Blk D)) (ts : List Nat) (o : Oper) (sp : Bool) (st : St D) (rest : List (TupD D ts)) (K : Bool → St D → List (TupD D ts) → Prop) : Prop := match yieldE st o.op with
  | some xs => match sp with
    | true => False
    | false => Yl rest fun x r => match mapO (fun x => (evO st.sl x).map fun v => rsD (st.lk fr) (resD st.kn v)) xs with
      | some vs => match argsC E.P ts vs with
        | some ls => match ofTup E.tb ts ls with
          | some a => a = x ∧ K false ((⟨st.sl, [], st.kn, st.nx⟩ : St D).put o.dst (.k true)) r ∧ K true ((⟨st.sl, [], st.kn, st.nx⟩ : St D).put o.dst (.k false)) (x :: r)
          | none => False
        | none => False
      | none => False
  | none => match isMemI o.op with
    | true => match memI E.P E.tb st fr o.op with
      | some (v, st') => K sp (st'.put o.dst v) rest
      | none => False
    | false => stepD E fr o st fun v e _ _ => cdP e False (K sp (st.put o.dst v) rest)
def yFl (E : Env D) (fr : List (Nat × Blk D)) (ts : List Nat) (q : Bool) (o : Oper) (sp : Bool) (st : St D) (rest : List (TupD D ts)) (K : Bool → St D → List (TupD D ts) → Prop) : Prop := match q with
  | true => match quietE E fr o st with
    | some v => K sp (st.put o.dst v) rest
    | none => False
  | false => yOp E fr ts o sp st rest K
def runYF (E : Env D) (N : Nat) (fr : List (Nat × Blk D)) (ts : List Nat) (ops : Array Oper) (fl : List Nat) : List Nat → Bool → St D → List (TupD D ts) → (Bool → St D → List (TupD D ts) → Prop) → Prop
  | [], sp, st, rest, K => K sp st rest
  | i :: g, sp, st, rest, K => match ops[i]? with
    | none => False
    | some o => cdP (dstOk o.dst N) (match gdE ops st o.guard with
      | .yes => yFl E fr ts (fl.any (Nat.beq i)) o sp st rest fun sp' st' rest' => runYF E N fr ts ops fl g sp' st' rest' K
      | .no => runYF E N fr ts ops fl g sp (st.put o.dst (.c undef)) rest K
      | .ask t v want => askF v
          (cdP want (yFl E fr ts (fl.any (Nat.beq i)) o sp (st.know (.tmp t) true) rest fun sp' st' rest' => runYF E N fr ts ops fl g sp' st' rest' K) (runYF E N fr ts ops fl g sp ((st.know (.tmp t) true).put o.dst (.c undef)) rest K))
          (cdP want (runYF E N fr ts ops fl g sp ((st.know (.tmp t) false).put o.dst (.c undef)) rest K) (yFl E fr ts (fl.any (Nat.beq i)) o sp (st.know (.tmp t) false) rest fun sp' st' rest' => runYF E N fr ts ops fl g sp' st' rest' K))
      | .bad => False) False
def runY (E : Env D) (N : Nat) (fr : List (Nat × Blk D)) (ts : List Nat) (ops : Array Oper) : List Oper → Bool → St D → List (TupD D ts) → (Bool → St D → List (TupD D ts) → Prop) → Prop
  | [], sp, st, rest, K => K sp st rest
  | o :: l, sp, st, rest, K => cdP (dstOk o.dst N) (match gdE ops st o.guard with
    | .yes => yOp E fr ts o sp st rest fun sp' st' rest' => runY E N fr ts ops l sp' st' rest' K
    | .no => runY E N fr ts ops l sp (st.put o.dst (.c undef)) rest K
    | .ask t v want => askF v
        (cdP want (yOp E fr ts o sp (st.know (.tmp t) true) rest fun sp' st' rest' => runY E N fr ts ops l sp' st' rest' K) (runY E N fr ts ops l sp ((st.know (.tmp t) true).put o.dst (.c undef)) rest K))
        (cdP want (runY E N fr ts ops l sp ((st.know (.tmp t) false).put o.dst (.c undef)) rest K) (yOp E fr ts o sp (st.know (.tmp t) false) rest fun sp' st' rest' => runY E N fr ts ops l sp' st' rest' K))
    | .bad => False) False
def runI (E : Env D) (N : Nat) (fr : List (Nat × Blk D)) (ts : List Nat) : Code → List Nat → Bool → St D → List (TupD D ts) → (Exit → Bool → St D → List (TupD D ts) → Prop) → Prop
  | .skip, _, sp, st, rest, K => K .normal sp st rest
  | .ret, _, sp, st, rest, K => K .ret sp st rest
  | .exit id, _, sp, st, rest, K => K (.exit id) sp st rest
  | .region _ ops dr, pos, sp, st, rest, K => match dr with
    | false => runY E N fr ts ops ops.toList sp st rest (K .normal)
    | true => match findP pos E.plan with
      | some pe => match pe.tp.rw with
        | 0 :: 0 :: g => cdP (Region.noSelect ops && (Nat.beq g.length ops.size && flB ops (pe.tp.sl.map (·.1)) g (Array.replicate ops.size false))) (runYF E N fr ts ops (pe.tp.sl.map (·.1)) g sp st rest (K .normal)) False
        | _ => False
      | none => False
  | .cond c a b, pos, sp, st, rest, K => match (evO st.sl c).map (res st.kn) with
    | some (.k true) => runI E N fr ts a (2 :: pos) sp st rest K
    | some (.k false) => runI E N fr ts b (3 :: pos) sp st rest K
    | some s => askF s (runI E N fr ts a (2 :: pos) sp (st.know c true) rest K) (runI E N fr ts b (3 :: pos) sp (st.know c false) rest K)
    | none => False
  | .block id c, pos, sp, st, rest, K => runI E N fr ts c (4 :: pos) sp st rest fun e sp' st' rest' => match e with
    | .exit id' => cdP (Nat.beq id' id) (K .normal sp' st' rest') (K (.exit id') sp' st' rest')
    | e => K e sp' st' rest'
  | .seq a b, pos, sp, st, rest, K => runI E N fr ts a (0 :: pos) sp st rest fun e sp' st' rest' => match e with
    | .normal => runI E N fr ts b (1 :: pos) sp' st' rest' K
    | e => K e sp' st' rest'
  | .loop c, pos, sp, st, rest, K => match sp, findP pos E.plan with
    | false, some pe => match fillE pe.tp st.tag.nx st.tag fr with
      | some s0 => LoopW (fun (q : List (TupD D ts) × TupV D pe.tp.vts) rec => match makeE pe.tp st.tag.nx st.tag.kn q.2 with
        | some st2 => match st2.bk with
          | [] => runI E N fr ts c (5 :: pos) false st2 q.1 fun e sp' st' rest' => match e with
            | .normal => match sp' with
              | false => match fillE pe.tp st.tag.nx st' fr with
                | some s' => rec (rest', s')
                | none => False
              | true => False
            | e => K e sp' st' rest'
          | _ :: _ => False
        | none => False) (rest, s0)
      | none => False
    | _, _ => False
  | _, _, _, _, _, _ => False
def JS {α : Type} (J Jx : Nat → World → Prop) (all : List α) (sp : Bool) (rest : List α) (w : World) : Prop := match sp with
  | false => ∃ k, k ≤ all.length ∧ J k w ∧ rest = all.drop k
  | true => ∃ k, k < all.length ∧ Jx k w
theorem JS.below {α : Type} {J Jx : Nat → World → Prop} (hJ : ∀ k A B, J k A → Below A.heap.size A B → J k B) (hJx : ∀ k A B, Jx k A → Below A.heap.size A B → Jx k B) {all rest : List α} {sp : Bool} {w w' : World} (h : JS J Jx all sp rest w) (hb : Below w.heap.size w w') : JS J Jx all sp rest w' := by
  cases sp with
  | false => obtain ⟨k, h0, h1, h2⟩ := h; exact ⟨k, h0, hJ _ _ _ h1 hb, h2⟩
  | true => obtain ⟨k, h1, h2⟩ := h; exact ⟨k, h1, hJx _ _ _ h2 hb⟩
variable {E : Env D} {N : Nat} {fr : List (Nat × Blk D)} {ts : List Nat} {H : Hp} {lp : Nat} {J Jx : Nat → World → Prop} {all : List (TupD D ts)}
def IS (J Jx : Nat → World → Prop) (all : List (TupD D ts)) (fr : List (Nat × Blk D)) (H : Hp) (ρ : RM) (sp : Bool) (rest : List (TupD D ts)) (st : St D) (σ : Nat → Value) (w : World) : Prop := ∃ wy L, Sat fr [] wy H [] H ρ L st σ w ∧ JS J Jx all sp rest wy
theorem IS.ag {ρ : RM} {sp : Bool} {rest : List (TupD D ts)} {st : St D} {σ : Nat → Value} {w : World} (h : IS J Jx all fr H ρ sp rest st σ w) : AgH H w := by
  obtain ⟨wy, L, hs, _⟩ := h
  exact hs.mem.agree
theorem IS.put {ρ : RM} {sp : Bool} {rest : List (TupD D ts)} {st : St D} {σ : Nat → Value} {w : World} (h : IS J Jx all fr H ρ sp rest st σ w) {x : Value} {v : SV D} (hv : Rv H ρ x v) (d : Option Nat) : IS J Jx all fr H ρ sp rest (st.put d v) (upd σ d x) w := by
  obtain ⟨wy, L, hs, hj⟩ := h
  exact ⟨wy, L, hs.put hv d, hj⟩
theorem IS.know {ρ : RM} {sp : Bool} {rest : List (TupD D ts)} {st : St D} {σ : Nat → Value} {w : World} (h : IS J Jx all fr H ρ sp rest st σ w) {c : Operand} {b : Bool} (hc : ev σ c = .bool b) : IS J Jx all fr H ρ sp rest (st.know c b) σ w := by
  obtain ⟨wy, L, hs, hj⟩ := h
  exact ⟨wy, L, hs.know hc, hj⟩
theorem IS.res {ρ : RM} {sp : Bool} {rest : List (TupD D ts)} {st : St D} {σ : Nat → Value} {w : World} (h : IS J Jx all fr H ρ sp rest st σ w) {x : Value} {v : SV D} (hv : Rv H ρ x v) : Rv H ρ x (Go.Proofs.YtefiiimkacemiaaGreatDoor.res st.kn v) := by
  obtain ⟨wy, L, hs, _⟩ := h
  exact hs.res hv
theorem IS.slr {ρ : RM} {sp : Bool} {rest : List (TupD D ts)} {st : St D} {σ : Nat → Value} {w : World} (h : IS J Jx all fr H ρ sp rest st σ w) : SlR H ρ st.sl σ := by
  obtain ⟨wy, L, hs, _⟩ := h
  exact hs.sl
def YOk (P : Program) (ts : List Nat) (H : Hp) (lp : Nat) (J Jx : Nat → World → Prop) (all : List (TupD D ts)) : Prop := ∀ k A0 vs, k < all.length → (∃ y, all[k]? = some y ∧ ArgsR P H ts y vs) → J k A0 → (∀ b o, H b = some o → A0.heap[b]? = some o) → Yield P lp vs A0 fun v B => (∀ b o, H b = some o → B.heap[b]? = some o) ∧ ((v = .bool true ∧ J (k + 1) B) ∨ (v = .bool false ∧ Jx k B))
def GoesI (fr : List (Nat × Blk D)) (H : Hp) (J Jx : Nat → World → Prop) (all : List (TupD D ts)) (ρ : RM) (K : Bool → St D → List (TupD D ts) → Prop) (T : (Nat → Value) → World → Prop) : Prop := ∀ sp' st' rest' σ' w' ρ', K sp' st' rest' → RM.le ρ ρ' → IS J Jx all fr H ρ' sp' rest' st' σ' w' → T σ' w'
theorem GoesI.mono {ρ ρ' : RM} {K : Bool → St D → List (TupD D ts) → Prop} {T : (Nat → Value) → World → Prop} (h : GoesI fr H J Jx all ρ K T) (hρ : RM.le ρ ρ') : GoesI fr H J Jx all ρ' K T := fun sp st rest σ w ρ2 hk h1 hs => h sp st rest σ w ρ2 hk (hρ.trans h1) hs
theorem memI_ok {P : Program} {tb : Tb D} {σ : Nat → Value} {ty : TypeId} {w w0 : World} {H0 : Hp} {ρ : RM} {R L F : List Ent} {st st' : St D} (hs : Sat fr F w0 H0 R H ρ L st σ w) {op : Op} {v : SV D} (h : memI P tb st fr op = some (v, st')) : Dn P σ op ty w fun x w' => ∃ ρ' L', RM.le ρ ρ' ∧ Sat fr F w0 H0 R H ρ' L' st' σ w' ∧ Rv H ρ' x v := by
  unfold memI at h
  split at h
  · rename_i T
    split at h
    · rename_i gs v' ef ha
      cases h
      unfold alE at ha
      split at ha
      · rename_i l hl
        cases ha
        obtain ⟨z, hz, hc⟩ := zcE_ok hl
        intro r md N ops l2 Q Dd d pos af gd hg hd k
        refine RW.alloc hs.mem hz z.cells.toList (by simp) hg hd fun b w' hM => k _ _ ?_
        obtain ⟨a1, a2⟩ := hs.new (q := .b b) (b := .box T l) (Hp.le.refl _) ⟨b, _, RM.put_same _ _ _, rfl, hc _ _⟩ hM
        exact ⟨_, _, a1, a2, b, RM.put_same _ _ _, rfl⟩
      · cases ha
    · cases h
  · rename_i T x
    split at h
    · rename_i a hvs
      split at h
      · rename_i gs v' ef ha
        cases h
        unfold bxE at ha
        obtain ⟨ho, ha⟩ := cif ha
        cases ha
        obtain ⟨y, e, h1⟩ := rv1 (opVals_ok hs hvs)
        cases e
        obtain ⟨us, g1, g2⟩ := cellsV_ok ho h1
        intro r md N ops l2 Q Dd d pos af gd hg hd k
        refine RW.box hs.mem _ us rfl g1 hg hd fun b w' hM => k _ _ ?_
        obtain ⟨a1, a2⟩ := hs.new (q := .b b) (b := .box T (cellsV a)) (Hp.le.refl _) ⟨b, us, RM.put_same _ _ _, rfl, g2.mono (Hp.le.refl _) (hs.fresh _)⟩ hM
        exact ⟨_, _, a1, a2, b, RM.put_same _ _ _, rfl⟩
      · cases h
    · cases h
  · rename_i T x y
    split at h
    · rename_i id off b hvs
      split at h
      · rename_i gs v' ef ha
        cases h
        obtain ⟨x', y', e, h1, h2⟩ := rv2 (opVals_ok hs hvs)
        cases e
        unfold stE at ha
        obtain ⟨ho, ha⟩ := cif ha
        rw [Bool.and_eq_true] at ho
        obtain ⟨ho, hsz⟩ := ho
        obtain ⟨us, g1, g2⟩ := cellsV_ok ho h2
        have hlen := RvL.length g2
        have hsz : ∃ i, P.info? T = some i ∧ i.size = us.length := by rw [hlen]; exact size_of hsz
        have h1c : ∀ u ∈ us, u.oneCell' = true := oneL_ok ho g2
        obtain ⟨bl, e1, e2⟩ := h1
        intro r md N ops l2 Q Dd d pos af gd hg hd k
        simp only at ha
        split at ha
        · rename_i T' cs hl
          obtain ⟨hle, ha⟩ := cif ha
          cases ha
          obtain ⟨L1, S, L2, ⟨b', vs, f1, rfl, f3⟩, hM, hK⟩ := hs.write hl
          rw [e1] at f1; cases f1
          refine RW.store hM L1.length _ us _ hsz e2 rfl g1 h1c (get_at _ _ _) (by rw [hlen, RvL.length f3]; exact Nat.le_of_ble_eq_true hle) rfl _ (set_at _ _ _ _) hg hd fun w' hM' => k _ _ ?_
          exact ⟨ρ, _, RM.le.refl _, hK (Hp.le.refl _) (RM.le.refl _) ⟨bl, _, e1, rfl, setC_ok f3 g2⟩ hM' hs.nx, rfl⟩
        · cases ha
      · cases h
    · cases h
  · cases h
theorem yOp_ok (hE : E.Ok) (hG : E.G H) (hJ : ∀ k A B, J k A → Below A.heap.size A B → J k B) (hY : YOk E.P ts H lp J Jx all) {r : Option Nat} {md : Nat} {ops : Array Oper} {Q : Exit → List Deferred → (Nat → Value) → World → Prop} {Dd : List Deferred} {K : Bool → St D → List (TupD D ts) → Prop} {ρ : RM} (h0 : ρ 0 = some (.v (.func (.yield lp) #[] #[]))) {o : Oper} {l : List Oper} {sp : Bool} {st : St D} {rest : List (TupD D ts)} {σ : Nat → Value} {w : World} (hs : IS J Jx all fr H ρ sp rest st σ w) (h : yOp E fr ts o sp st rest K) (hgd : gdOk ops σ o.guard = true) (hd : dstOk o.dst N = true)
    (hk : GoesI fr H J Jx all ρ K fun σ' w' => RW r md E.P N ops l Q Dd σ' w') : RW r md E.P N ops (o :: l) Q Dd σ w := by
  obtain ⟨wy, L, hs, hj⟩ := hs
  unfold yOp at h
  split at h
  · rename_i xs hy
    split at h
    · exact h.elim
    · cases rest with
      | nil => exact h.elim
      | cons x rr =>
      simp only [Yl] at h
      obtain ⟨k, _, hJk, hrest⟩ := hj
      have hkl : k < all.length := by
        rcases Nat.lt_or_ge k all.length with h1 | h1
        · exact h1
        · rw [List.drop_eq_nil_of_le h1] at hrest; cases hrest
      rw [List.drop_eq_getElem_cons hkl] at hrest
      obtain ⟨rfl, rfl⟩ := List.cons.inj hrest
      split at h
      · rename_i vs hvs
        split at h
        · rename_i ls hls
          split at h
          · rename_i a ha
            obtain ⟨hax, hT, hF⟩ := h
            have hA := argsC_ok hE.tb ts (opVals_ok hs hvs) hls ha
            rw [hax] at hA
            obtain ⟨d, op, ty, ps, af, gd⟩ := o
            obtain ⟨g, ys, tys, hop, hg, rfl⟩ := yieldE_ok (op := op) hy
            subst hop
            have hgv : ρ 0 = some (.v (ev σ g)) := evO_ok hs.sl hg
            rw [h0] at hgv
            have hgv : ev σ g = .func (.yield lp) #[] #[] := by
              have := Option.some.inj hgv
              injection this with this
              exact this.symm
            have fresh : ∀ {w' : World}, (∀ b o, H b = some o → w'.heap[b]? = some o) → Sat fr [] w' H [] H ρ [] (⟨st.sl, [], st.kn, st.nx⟩ : St D) σ w' := fun hag => ⟨Mem.start hag, hs.sl, rfl, hs.fr, hs.kn, hs.nx⟩
            refine RW.yield hgv rfl (hY k w _ hkl ⟨_, List.getElem?_eq_getElem hkl, hA⟩ (hJ _ _ _ hJk hs.mem.below) hs.mem.agree) hgd hd fun v w' ⟨hag, hv⟩ => ?_
            rcases hv with ⟨rfl, hv⟩ | ⟨rfl, hv⟩
            · exact hk _ _ _ _ _ _ hT (RM.le.refl _) ⟨w', [], (fresh hag).put (v := .k true) rfl d, (show JS J Jx all false _ _ from ⟨k + 1, hkl, hv, rfl⟩)⟩
            · exact hk _ _ _ _ _ _ hF (RM.le.refl _) ⟨w', [], (fresh hag).put (v := .k false) rfl d, (show JS J Jx all true _ _ from ⟨k, hkl, hv⟩)⟩
          · exact h.elim
        · exact h.elim
      · exact h.elim
  · split at h
    · split at h
      · rename_i v st' hm
        obtain ⟨d, op, ty, ps, af, gd⟩ := o
        refine memI_ok (ty := ty) hs hm hgd hd fun x w' ⟨ρ', L', a1, a2, a3⟩ => ?_
        exact hk _ _ _ _ _ _ h a1 ⟨wy, L', a2.put a3 d, hj⟩
      · exact h.elim
    · obtain ⟨v, e, nb, hi, h1, h2⟩ := stepD_ok (ops := ops) hE h
      cases e with
      | true => exact h1.elim
      | false =>
        rcases h2 [] none with ⟨_, _, hq⟩ | ⟨hq, _⟩
        · refine RW.cons1 (hq hG (show Sat fr [] wy H [] H ρ L ⟨st.sl, st.bk, st.kn, st.nx⟩ σ w from hs) hgd hd fun x w' hm hx => RW.nil ⟨rfl, ?_⟩)
          have hM := hm _ hs.mem
          exact hk _ _ _ _ _ _ h1 (RM.le.refl _) ⟨wy, L, (⟨hM, hs.sl, hs.bk, hs.fr, hs.kn, hs.nx⟩ : Sat fr [] wy H [] H ρ L st σ w').put hx o.dst, hj⟩
        · cases hq
theorem runY_ok (hE : E.Ok) (hG : E.G H) (hJ : ∀ k A B, J k A → Below A.heap.size A B → J k B) (hY : YOk E.P ts H lp J Jx all) {r : Option Nat} {md : Nat} {ops : Array Oper} {Q : Exit → List Deferred → (Nat → Value) → World → Prop} {Dd : List Deferred} {K : Bool → St D → List (TupD D ts) → Prop} : ∀ {l : List Oper} {ρ : RM} {sp : Bool} {st : St D} {rest : List (TupD D ts)} {σ : Nat → Value} {w : World}, ρ 0 = some (.v (.func (.yield lp) #[] #[])) → IS J Jx all fr H ρ sp rest st σ w → runY E N fr ts ops l sp st rest K → (GoesI fr H J Jx all ρ K fun σ' w' => Q .normal Dd σ' w') → RW r md E.P N ops l Q Dd σ w
  | [], ρ, sp, st, rest, σ, w, h0, hs, h, hk => RW.nil (hk _ _ _ _ _ _ h (RM.le.refl _) hs)
  | o :: l, ρ, sp, st, rest, σ, w, h0, hs, h, hk => by
    unfold runY at h
    obtain ⟨hd, h⟩ := cifP h
    have step : ∀ {st : St D}, IS J Jx all fr H ρ sp rest st σ w → gdOk ops σ o.guard = true → (yOp E fr ts o sp st rest fun sp' st' rest' => runY E N fr ts ops l sp' st' rest' K) → RW r md E.P N ops (o :: l) Q Dd σ w := fun hs hgt h => yOp_ok hE hG hJ hY h0 hs h hgt hd fun sp' st' rest' σ' w' ρ' h1 h2 h3 => runY_ok hE hG hJ hY (h2 _ _ h0) h3 h1 (hk.mono h2)
    have pass : ∀ {st : St D}, IS J Jx all fr H ρ sp rest st σ w → gdOk ops σ o.guard = false → runY E N fr ts ops l sp (st.put o.dst (.c undef)) rest K → RW r md E.P N ops (o :: l) Q Dd σ w := fun hs hgf h => by
      obtain ⟨d, op, ty, ps, af, gd⟩ := o
      exact RW.pass hgf hd (runY_ok hE hG hJ hY h0 (hs.put (v := .c undef) rfl d) h hk)
    have gok : ∀ {j want d} {x : Bool}, o.guard = some (j, want) → (ops[j]?).bind (·.dst) = some d → σ d = .bool x → gdOk ops σ o.guard = (x == want) := fun h1 h2 h3 => by
      unfold gdOk
      rw [h1]
      simp only [h2, h3]
    unfold gdE at h
    cases hgd : o.guard with
    | none =>
      simp only [hgd] at h
      exact step hs (by rw [hgd]; rfl) h
    | some jw =>
      obtain ⟨j, want⟩ := jw
      simp only [hgd] at h
      cases hj' : (ops[j]?).bind (·.dst) with
      | none =>
        simp only [hj'] at h
        refine pass hs ?_ h
        unfold gdOk
        rw [hgd]
        simp only [hj']
      | some d =>
        simp only [hj'] at h
        cases hsl : (getS st.sl d).map (Go.Proofs.YtefiiimkacemiaaGreatDoor.res st.kn) with
        | none => simp only [hsl] at h
        | some s =>
          obtain ⟨v0, hv0, hv1⟩ := Option.map_eq_some_iff.1 hsl
          have hv2 := hs.res (hs.slr _ _ hv0)
          rw [hv1] at hv2
          simp only [hsl] at h
          have ask : ∀ {v : SV D}, Rv H ρ (σ d) v → askF v (cdP want (yOp E fr ts o sp (st.know (.tmp d) true) rest fun sp' st' rest' => runY E N fr ts ops l sp' st' rest' K) (runY E N fr ts ops l sp ((st.know (.tmp d) true).put o.dst (.c undef)) rest K))
              (cdP want (runY E N fr ts ops l sp ((st.know (.tmp d) false).put o.dst (.c undef)) rest K) (yOp E fr ts o sp (st.know (.tmp d) false) rest fun sp' st' rest' => runY E N fr ts ops l sp' st' rest' K)) → RW r md E.P N ops (o :: l) Q Dd σ w := fun hv h => by
            rcases askF_ok hv h with ⟨e, h⟩ | ⟨e, h⟩
            · have hk := hs.know (c := .tmp d) (b := true) e
              have hgg := gok hgd hj' e
              cases want with
              | true => exact step hk hgg h
              | false => exact pass hk hgg h
            · have hk := hs.know (c := .tmp d) (b := false) e
              have hgg := gok hgd hj' e
              cases want with
              | true => exact pass hk hgg h
              | false => exact step hk hgg h
          cases s with
          | k b =>
            simp only at h
            have hgg := gok hgd hj' (show σ d = .bool b from hv2)
            cases hb : b == want with
            | true => rw [hb] at h; exact step hs (hgg.trans hb) h
            | false => rw [hb] at h; exact pass hs (hgg.trans hb) h
          | c v =>
            simp only at h
            cases hb : isBoolV v with
            | true => rw [hb] at h; exact h.elim
            | false =>
              rw [hb] at h
              refine pass hs ?_ h
              unfold gdOk
              rw [hgd]
              simp only [hj', show σ d = v from hv2]
              cases v <;> first | rfl | cases hb
          | b x => exact ask hv2 h
          | p p i => exact ask hv2 h
          | _ => exact h.elim
theorem runYF_ok (hE : E.Ok) (hG : E.G H) (hJ : ∀ k A B, J k A → Below A.heap.size A B → J k B) (hY : YOk E.P ts H lp J Jx all) {md : Nat} {ops : Array Oper} {fl : List Nat} {Dd : List Deferred} {K : Bool → St D → List (TupD D ts) → Prop} {Q : Exit → Act → World → Prop} (hQ : ∀ c a w, ¬ Q (.panic c) a w) (hsel : Region.noSelect ops = true) : ∀ {g : List Nat} {ls : Array Bool} {ρ : RM} {sp : Bool} {st : St D} {rest : List (TupD D ts)} {σ : Nat → Value} {w : World} {a : Act},
    ρ 0 = some (.v (.func (.yield lp) #[] #[])) → Rep N Dd σ a → IS J Jx all fr H ρ sp rest st σ w → runYF E N fr ts ops fl g sp st rest K → flB ops fl g ls = true → (GoesI fr H J Jx all ρ K fun σ' w' => ∀ a', Rep N Dd σ' a' → Q .normal a' w') → wpAnyG (FR none) md E.P ops Q (AgH H) g.length ls a w
  | [], ls, ρ, sp, st, rest, σ, w, a, h0, ha, hs, h, hf, k => ⟨List.isEmpty_iff.1 hf, k _ _ _ _ _ _ h (RM.le.refl _) hs a ha⟩
  | i :: g, ls, ρ, sp, st, rest, σ, w, a, h0, ha, hs, h, hf, k => by
    unfold runYF at h
    unfold flB at hf
    rw [Bool.and_eq_true, Bool.and_eq_true] at hf
    obtain ⟨⟨hr, hfr⟩, hf⟩ := hf
    have hr : i ∈ Region.ready .any ops ls := by simpa using hr
    cases ho : ops[i]? with
    | none => simp only [ho] at h
    | some o =>
      simp only [ho] at h
      obtain ⟨hd, h⟩ := cifP h
      have ag : AgH H w := hs.ag
      have hwt : Region.wanted o (yielded ops a.tmps) = gdOk ops σ o.guard := wanted_of ha
      have more : ∀ {st' : St D} {sp' : Bool} {rest' : List (TupD D ts)} {σ' : Nat → Value} {w' : World} {ρ' : RM} {a' : Act}, Rep N Dd σ' a' → runYF E N fr ts ops fl g sp' st' rest' K → RM.le ρ ρ' → IS J Jx all fr H ρ' sp' rest' st' σ' w' → wpAnyG (FR none) md E.P ops Q (AgH H) g.length (ls.setIfInBounds i true) a' w' := fun h1 h2 h3 h4 => runYF_ok hE hG hJ hY hQ hsel (h3 _ _ h0) h1 h4 h2 hf (k.mono h3)
      have quiet : fl.any (Nat.beq i) = true → isQuiet o = true := fun hq => by
        rw [hq, cond_true, ho, Bool.and_eq_true] at hfr
        exact hfr.1
      have first : ∀ {v : Value}, fl.any (Nat.beq i) = true → YG (AgH H) E.P ops o v a → wpAnyG (FR none) md E.P ops Q (AgH H) g.length (ls.setIfInBounds i true) (a.put o.dst v) w → wpAnyG (FR none) md E.P ops Q (AgH H) (g.length + 1) ls a w := fun hq hy hw => by
        rw [hq, cond_true, Bool.and_eq_true] at hfr
        exact wpAnyG_first rfl ho (Region.noSelect_spec hsel) (fun c a w hc => absurd hc (hQ _ _ _)) g.length ls a w ag (Region.free_spec ho hfr.2) hr hy hw
      have only : fl.any (Nat.beq i) = false → wpOpIn (FR none) md E.P ops Q i (fun a' w' => AgH H w' ∧ wpAnyG (FR none) md E.P ops Q (AgH H) g.length (ls.setIfInBounds i true) a' w') a w → wpAnyG (FR none) md E.P ops Q (AgH H) (g.length + 1) ls a w := fun hq hw => by
        rw [hq, cond_false] at hfr
        have e : Region.ready .any ops ls = [i] := eqL_ok hfr
        refine ⟨fun h => (by rw [e] at h; cases h), fun j hj => ?_⟩
        rw [e, List.mem_singleton] at hj
        subst hj; exact hw
      have noAbout : ∀ f, o.about E.P w a.eval = some f → (FR none).fn f := fun f _ => FR_fn _ f
      have pass : ∀ {st : St D}, IS J Jx all fr H ρ sp rest st σ w → gdOk ops σ o.guard = false → runYF E N fr ts ops fl g sp (st.put o.dst (.c undef)) rest K → wpAnyG (FR none) md E.P ops Q (AgH H) (g.length + 1) ls a w := fun hs hg h => by
        have hw := more (ha.put hd undef) h (RM.le.refl _) (hs.put (v := .c undef) rfl o.dst)
        cases hq : fl.any (Nat.beq i) with
        | false =>
          refine only hq ?_
          unfold wpOpIn
          rw [ho]
          simp only
          rw [hwt, hg]
          exact ⟨noAbout, ag, hw⟩
        | true => exact first hq ⟨.inr ⟨hwt.trans hg, rfl⟩, fun w => isQuiet_about (quiet hq) a w⟩ hw
      have step : ∀ {st : St D}, IS J Jx all fr H ρ sp rest st σ w → gdOk ops σ o.guard = true → yFl E fr ts (fl.any (Nat.beq i)) o sp st rest (fun sp' st' rest' => runYF E N fr ts ops fl g sp' st' rest' K) → wpAnyG (FR none) md E.P ops Q (AgH H) (g.length + 1) ls a w := fun {st} hs hg h => by
        unfold yFl at h
        cases hq : fl.any (Nat.beq i) with
        | true =>
          rw [hq] at h
          simp only at h
          split at h
          · rename_i v hv
            have hs0 := hs
            obtain ⟨wy, L, hs, hj⟩ := hs
            obtain ⟨⟨x, h1, h2⟩, h3⟩ := quietE_ok hs hv
            refine first hq ⟨.inl ⟨hwt.trans hg, fun w' hw' => ?_⟩, fun w => h3 a w⟩ (more (ha.put hd x) h (RM.le.refl _) (hs0.put h1 o.dst))
            rw [ha.eval]
            exact h2 w' hw' _ _ _ _
          · exact h.elim
        | false =>
          rw [hq] at h
          simp only at h
          refine only hq ?_
          let Q1 : Exit → List Deferred → (Nat → Value) → World → Prop := fun e D' σ' w' => match e with
            | .normal => D' = Dd ∧ AgH H w' ∧ ∀ a', Rep N Dd σ' a' → wpAnyG (FR none) md E.P ops Q (AgH H) g.length (ls.setIfInBounds i true) a' w'
            | _ => False
          have h1 : RW none md E.P N ops [o] Q1 Dd σ w := yOp_ok hE hG hJ hY h0 hs h hg hd fun sp' st' rest' σ' w' ρ' g1 g2 g3 => RW.nil ⟨rfl, g3.ag, fun a' ha' => more ha' g1 g2 g3⟩
          have h2 := h1 a ha
          unfold wpListIn at h2
          unfold wpOpIn
          rw [ho]
          simp only
          rw [hwt, hg] at h2 ⊢
          simp only [if_true] at h2 ⊢
          refine Oper.wpIn_QK (fun a' w' hk => ?_) (fun e a' w' hne hk => ?_) h2
          · obtain ⟨D', σ', g1, g2, g3, g4⟩ := (show lift N Q1 .normal a' w' from hk)
            subst g2
            exact ⟨g3, g4 a' g1⟩
          · obtain ⟨D', σ', g1, g2⟩ := hk
            cases e with
            | normal => exact absurd rfl hne
            | _ => exact g2.elim
      have gok : ∀ {j want d} {x : Bool}, o.guard = some (j, want) → (ops[j]?).bind (·.dst) = some d → σ d = .bool x → gdOk ops σ o.guard = (x == want) := fun h1 h2 h3 => by
        unfold gdOk
        rw [h1]
        simp only [h2, h3]
      unfold gdE at h
      cases hgd : o.guard with
      | none =>
        simp only [hgd] at h
        exact step hs (by rw [hgd]; rfl) h
      | some jw =>
        obtain ⟨j, want⟩ := jw
        simp only [hgd] at h
        cases hj : (ops[j]?).bind (·.dst) with
        | none =>
          simp only [hj] at h
          refine pass hs ?_ h
          unfold gdOk
          rw [hgd]
          simp only [hj]
        | some d =>
          simp only [hj] at h
          cases hsl : (getS st.sl d).map (Go.Proofs.YtefiiimkacemiaaGreatDoor.res st.kn) with
          | none => simp only [hsl] at h
          | some s =>
            obtain ⟨v0, hv0, hv1⟩ := Option.map_eq_some_iff.1 hsl
            have hv2 := hs.res (hs.slr _ _ hv0)
            rw [hv1] at hv2
            simp only [hsl] at h
            have ask : ∀ {v : SV D}, Rv H ρ (σ d) v → askF v (cdP want (yFl E fr ts (fl.any (Nat.beq i)) o sp (st.know (.tmp d) true) rest (fun sp' st' rest' => runYF E N fr ts ops fl g sp' st' rest' K)) (runYF E N fr ts ops fl g sp ((st.know (.tmp d) true).put o.dst (.c undef)) rest K))
                (cdP want (runYF E N fr ts ops fl g sp ((st.know (.tmp d) false).put o.dst (.c undef)) rest K) (yFl E fr ts (fl.any (Nat.beq i)) o sp (st.know (.tmp d) false) rest (fun sp' st' rest' => runYF E N fr ts ops fl g sp' st' rest' K))) → wpAnyG (FR none) md E.P ops Q (AgH H) (g.length + 1) ls a w := fun hv h => by
              rcases askF_ok hv h with ⟨e, h⟩ | ⟨e, h⟩
              · have hk := hs.know (c := .tmp d) (b := true) e
                have hgg := gok hgd hj e
                cases want with
                | true => exact step hk hgg h
                | false => exact pass hk hgg h
              · have hk := hs.know (c := .tmp d) (b := false) e
                have hgg := gok hgd hj e
                cases want with
                | true => exact pass hk hgg h
                | false => exact step hk hgg h
            cases s with
            | k b =>
              simp only at h
              have hgg := gok hgd hj (show σ d = .bool b from hv2)
              cases hb : b == want with
              | true => rw [hb] at h; exact step hs (hgg.trans hb) h
              | false => rw [hb] at h; exact pass hs (hgg.trans hb) h
            | c v =>
              simp only at h
              cases hb : isBoolV v with
              | true => rw [hb] at h; exact h.elim
              | false =>
                rw [hb] at h
                refine pass hs ?_ h
                unfold gdOk
                rw [hgd]
                simp only [hj, show σ d = v from hv2]
                cases v <;> first | rfl | cases hb
            | b x => exact ask hv2 h
            | p p i => exact ask hv2 h
            | _ => exact h.elim
theorem runI_ok (hE : E.Ok) (hG : E.G H) (hJ : ∀ k A B, J k A → Below A.heap.size A B → J k B) (hY : YOk E.P ts H lp J Jx all) : ∀ (c : Code) {pos : List Nat} {sp : Bool} {st : St D} {rest : List (TupD D ts)} {σ : Nat → Value} {w : World} {ρ : RM} {K : Exit → Bool → St D → List (TupD D ts) → Prop} {Q : Exit → List Deferred → (Nat → Value) → World → Prop} {md : Nat},
    ρ 0 = some (.v (.func (.yield lp) #[] #[])) → IS J Jx all fr H ρ sp rest st σ w → runI E N fr ts c pos sp st rest K → (∀ e, GoesI fr H J Jx all ρ (K e) fun σ' w' => Q e [] σ' w') → CW none md E.P N c Q [] σ w := by
  intro c
  induction c with
  | skip => intro pos sp st rest σ w ρ K Q md h0 hs h hk; exact CW.skip (hk _ _ _ _ _ _ _ h (RM.le.refl _) hs)
  | ret => intro pos sp st rest σ w ρ K Q md h0 hs h hk; exact CW.ret (hk _ _ _ _ _ _ _ h (RM.le.refl _) hs)
  | exit id => intro pos sp st rest σ w ρ K Q md h0 hs h hk; exact CW.exit (hk _ _ _ _ _ _ _ h (RM.le.refl _) hs)
  | region id ops draw =>
    intro pos sp st rest σ w ρ K Q md h0 hs h hk
    unfold runI at h
    cases draw with
    | false =>
      obtain ⟨l⟩ := ops
      exact CW.region (runY_ok hE hG hJ hY h0 hs h (hk .normal))
    | true =>
      simp only at h
      split at h
      · rename_i pe hpe
        split at h
        · rename_i g hrw
          intro a ha
          obtain ⟨hc, h⟩ := cifP h
          rw [Bool.and_eq_true, Bool.and_eq_true] at hc
          obtain ⟨hc1, hc2, hc3⟩ := hc
          let Q1 : Exit → Act → World → Prop := fun e a w => match e with
            | .normal => lift N Q .normal a w
            | _ => False
          have hs' : IS J Jx all fr H ρ sp rest st σ { w with drawn := w.drawn + 1 } := by
            obtain ⟨wy, L, hs, hj⟩ := hs
            exact ⟨wy, L, ⟨hs.mem.drew, hs.sl, hs.bk, hs.fr, hs.kn, hs.nx⟩, hj⟩
          have h1 := runYF_ok (Q := Q1) (md := md) (Dd := []) hE hG hJ hY (fun _ _ _ hq => hq) hc1 h0 ha hs' h hc3 fun sp' st' rest' σ' w' ρ' g1 g2 g3 a' ha' => ⟨[], σ', ha', hk _ _ _ _ _ _ _ g1 g2 g3⟩
          rw [Nat.eq_of_beq_eq_true hc2] at h1
          refine wpIn_mono (wpIn_region_any hE.mo h1.any) fun e a' w' hq => ?_
          cases e with
          | normal => exact hq
          | _ => exact hq.elim
        · exact h.elim
      · exact h.elim
  | cond c a b iha ihb =>
    intro pos sp st rest σ w ρ K Q md h0 hs h hk
    unfold runI at h
    cases hc : (evO st.sl c).map (Go.Proofs.YtefiiimkacemiaaGreatDoor.res st.kn) with
    | none => simp only [hc] at h
    | some s =>
      obtain ⟨v0, hv0, hv1⟩ := Option.map_eq_some_iff.1 hc
      have hv2 := hs.res (evO_ok hs.slr hv0)
      rw [hv1] at hv2
      simp only [hc] at h
      have ask : askF s (runI E N fr ts a (2 :: pos) sp (st.know c true) rest K) (runI E N fr ts b (3 :: pos) sp (st.know c false) rest K) → CW none md E.P N (.cond c a b) Q [] σ w := fun h => by
        rcases askF_ok hv2 h with ⟨e, h⟩ | ⟨e, h⟩
        · exact CW.cond_true e (iha h0 (hs.know e) h hk)
        · exact CW.cond_false e (ihb h0 (hs.know e) h hk)
      cases s with
      | k x =>
        cases x with
        | true => exact CW.cond_true hv2 (iha h0 hs h hk)
        | false => exact CW.cond_false hv2 (ihb h0 hs h hk)
      | _ => exact ask h
  | block id c ih =>
    intro pos sp st rest σ w ρ K Q md h0 hs h hk
    refine CW.block (ih h0 hs h fun e => ?_)
    intro sp' st' rest' σ' w' ρ' h1 h2 h3
    cases e with
    | exit id' =>
      show bif Nat.beq id' id then Q .normal [] σ' w' else Q (.exit id') [] σ' w'
      have h1 : cdP (Nat.beq id' id) (K .normal sp' st' rest') (K (.exit id') sp' st' rest') := h1
      cases hb : Nat.beq id' id with
      | true => rw [hb] at h1; exact hk _ _ _ _ _ _ _ h1 h2 h3
      | false => rw [hb] at h1; exact hk _ _ _ _ _ _ _ h1 h2 h3
    | _ => exact hk _ _ _ _ _ _ _ h1 h2 h3
  | seq a b iha ihb =>
    intro pos sp st rest σ w ρ K Q md h0 hs h hk
    unfold runI at h
    refine CW.seq (iha h0 hs h fun e => ?_)
    intro sp' st' rest' σ' w' ρ' h1 h2 h3
    cases e with
    | normal => exact ihb (h2 _ _ h0) h3 h1 fun e => (hk e).mono h2
    | _ => exact hk _ _ _ _ _ _ _ h1 h2 h3
  | loop c ih =>
    intro pos sp st rest σ w ρ K Q md h0 hs h hk
    unfold runI at h
    split at h
    · rename_i pe hpe
      obtain ⟨wy, L, hs, hj⟩ := hs
      obtain ⟨ρ1, g1, g2⟩ := hs.tag
      split at h
      · rename_i s0 hs0
        obtain ⟨m, hm⟩ := h
        generalize hstep : (fun (q : List (TupD D ts) × TupV D pe.tp.vts) (rec : List (TupD D ts) × TupV D pe.tp.vts → Prop) => _) = step at hm
        obtain ⟨ρ2, L2, st2, e1, e2, e3⟩ := fillE_ok (kn := st.tag.kn) g2.nx (Hp.le.refl _) (RM.le.refl _) g2.kn g2.fr g2 hs0
        refine CW.loop (β := Nat) (fun n σ w => ∃ rest s ρ' st', RM.le ρ1 ρ' ∧ makeE pe.tp st.tag.nx st.tag.kn s = some st' ∧ IS J Jx all fr H ρ' false rest st' σ w ∧ LoopN step n (rest, s)) (fun n => n) m ⟨rest, s0, ρ2, st2, e2, e1, ⟨wy, L2, e3, hj⟩, hm⟩ ?_
        rintro n σ w ⟨rest, s, ρ', st', f1, f2, f3, f8⟩
        cases n with
        | zero => exact f8.elim
        | succ n =>
          have f8 : step (rest, s) (LoopN step n) := f8
          rw [← hstep] at f8
          simp only [f2] at f8
          split at f8
          · refine ih (f1 _ _ (g1 _ _ h0)) f3 f8 fun e => ?_
            intro sp3 st3 rest3 σ3 w3 ρ3 h1 h2 h3
            cases e with
            | normal =>
              show [] = [] ∧ _
              refine ⟨rfl, ?_⟩
              simp only at h1
              cases sp3 with
              | true => exact h1.elim
              | false =>
                simp only at h1
                split at h1
                · rename_i s' hfill
                  obtain ⟨wy3, L3, hs3, hj3⟩ := h3
                  obtain ⟨ρ4, L4, st4, i1, i2, i3⟩ := fillE_ok (kn := st.tag.kn) g2.nx (Hp.le.refl _) (f1.trans h2) g2.kn g2.fr hs3 hfill
                  exact ⟨n, ⟨rest3, s', ρ4, st4, i2, i1, ⟨wy3, L4, i3, hj3⟩, by rw [hstep] at h1; exact h1⟩, Nat.lt_succ_self _⟩
                · exact h1.elim
            | _ => exact hk _ _ _ _ _ _ _ h1 ((g1.trans f1).trans h2) h3
          · exact f8.elim
      · exact h.elim
    · exact h.elim
  | rangeFunc f ps a b _ _ => intro pos sp st rest σ w ρ K Q md h0 hs h hk; exact h.elim
  | scope c _ => intro pos sp st rest σ w ρ K Q md h0 hs h hk; exact h.elim
  | label l => intro pos sp st rest σ w ρ K Q md h0 hs h hk; exact h.elim
  | goto l => intro pos sp st rest σ w ρ K Q md h0 hs h hk; exact h.elim
  | refuse s => intro pos sp st rest σ w ρ K Q md h0 hs h hk; exact h.elim
def ptrsE : Nat → List Nat → List (SV D)
  | _, [] => []
  | n, _ :: r => .ptr n 0 :: ptrsE (n + 1) r
def frE : Nat → List Nat → List (List (SV D)) → List (Nat × Blk D)
  | n, t :: r, c :: m => (n, .fbx t c) :: frE (n + 1) r m
  | _, _, _ => []
theorem caps_open {P : Program} {tb : Tb D} (htb : TbOk tb) : ∀ {cs : List Nat} {x : TupD D cs} {lb : List Value} {ls : List (List (SV D))} {n : Nat} {ρ0 : RM}, CapsR H cs x lb → tupC tb cs x = some ls → (∀ id, n ≤ id → ρ0 id = none) → ∃ ρ, RM.le ρ0 ρ ∧ (∀ id, n + cs.length ≤ id → ρ id = none) ∧ RvL H ρ lb (ptrsE (D := D) n cs) ∧ BkR H ρ (frE n cs ls) []
  | [], _, lb, ls, n, ρ0, h, hl, hn => by
    cases hl
    exact ⟨ρ0, RM.le.refl _, hn, h, rfl⟩
  | t :: r, x, lb, ls, n, ρ0, ⟨b, us, q, e, h1, h2, h3⟩, hl, hn => by
    rw [tupC] at hl
    cases ha : toC tb t x.1 with
    | none => simp only [ha] at hl; cases hl
    | some a =>
      cases hb : tupC tb r x.2 with
      | none => simp only [ha, hb] at hl; cases hl
      | some m =>
        simp only [ha, hb] at hl
        cases hl
        obtain ⟨f1, f2⟩ := fresh_put hn (.b b)
        obtain ⟨ρ, g1, g2, g3, g4⟩ := caps_open (P := P) htb h3 hb f2
        have hp : ρ n = some (.b b) := g1 _ _ (RM.put_same _ _ _)
        refine ⟨ρ, f1.trans g1, fun id hid => g2 id (by rw [List.length_cons] at hid; omega), ⟨_, q, e, ⟨b, hp, rfl⟩, g3⟩, [], [], rfl, ⟨rfl, b, us, hp, h1, toC_ok htb ha h2⟩, g4⟩
def iterF (E : Env D) (f : Nat) (cs ts : List Nat) (x : TupD D cs) (l : List (TupD D ts)) : Prop := match tupC E.tb cs x with
  | some ls => match E.P.funcs[f]? with
    | some fn => match fn.body with
      | some c => match fn.results.toList with
        | [] => cdP (Nat.ble (cs.length + 1) fn.ntmps) (runI E fn.ntmps (frE 1 cs ls) ts c [] false ⟨slotsOf 0 (.kp 0 :: ptrsE 1 cs), [], [], 1 + cs.length⟩ l fun e sp _ rest => cdP (isEnd e) (match sp with
          | true => True
          | false => rest = []) False) False
        | _ :: _ => False
      | none => False
    | none => False
  | none => False
theorem It.lift (hE : E.Ok) (it : It D) (h : ∀ x l, it.W x l → iterF E it.f it.cs it.ts x l) : it.Ok E.P E.G := by
  intro x l hW H lb hG hC lp J Jx W hag hJ hJx hY hJ0
  have hF := h x l hW
  unfold iterF at hF
  split at hF
  · rename_i ls hls
    split at hF
    · rename_i fn hfn
      split at hF
      · rename_i c hc
        split at hF
        · rename_i hres
          obtain ⟨hN, hF⟩ := cifP hF
          obtain ⟨f1, f2⟩ := fresh_put (ρ := fun _ => none) (nx := 0) (fun _ _ => rfl) (.v (.func (.yield lp) #[] #[]))
          obtain ⟨ρ, g1, g2, g3, g4⟩ := caps_open (P := E.P) hE.tb hC hls f2
          have h0 : ρ 0 = some (.v (.func (.yield lp) #[] #[])) := g1 _ _ (RM.put_same _ _ _)
          have hv : RvL H ρ (Value.func (.yield lp) #[] #[] :: lb) (.kp 0 :: ptrsE 1 it.cs) := ⟨_, lb, rfl, h0, g3⟩
          refine calls_of_code hfn hc (by
            have hlen := RvL.length g3
            have hp : ∀ (n : Nat) (cs : List Nat), (ptrsE (D := D) n cs).length = cs.length := fun n cs => by
              induction cs generalizing n with
              | nil => rfl
              | cons _ _ ih => simp [ptrsE, ih]
            have := Nat.le_of_ble_eq_true hN
            simp [hlen, hp]; exact this) ?_
          refine runI_ok (all := l) (J := J) (Jx := Jx) (sp := false) (rest := l) (H := H) (ρ := ρ) hE hG hJ (fun k A0 vs hk hvs hJk hA => hY k A0 vs hk hvs hJk hA) c h0 ⟨W, [], ⟨Mem.start hag, slotsOf_ok hv, (show BkR H ρ ([] : List (Nat × Blk D)) [] from rfl), g4, (fun _ _ h => by cases h), fun id hid => g2 id hid⟩, 0, Nat.zero_le _, hJ0, rfl⟩ hF fun e => ?_
          intro sp' st' rest' σ' w' ρ' h1 h2 h3
          obtain ⟨wy3, L3, h3, hj3⟩ := h3
          have h4 := hj3.below hJ hJx h3.mem.below
          obtain ⟨he, h1⟩ := cifP h1
          obtain ⟨ux, e1, e2⟩ := results_ok (vs := []) hE.tb h3 (by rw [hres]; rfl)
          refine ⟨isEnd_ok he, rfl, tupVal ux, e2, ?_⟩
          cases sp' with
          | true =>
            obtain ⟨k, hk, hx⟩ := h4
            exact .inr ⟨k, hk, hx⟩
          | false =>
            obtain ⟨k, hkn, hk, hr⟩ := h4
            have h1 : rest' = [] := h1
            rw [h1] at hr
            have hkl : l.length ≤ k := List.drop_eq_nil_iff.1 hr.symm
            rw [show k = l.length by omega] at hk
            exact .inl hk
        · exact hF.elim
      · exact hF.elim
    · exact hF.elim
  · exact hF.elim
end
end
section
section
variable {D : Nat → Type} [∀ t, Dt (D t)]
variable {E : Env D} {w0 w : World} {H0 H : Hp} {ρ : RM} {L : List Ent} {st : St D} {σ : Nat → Value}
theorem retF_ok (hE : E.Ok) {fn : Func} {rs : List Nat} {own : List (List Bool)} {Φ : TupD D rs → Prop} (h1 : retF E.P E.tb fn rs own Φ st) (hs : Sat [] [] w0 H0 [] H ρ L st σ w) :
    ∃ ux H2 S, (∀ a, Rep fn.ntmps [] σ a → (results fn a.tmps).run E.P w = .ok (tupVal ux) w) ∧ Mem w0 H0 w H2 S ∧ ∃ y, Φ y ∧ ResR E.P E.tb rs own y H2 (tupVal ux) S := by
  unfold retF at h1
  split at h1
  · rename_i v1 hv1
    split at h1
    · rename_i ls0 hl0
      split at h1
      · rename_i us hus
        split at h1
        · rename_i ls1 hl1
          split at h1
          · rename_i ps hps
            split at h1
            · rename_i y hy
              obtain ⟨H2, L2, k1, k2⟩ := hs.frzL (falseIds own ls0)
              obtain ⟨ux, e1, e2⟩ := results_ok hE.tb k2 hus
              have hkn := (frzL_sl (falseIds own ls0) st).2.1
              have e3 := mapRs_ok k2 e1
              rw [hkn] at e3
              obtain ⟨cs2, e4, e5⟩ := argsC_cells e3 hl1
              obtain ⟨q, e6, e7⟩ := ofTup_cq hE.tb hy
              have hM2 := k2.mem
              obtain ⟨S, i1, i2⟩ := rtCC_ok (X := []) (by simpa using hM2) k2.bk e5 hps e7
              refine ⟨ux, H2, S, e2, by simpa using i1, y, h1, ?_⟩
              intro nx ρ0 hn0 s b m hres
              unfold resE at hres
              rw [e6] at hres
              simp only at hres
              split at hres
              · rename_i ls' b' m' ho
                split at hres
                · rename_i vs' hp
                  cases hres
                  obtain ⟨ρ2, j1, j2, j3, j3', j4, j5⟩ := i2 nx ρ0 _ _ _ hn0 ho
                  exact ⟨ρ2, j1, j2, j3, j3', tupVal_ok (packs_ok e4 j4 hp), j5⟩
                · cases hres
              · cases hres
            · exact h1.elim
          · exact h1.elim
        · exact h1.elim
      · exact h1.elim
    · exact h1.elim
  · exact h1.elim
end
end
section
section
variable {D : Nat → Type} [∀ t, Dt (D t)]
variable {E : Env D} {w0 w : World} {H0 H : Hp} {ρ : RM} {L : List Ent} {st : St D} {σ : Nat → Value}
def topS (E : Env D) (n : Nat) (f : Nat) (ps rs : List Nat) (own : List (List Bool)) (x : TupD D ps) (Φ : TupD D rs → Prop) : Prop := match tupC E.tb ps x with
  | some ls => match packs E.P ps ls with
    | some vs => match E.P.funcs[f]? with
      | some fn => match fn.body with
        | some (.seq a (.scope c)) => match findLabel c 0 with
          | some rest => cdP (Nat.ble vs.length fn.ntmps) (runC E (runF E n) fn.ntmps false a [0] [] ⟨slotsOf 0 vs, [], [], 0⟩ fun e st1 => match e with
            | .normal => runC E (runF E n) fn.ntmps false c [1] [] st1 fun e st2 => match e with
              | .goto l => cdP (Nat.beq l 0) (runC E (runF E n) fn.ntmps false rest [9, 1] [] st2 fun e st3 => cdP (isEnd e) (retF E.P E.tb fn rs own Φ st3) False) False
              | e => cdP (isEnd e) (retF E.P E.tb fn rs own Φ st2) False
            | _ => False) False
          | none => False
        | _ => False
      | none => False
    | none => False
  | none => False
theorem Ct.liftS (hE : E.Ok) (n : Nat) (c : Ct D) (h : ∀ x Φ, c.W x Φ → topS E n c.f c.ps c.rs c.own x Φ) : c.Ok E.P E.tb E.G := by
  intro x Φ hW H vs hGH hA
  have hF := h x Φ hW
  unfold topS at hF
  split at hF
  · rename_i ls hls
    split at hF
    · rename_i svs hsv
      split at hF
      · rename_i fn hfn
        split at hF
        · rename_i ca cc hcd
          split at hF
          · rename_i rest hrest
            obtain ⟨hN, hF⟩ := cifP hF
            obtain ⟨cs, g1, g2⟩ := argsR_cells (ρ := fun _ => none) hE.tb hA hls
            have g3 := packs_ok g1 g2 hsv
            refine RetP.of_codeM hfn hcd (by have := Nat.le_of_ble_eq_true hN; simpa [RvL.length g3] using this) fun w hM => ?_
            have hs0 : Sat [] [] w H (mkO [] ++ []) H (fun _ => none) [] (⟨slotsOf 0 svs, [], [], 0⟩ : St D) (sl (enumA 0 vs) fun _ => undef) w := ⟨hM, slotsOf_ok g3, rfl, rfl, (fun _ _ h => nomatch h), fun _ _ => rfl⟩
            have fin : ∀ (e : Exit) (ms' : List Nat) (st' : St D) (σ' : Nat → Value) (w' : World) (H' : Hp) (ρ' : RM) (L' : List Ent), cdP (isEnd e) (retF E.P E.tb fn c.rs c.own Φ st') False → Sat [] [] w H (mkO ms' ++ []) H' ρ' L' st' σ' w' →
                endQM E.P fn (fun v w' => ∃ H' L', Mem w H w' H' L' ∧ ∃ y, Φ y ∧ ResR E.P E.tb c.rs c.own y H' v L') e (mkD ms') σ' w' := fun e ms' st' σ' w' H' ρ' L' h1 h4 => by
              obtain ⟨he, h1⟩ := cifP h1
              refine endM_ok (isEnd_ok he) ms' (h4.mem.perm (perm_mid _ _ _ _)) fun w2 hw2 => ?_
              obtain ⟨ux, H2, S, r1, r2, y, r3, r4⟩ := retF_ok hE h1 (h4.reR hw2)
              exact ⟨isEnd_ok he, rfl, tupVal ux, r1, H2, S, r2, y, r3, r4⟩
            refine CW.seq (runC_ok (ms := []) (B := []) (R := []) hE hGH (runF_ok hE n) ca (fun _ => ⟨rfl, rfl⟩) hs0 hF fun e => ?_)
            intro ms1 st1 σ1 w1 H1 ρ1 L1 k1 _ k2 k3 k4
            cases e with
            | normal =>
              show CW none 0 E.P fn.ntmps (.scope cc) _ (mkD ms1 ++ []) σ1 w1
              refine CW.scope 0 (fun D' σ' w' => ∃ ms' st' H' ρ' L', D' = mkD ms' ++ [] ∧ Sat [] [] w H (mkO ms' ++ []) H' ρ' L' st' σ' w' ∧ runC E (runF E n) fn.ntmps false rest [9, 1] [] st' fun e st3 => cdP (isEnd e) (retF E.P E.tb fn c.rs c.own Φ st3) False) hrest (runC_ok (ms := ms1) (B := []) (R := []) hE hGH (runF_ok hE n) cc (fun _ => ⟨rfl, rfl⟩) k4 k1 fun e => ?_) ?_
              · intro ms2 st2 σ2 w2 H2 ρ2 L2 j1 _ j2 j3 j4
                cases e with
                | goto l =>
                  obtain ⟨hl, j1⟩ := cifP (show cdP (Nat.beq l 0) _ False from j1)
                  exact ⟨Nat.eq_of_beq_eq_true hl, ms2, st2, H2, ρ2, L2, rfl, j4, j1⟩
                | ret => have := fin .ret ms2 st2 σ2 w2 H2 ρ2 L2 j1 j4; rw [List.append_nil]; exact this
                | normal => have := fin .normal ms2 st2 σ2 w2 H2 ρ2 L2 j1 j4; rw [List.append_nil]; exact this
                | exit id => exact absurd (cifP (show cdP false _ False from j1)).1 (fun h => nomatch h)
                | panic ch => exact absurd (cifP (show cdP false _ False from j1)).1 (fun h => nomatch h)
                | outgrown => exact absurd (cifP (show cdP false _ False from j1)).1 (fun h => nomatch h)
              · rintro D' σ' w' ⟨ms2, st2, H2, ρ2, L2, rfl, j4, j1⟩
                refine runC_ok (ms := ms2) (B := []) (R := []) hE hGH (runF_ok hE n) rest (fun _ => ⟨rfl, rfl⟩) j4 j1 fun e => ?_
                intro ms3 st3 σ3 w3 H3 ρ3 L3 i1 _ i2 i3 i4
                have := fin e ms3 st3 σ3 w3 H3 ρ3 L3 i1 i4
                cases e with
                | goto l => exact absurd (cifP i1).1 (fun h => nomatch h)
                | _ => rw [List.append_nil]; exact this
            | _ => exact k1.elim
          · exact hF.elim
        · exact hF.elim
      · exact hF.elim
    · exact hF.elim
  · exact hF.elim
end
end
end Go.Proofs.YtefiiimkacemiaaGreatDoor
namespace Go.Proofs.YtefiiimkacemiaaGreatDoor
def insZ (x : Int) : List Int → List Int
  | [] => [x]
  | y :: r => if x ≤ y then x :: y :: r else y :: insZ x r
def sortZ : List Int → List Int
  | [] => []
  | x :: r => insZ x (sortZ r)
theorem insZ_perm (x : Int) : ∀ l : List Int, (insZ x l).Perm (x :: l)
  | [] => List.Perm.refl _
  | y :: r => by
    unfold insZ
    split
    · exact List.Perm.refl _
    · exact ((insZ_perm x r).cons y).trans (List.Perm.swap x y r)
theorem sortZ_self : ∀ l : List Int, (sortZ l).Perm l
  | [] => List.Perm.refl _
  | x :: r => (insZ_perm x (sortZ r)).trans ((sortZ_self r).cons x)
theorem insZ_sorted (x : Int) : ∀ l : List Int, l.Pairwise (fun a b => a ≤ b) → (insZ x l).Pairwise (fun a b => a ≤ b)
  | [], _ => by simp [insZ]
  | y :: r, h => by
    have h1 := List.pairwise_cons.1 h
    unfold insZ
    split
    · rename_i hxy
      refine List.pairwise_cons.2 ⟨fun b hb => ?_, h⟩
      rcases List.mem_cons.1 hb with rfl | hb
      · exact hxy
      · exact Int.le_trans hxy (h1.1 b hb)
    · rename_i hxy
      refine List.pairwise_cons.2 ⟨fun b hb => ?_, insZ_sorted x r h1.2⟩
      rcases List.mem_cons.1 ((insZ_perm x r).mem_iff.1 hb) with rfl | hb
      · omega
      · exact h1.1 b hb
theorem sortZ_sorted : ∀ l : List Int, (sortZ l).Pairwise fun a b => a ≤ b
  | [] => List.Pairwise.nil
  | x :: r => insZ_sorted x _ (sortZ_sorted r)
end Go.Proofs.YtefiiimkacemiaaGreatDoor
namespace Go.Proofs.YtefiiimkacemiaaGreatDoor
open Go.RowKit
structure api_Write where
  Volume : Int
  Start : Int
  Data : List Sec
  deriving DecidableEq
instance dt_api_Write : Dt api_Write where
  default := ⟨0, 0, []⟩
  sz := 3
  rd H cs x := ∃ A0 n0 c0 s0, cs = [.int .i64 (x.Volume), .int .i64 (x.Start), .slice A0 n0 c0] ∧ Fz H A0 n0 c0 x.Data s0
  len := fun ⟨A0, n0, c0, s0, h, h0⟩ => by rw [h]; rfl
  mono := fun ⟨A0, n0, c0, s0, h, h0⟩ hle => ⟨A0, n0, c0, s0, h, h0.mono hle⟩
  one := fun ⟨A0, n0, c0, s0, h, h0⟩ => by rw [h]; exact oneAll ⟨rfl, rfl, rfl, trivial⟩
structure api_Span where
  Epoch : Int
  From : Int
  To : Int
  deriving DecidableEq
instance dt_api_Span : Dt api_Span where
  default := ⟨0, 0, 0⟩
  sz := 3
  rd H cs x := cs = [.int .i64 (x.Epoch), .int .i64 (x.From), .int .i64 (x.To)]
  len h := by rw [h]; rfl
  mono h _ := h
  one h := by rw [h]; exact oneAll ⟨rfl, rfl, rfl, trivial⟩
structure api_Bitmap where
  Size : Int
  Words : List (BitVec 64)
  deriving DecidableEq
instance dt_api_Bitmap : Dt api_Bitmap where
  default := ⟨0, []⟩
  sz := 2
  rd H cs x := ∃ A0 n0 c0 s0, cs = [.int .i64 (x.Size), .slice A0 n0 c0] ∧ Fz H A0 n0 c0 x.Words s0
  len := fun ⟨A0, n0, c0, s0, h, h0⟩ => by rw [h]; rfl
  mono := fun ⟨A0, n0, c0, s0, h, h0⟩ hle => ⟨A0, n0, c0, s0, h, h0.mono hle⟩
  one := fun ⟨A0, n0, c0, s0, h, h0⟩ => by rw [h]; exact oneAll ⟨rfl, rfl, trivial⟩
structure api_Point where
  Site : Int
  Lineage : List api_Span
  Dirty : List api_Bitmap
  Image : List (List Sec)
  deriving DecidableEq
instance dt_api_Point : Dt api_Point where
  default := ⟨0, [], [], []⟩
  sz := 4
  rd H cs x := ∃ A0 n0 c0 s0, ∃ A1 n1 c1 s1, ∃ A2 n2 c2 s2, cs = [.int .i64 (x.Site), .slice A0 n0 c0, .slice A1 n1 c1, .slice A2 n2 c2] ∧ Fz H A0 n0 c0 x.Lineage s0 ∧ Fz H A1 n1 c1 x.Dirty s1 ∧ Fz H A2 n2 c2 x.Image s2
  len := fun ⟨A0, n0, c0, s0, A1, n1, c1, s1, A2, n2, c2, s2, h, h0, h1, h2⟩ => by rw [h]; rfl
  mono := fun ⟨A0, n0, c0, s0, A1, n1, c1, s1, A2, n2, c2, s2, h, h0, h1, h2⟩ hle => ⟨A0, n0, c0, s0, A1, n1, c1, s1, A2, n2, c2, s2, h, h0.mono hle, h1.mono hle, h2.mono hle⟩
  one := fun ⟨A0, n0, c0, s0, A1, n1, c1, s1, A2, n2, c2, s2, h, h0, h1, h2⟩ => by rw [h]; exact oneAll ⟨rfl, rfl, rfl, rfl, trivial⟩
structure api_Extent where
  Start : Int
  Count : Int
  deriving DecidableEq
instance dt_api_Extent : Dt api_Extent where
  default := ⟨0, 0⟩
  sz := 2
  rd H cs x := cs = [.int .i64 (x.Start), .int .i64 (x.Count)]
  len h := by rw [h]; rfl
  mono h _ := h
  one h := by rw [h]; exact oneAll ⟨rfl, rfl, trivial⟩
structure api_Cycle where
  Base : Int
  Number : Int
  Time : Int
  Positions : List Int
  Writes : List api_Write
  deriving DecidableEq
instance dt_api_Cycle : Dt api_Cycle where
  default := ⟨0, 0, 0, [], []⟩
  sz := 5
  rd H cs x := ∃ A0 n0 c0 s0, ∃ A1 n1 c1 s1, cs = [.int .i64 (x.Base), .int .i64 (x.Number), .int .i64 (x.Time), .slice A0 n0 c0, .slice A1 n1 c1] ∧ Fz H A0 n0 c0 x.Positions s0 ∧ Fz H A1 n1 c1 x.Writes s1
  len := fun ⟨A0, n0, c0, s0, A1, n1, c1, s1, h, h0, h1⟩ => by rw [h]; rfl
  mono := fun ⟨A0, n0, c0, s0, A1, n1, c1, s1, h, h0, h1⟩ hle => ⟨A0, n0, c0, s0, A1, n1, c1, s1, h, h0.mono hle, h1.mono hle⟩
  one := fun ⟨A0, n0, c0, s0, A1, n1, c1, s1, h, h0, h1⟩ => by rw [h]; exact oneAll ⟨rfl, rfl, rfl, rfl, rfl, trivial⟩
structure api_Peer where
  Site : Int
  Common : Int
  Dirty : List api_Bitmap
  deriving DecidableEq
instance dt_api_Peer : Dt api_Peer where
  default := ⟨0, 0, []⟩
  sz := 3
  rd H cs x := ∃ A0 n0 c0 s0, cs = [.int .i64 (x.Site), .int .i64 (x.Common), .slice A0 n0 c0] ∧ Fz H A0 n0 c0 x.Dirty s0
  len := fun ⟨A0, n0, c0, s0, h, h0⟩ => by rw [h]; rfl
  mono := fun ⟨A0, n0, c0, s0, h, h0⟩ hle => ⟨A0, n0, c0, s0, h, h0.mono hle⟩
  one := fun ⟨A0, n0, c0, s0, h, h0⟩ => by rw [h]; exact oneAll ⟨rfl, rfl, rfl, trivial⟩
structure api_Tracker where
  Sizes : List Int
  Peers : List api_Peer
  deriving DecidableEq
instance dt_api_Tracker : Dt api_Tracker where
  default := ⟨[], []⟩
  sz := 2
  rd H cs x := ∃ A0 n0 c0 s0, ∃ A1 n1 c1 s1, cs = [.slice A0 n0 c0, .slice A1 n1 c1] ∧ Fz H A0 n0 c0 x.Sizes s0 ∧ Fz H A1 n1 c1 x.Peers s1
  len := fun ⟨A0, n0, c0, s0, A1, n1, c1, s1, h, h0, h1⟩ => by rw [h]; rfl
  mono := fun ⟨A0, n0, c0, s0, A1, n1, c1, s1, h, h0, h1⟩ hle => ⟨A0, n0, c0, s0, A1, n1, c1, s1, h, h0.mono hle, h1.mono hle⟩
  one := fun ⟨A0, n0, c0, s0, A1, n1, c1, s1, h, h0, h1⟩ => by rw [h]; exact oneAll ⟨rfl, rfl, trivial⟩
instance dtUnit : Dt Unit where
  default := ()
  sz := 0
  rd _ cs _ := cs = []
  len h := by rw [h]; rfl
  mono h _ := h
  one h := by rw [h]; intro u hu; cases hu
structure TyR where
  α : Type
  inst : Dt α
def tyOf (t : Nat) : TyR := bif Nat.beq t 4 then ⟨Bool, inferInstance⟩ else bif Nat.beq t 5 then ⟨BitVec 8, inferInstance⟩ else bif Nat.beq t 58 then ⟨Sec, inferInstance⟩ else bif Nat.beq t 47 then ⟨api_Write, inferInstance⟩ else bif Nat.beq t 22 then ⟨List api_Write, inferInstance⟩ else bif Nat.beq t 45 then ⟨List Sec, inferInstance⟩ else bif Nat.beq t 64 then ⟨api_Span, inferInstance⟩ else bif Nat.beq t 3 then ⟨Int, inferInstance⟩ else bif Nat.beq t 106 then ⟨BitVec 64, inferInstance⟩ else bif Nat.beq t 54 then ⟨api_Bitmap, inferInstance⟩ else bif Nat.beq t 61 then ⟨api_Point, inferInstance⟩ else bif Nat.beq t 26 then ⟨List (List Sec), inferInstance⟩ else bif Nat.beq t 59 then ⟨List api_Span, inferInstance⟩ else bif Nat.beq t 29 then ⟨List Int, inferInstance⟩ else bif Nat.beq t 41 then ⟨List api_Bitmap, inferInstance⟩ else bif Nat.beq t 39 then ⟨api_Extent, inferInstance⟩ else bif Nat.beq t 40 then ⟨List api_Extent, inferInstance⟩ else bif Nat.beq t 37 then ⟨List (List api_Extent), inferInstance⟩ else bif Nat.beq t 33 then ⟨Int, inferInstance⟩ else bif Nat.beq t 25 then ⟨List (List Sec), inferInstance⟩ else bif Nat.beq t 70 then ⟨api_Cycle, inferInstance⟩ else bif Nat.beq t 83 then ⟨api_Peer, inferInstance⟩ else bif Nat.beq t 32 then ⟨api_Tracker, inferInstance⟩ else bif Nat.beq t 30 then ⟨List api_Peer, inferInstance⟩ else bif Nat.beq t 155 then ⟨List Bool, inferInstance⟩ else bif Nat.beq t 52 then ⟨List (BitVec 64), inferInstance⟩ else ⟨Unit, dtUnit⟩
abbrev DD (t : Nat) : Type := (tyOf t).α
instance dtDD (t : Nat) : Dt (DD t) := (tyOf t).inst
def xI : SV DD → Option Int
 | .i .i64 n => some n
 | _ => none
def xW : SV DD → Option (BitVec 64)
 | .w x => some x
 | _ => none
def xY : SV DD → Option (BitVec 8)
 | .y x => some x
 | _ => none
def xT : SV DD → Option ByteArray
 | .st x => some x
 | _ => none
def xS (e : Nat) : SV DD → Option (List (DD e))
 | .fsl e' xs => castL e' e xs
 | .nil => some []
 | _ => none
theorem xI_cq {a : SV DD} {n : Int} (h : xI a = some n) : CQ a (.i .i64 n) := by
  unfold xI at h
  split at h
  · cases h; exact .inr ⟨rfl, rfl, fun _ _ _ h => h⟩
  · cases h
theorem xW_cq {a : SV DD} {n : BitVec 64} (h : xW a = some n) : CQ a (.w n) := by
  unfold xW at h
  split at h
  · cases h; exact .inr ⟨rfl, rfl, fun _ _ _ h => h⟩
  · cases h
theorem xY_cq {a : SV DD} {n : BitVec 8} (h : xY a = some n) : CQ a (.y n) := by
  unfold xY at h
  split at h
  · cases h; exact .inr ⟨rfl, rfl, fun _ _ _ h => h⟩
  · cases h
theorem xB_cq {a : SV DD} {n : Bool} (h : boolOf a = some n) : CQ a (.b n) := by
  cases a <;> first | (cases h; exact .inr ⟨rfl, rfl, fun _ _ _ h => h⟩) | cases h
theorem xS_cq {e : Nat} {a : SV DD} {n : List (DD e)} (h : xS e a = some n) : CQ a (.fsl e n) := by
  unfold xS at h
  split at h
  · obtain ⟨he, h1⟩ := castL_ok h
    subst he
    subst h1
    exact .inl ⟨_, _, rfl, .inl rfl⟩
  · cases h; exact .inl ⟨_, _, rfl, .inr ⟨rfl, rfl⟩⟩
  · cases h
theorem bindS {α β : Type} {o : Option α} {f : α → Option β} {x : β} (h : o.bind f = some x) : ∃ v, o = some v ∧ f v = some x := Option.bind_eq_some_iff.1 h
def ofc4 : List (SV DD) → Option (DD 4)
 | [a0] => (boolOf a0).bind fun v0 => some v0
 | _ => none
def ce4 : CE DD := ⟨4, fun x => [.b (x)], ofc4, none⟩
theorem ceOk4 : ce4.Ok where
  rdi := @fun H ρ cs x => ⟨fun h => by
    obtain h := (show Dt.rd (α := Bool) H cs x from h)
    subst h
    exact ⟨_, _, rfl, rfl, rfl⟩, fun h => by
    obtain ⟨v0, r0, e0, p0, e⟩ := h
    have e : r0 = [] := e
    subst e
    subst e0
    have p0 : v0 = _ := p0
    subst p0
    exact (show Dt.rd (α := Bool) H _ x from rfl)⟩
  cq := @fun l x h => by
    change ofc4 l = some x at h
    unfold ofc4 at h
    split at h
    · obtain ⟨v0, h0, h⟩ := bindS h
      cases h
      exact ⟨_, _, rfl, xB_cq h0, rfl⟩
    · cases h
  eqc := fun d a b c1 c2 hd h1 h2 => by cases hd
def ofc5 : List (SV DD) → Option (DD 5)
 | [a0] => (xY a0).bind fun v0 => some v0
 | _ => none
def ce5 : CE DD := ⟨5, fun x => [.y (x)], ofc5, none⟩
theorem ceOk5 : ce5.Ok where
  rdi := @fun H ρ cs x => ⟨fun h => by
    obtain h := (show Dt.rd (α := BitVec 8) H cs x from h)
    subst h
    exact ⟨_, _, rfl, rfl, rfl⟩, fun h => by
    obtain ⟨v0, r0, e0, p0, e⟩ := h
    have e : r0 = [] := e
    subst e
    subst e0
    have p0 : v0 = _ := p0
    subst p0
    exact (show Dt.rd (α := BitVec 8) H _ x from rfl)⟩
  cq := @fun l x h => by
    change ofc5 l = some x at h
    unfold ofc5 at h
    split at h
    · obtain ⟨v0, h0, h⟩ := bindS h
      cases h
      exact ⟨_, _, rfl, xY_cq h0, rfl⟩
    · cases h
  eqc := fun d a b c1 c2 hd h1 h2 => by cases hd
def ofc58 : List (SV DD) → Option (DD 58)
 | [a0, a1, a2, a3, a4, a5, a6, a7] => (xY a0).bind fun v0 => (xY a1).bind fun v1 => (xY a2).bind fun v2 => (xY a3).bind fun v3 => (xY a4).bind fun v4 => (xY a5).bind fun v5 => (xY a6).bind fun v6 => (xY a7).bind fun v7 => some ⟨v0, v1, v2, v3, v4, v5, v6, v7⟩
 | _ => none
def ce58 : CE DD := ⟨58, fun x => [.y (x.b0), .y (x.b1), .y (x.b2), .y (x.b3), .y (x.b4), .y (x.b5), .y (x.b6), .y (x.b7)], ofc58, some (inferInstanceAs (DecidableEq Sec))⟩
theorem sc58 (a b : Sec) : (([.i .u8 ((a.b0).toNat : Int), .i .u8 ((a.b1).toNat : Int), .i .u8 ((a.b2).toNat : Int), .i .u8 ((a.b3).toNat : Int), .i .u8 ((a.b4).toNat : Int), .i .u8 ((a.b5).toNat : Int), .i .u8 ((a.b6).toNat : Int), .i .u8 ((a.b7).toNat : Int)] : List Sc) = [.i .u8 ((b.b0).toNat : Int), .i .u8 ((b.b1).toNat : Int), .i .u8 ((b.b2).toNat : Int), .i .u8 ((b.b3).toNat : Int), .i .u8 ((b.b4).toNat : Int), .i .u8 ((b.b5).toNat : Int), .i .u8 ((b.b6).toNat : Int), .i .u8 ((b.b7).toNat : Int)]) ↔ a = b := by
  cases a; cases b; simp [← BitVec.toNat_inj]; omega
theorem ceOk58 : ce58.Ok where
  rdi := @fun H ρ cs x => ⟨fun h => by
    obtain h := (show Dt.rd (α := Sec) H cs x from h)
    subst h
    exact ⟨_, _, rfl, rfl, _, _, rfl, rfl, _, _, rfl, rfl, _, _, rfl, rfl, _, _, rfl, rfl, _, _, rfl, rfl, _, _, rfl, rfl, _, _, rfl, rfl, rfl⟩, fun h => by
    obtain ⟨v0, r0, e0, p0, v1, r1, e1, p1, v2, r2, e2, p2, v3, r3, e3, p3, v4, r4, e4, p4, v5, r5, e5, p5, v6, r6, e6, p6, v7, r7, e7, p7, e⟩ := h
    have e : r7 = [] := e
    subst e
    subst e7
    subst e6
    subst e5
    subst e4
    subst e3
    subst e2
    subst e1
    subst e0
    have p0 : v0 = _ := p0
    subst p0
    have p1 : v1 = _ := p1
    subst p1
    have p2 : v2 = _ := p2
    subst p2
    have p3 : v3 = _ := p3
    subst p3
    have p4 : v4 = _ := p4
    subst p4
    have p5 : v5 = _ := p5
    subst p5
    have p6 : v6 = _ := p6
    subst p6
    have p7 : v7 = _ := p7
    subst p7
    exact (show Dt.rd (α := Sec) H _ x from rfl)⟩
  cq := @fun l x h => by
    change ofc58 l = some x at h
    unfold ofc58 at h
    split at h
    · obtain ⟨v0, h0, h⟩ := bindS h
      obtain ⟨v1, h1, h⟩ := bindS h
      obtain ⟨v2, h2, h⟩ := bindS h
      obtain ⟨v3, h3, h⟩ := bindS h
      obtain ⟨v4, h4, h⟩ := bindS h
      obtain ⟨v5, h5, h⟩ := bindS h
      obtain ⟨v6, h6, h⟩ := bindS h
      obtain ⟨v7, h7, h⟩ := bindS h
      cases h
      exact ⟨_, _, rfl, xY_cq h0, _, _, rfl, xY_cq h1, _, _, rfl, xY_cq h2, _, _, rfl, xY_cq h3, _, _, rfl, xY_cq h4, _, _, rfl, xY_cq h5, _, _, rfl, xY_cq h6, _, _, rfl, xY_cq h7, rfl⟩
    · cases h
  eqc := fun d a b c1 c2 hd h1 h2 => by
    cases h1; cases h2
    exact sc58 a b
def ofc47 : List (SV DD) → Option (DD 47)
 | [a0, a1, a2] => (xI a0).bind fun v0 => (xI a1).bind fun v1 => (xS 58 a2).bind fun v2 => some ⟨v0, v1, v2⟩
 | _ => none
def ce47 : CE DD := ⟨47, fun x => [.i .i64 (x.Volume), .i .i64 (x.Start), .fsl 58 (x.Data)], ofc47, none⟩
theorem ceOk47 : ce47.Ok where
  rdi := @fun H ρ cs x => ⟨fun h => by
    obtain ⟨A0, n0, c0, s0, h, h0⟩ := (show Dt.rd (α := api_Write) H cs x from h)
    subst h
    exact ⟨_, _, rfl, rfl, _, _, rfl, rfl, _, _, rfl, ⟨A0, n0, c0, s0, rfl, h0⟩, rfl⟩, fun h => by
    obtain ⟨v0, r0, e0, p0, v1, r1, e1, p1, v2, r2, e2, ⟨A0, n0, c0, s0, p2, h0⟩, e⟩ := h
    have e : r2 = [] := e
    subst e
    subst e2
    subst e1
    subst e0
    have p0 : v0 = _ := p0
    subst p0
    have p1 : v1 = _ := p1
    subst p1
    subst p2
    exact (show Dt.rd (α := api_Write) H _ x from ⟨A0, n0, c0, s0, rfl, h0⟩)⟩
  cq := @fun l x h => by
    change ofc47 l = some x at h
    unfold ofc47 at h
    split at h
    · obtain ⟨v0, h0, h⟩ := bindS h
      obtain ⟨v1, h1, h⟩ := bindS h
      obtain ⟨v2, h2, h⟩ := bindS h
      cases h
      exact ⟨_, _, rfl, xI_cq h0, _, _, rfl, xI_cq h1, _, _, rfl, xS_cq h2, rfl⟩
    · cases h
  eqc := fun d a b c1 c2 hd h1 h2 => by cases hd
def ofc22 : List (SV DD) → Option (DD 22)
 | [a0] => (xS 47 a0).bind fun v0 => some v0
 | _ => none
def ce22 : CE DD := ⟨22, fun x => [.fsl 47 (x)], ofc22, none⟩
theorem ceOk22 : ce22.Ok where
  rdi := @fun H ρ cs x => ⟨fun h => by
    obtain ⟨A0, n0, c0, s0, h, h0⟩ := (show Dt.rd (α := List api_Write) H cs x from h)
    subst h
    exact ⟨_, _, rfl, ⟨A0, n0, c0, s0, rfl, h0⟩, rfl⟩, fun h => by
    obtain ⟨v0, r0, e0, ⟨A0, n0, c0, s0, p0, h0⟩, e⟩ := h
    have e : r0 = [] := e
    subst e
    subst e0
    subst p0
    exact (show Dt.rd (α := List api_Write) H _ x from ⟨A0, n0, c0, s0, rfl, h0⟩)⟩
  cq := @fun l x h => by
    change ofc22 l = some x at h
    unfold ofc22 at h
    split at h
    · obtain ⟨v0, h0, h⟩ := bindS h
      cases h
      exact ⟨_, _, rfl, xS_cq h0, rfl⟩
    · cases h
  eqc := fun d a b c1 c2 hd h1 h2 => by cases hd
def ofc45 : List (SV DD) → Option (DD 45)
 | [a0] => (xS 58 a0).bind fun v0 => some v0
 | _ => none
def ce45 : CE DD := ⟨45, fun x => [.fsl 58 (x)], ofc45, none⟩
theorem ceOk45 : ce45.Ok where
  rdi := @fun H ρ cs x => ⟨fun h => by
    obtain ⟨A0, n0, c0, s0, h, h0⟩ := (show Dt.rd (α := List Sec) H cs x from h)
    subst h
    exact ⟨_, _, rfl, ⟨A0, n0, c0, s0, rfl, h0⟩, rfl⟩, fun h => by
    obtain ⟨v0, r0, e0, ⟨A0, n0, c0, s0, p0, h0⟩, e⟩ := h
    have e : r0 = [] := e
    subst e
    subst e0
    subst p0
    exact (show Dt.rd (α := List Sec) H _ x from ⟨A0, n0, c0, s0, rfl, h0⟩)⟩
  cq := @fun l x h => by
    change ofc45 l = some x at h
    unfold ofc45 at h
    split at h
    · obtain ⟨v0, h0, h⟩ := bindS h
      cases h
      exact ⟨_, _, rfl, xS_cq h0, rfl⟩
    · cases h
  eqc := fun d a b c1 c2 hd h1 h2 => by cases hd
def ofc64 : List (SV DD) → Option (DD 64)
 | [a0, a1, a2] => (xI a0).bind fun v0 => (xI a1).bind fun v1 => (xI a2).bind fun v2 => some ⟨v0, v1, v2⟩
 | _ => none
def ce64 : CE DD := ⟨64, fun x => [.i .i64 (x.Epoch), .i .i64 (x.From), .i .i64 (x.To)], ofc64, some (inferInstanceAs (DecidableEq api_Span))⟩
theorem sc64 (a b : api_Span) : (([.i .i64 (a.Epoch), .i .i64 (a.From), .i .i64 (a.To)] : List Sc) = [.i .i64 (b.Epoch), .i .i64 (b.From), .i .i64 (b.To)]) ↔ a = b := by
  cases a; cases b; simp
theorem ceOk64 : ce64.Ok where
  rdi := @fun H ρ cs x => ⟨fun h => by
    obtain h := (show Dt.rd (α := api_Span) H cs x from h)
    subst h
    exact ⟨_, _, rfl, rfl, _, _, rfl, rfl, _, _, rfl, rfl, rfl⟩, fun h => by
    obtain ⟨v0, r0, e0, p0, v1, r1, e1, p1, v2, r2, e2, p2, e⟩ := h
    have e : r2 = [] := e
    subst e
    subst e2
    subst e1
    subst e0
    have p0 : v0 = _ := p0
    subst p0
    have p1 : v1 = _ := p1
    subst p1
    have p2 : v2 = _ := p2
    subst p2
    exact (show Dt.rd (α := api_Span) H _ x from rfl)⟩
  cq := @fun l x h => by
    change ofc64 l = some x at h
    unfold ofc64 at h
    split at h
    · obtain ⟨v0, h0, h⟩ := bindS h
      obtain ⟨v1, h1, h⟩ := bindS h
      obtain ⟨v2, h2, h⟩ := bindS h
      cases h
      exact ⟨_, _, rfl, xI_cq h0, _, _, rfl, xI_cq h1, _, _, rfl, xI_cq h2, rfl⟩
    · cases h
  eqc := fun d a b c1 c2 hd h1 h2 => by
    cases h1; cases h2
    exact sc64 a b
def ofc3 : List (SV DD) → Option (DD 3)
 | [a0] => (xI a0).bind fun v0 => some v0
 | _ => none
def ce3 : CE DD := ⟨3, fun x => [.i .i64 (x)], ofc3, some (inferInstanceAs (DecidableEq Int))⟩
theorem sc3 (a b : Int) : (([.i .i64 (a)] : List Sc) = [.i .i64 (b)]) ↔ a = b := ⟨(Dt.ksOk (α := Int) _ _ rfl).2.2 a b, fun h => by rw [h]⟩
theorem ceOk3 : ce3.Ok where
  rdi := @fun H ρ cs x => ⟨fun h => by
    obtain h := (show Dt.rd (α := Int) H cs x from h)
    subst h
    exact ⟨_, _, rfl, rfl, rfl⟩, fun h => by
    obtain ⟨v0, r0, e0, p0, e⟩ := h
    have e : r0 = [] := e
    subst e
    subst e0
    have p0 : v0 = _ := p0
    subst p0
    exact (show Dt.rd (α := Int) H _ x from rfl)⟩
  cq := @fun l x h => by
    change ofc3 l = some x at h
    unfold ofc3 at h
    split at h
    · obtain ⟨v0, h0, h⟩ := bindS h
      cases h
      exact ⟨_, _, rfl, xI_cq h0, rfl⟩
    · cases h
  eqc := fun d a b c1 c2 hd h1 h2 => by
    cases h1; cases h2
    exact sc3 a b
def ofc106 : List (SV DD) → Option (DD 106)
 | [a0] => (xW a0).bind fun v0 => some v0
 | _ => none
def ce106 : CE DD := ⟨106, fun x => [.w (x)], ofc106, none⟩
theorem ceOk106 : ce106.Ok where
  rdi := @fun H ρ cs x => ⟨fun h => by
    obtain h := (show Dt.rd (α := BitVec 64) H cs x from h)
    subst h
    exact ⟨_, _, rfl, rfl, rfl⟩, fun h => by
    obtain ⟨v0, r0, e0, p0, e⟩ := h
    have e : r0 = [] := e
    subst e
    subst e0
    have p0 : v0 = _ := p0
    subst p0
    exact (show Dt.rd (α := BitVec 64) H _ x from rfl)⟩
  cq := @fun l x h => by
    change ofc106 l = some x at h
    unfold ofc106 at h
    split at h
    · obtain ⟨v0, h0, h⟩ := bindS h
      cases h
      exact ⟨_, _, rfl, xW_cq h0, rfl⟩
    · cases h
  eqc := fun d a b c1 c2 hd h1 h2 => by cases hd
def ofc54 : List (SV DD) → Option (DD 54)
 | [a0, a1] => (xI a0).bind fun v0 => (xS 106 a1).bind fun v1 => some ⟨v0, v1⟩
 | _ => none
def ce54 : CE DD := ⟨54, fun x => [.i .i64 (x.Size), .fsl 106 (x.Words)], ofc54, none⟩
theorem ceOk54 : ce54.Ok where
  rdi := @fun H ρ cs x => ⟨fun h => by
    obtain ⟨A0, n0, c0, s0, h, h0⟩ := (show Dt.rd (α := api_Bitmap) H cs x from h)
    subst h
    exact ⟨_, _, rfl, rfl, _, _, rfl, ⟨A0, n0, c0, s0, rfl, h0⟩, rfl⟩, fun h => by
    obtain ⟨v0, r0, e0, p0, v1, r1, e1, ⟨A0, n0, c0, s0, p1, h0⟩, e⟩ := h
    have e : r1 = [] := e
    subst e
    subst e1
    subst e0
    have p0 : v0 = _ := p0
    subst p0
    subst p1
    exact (show Dt.rd (α := api_Bitmap) H _ x from ⟨A0, n0, c0, s0, rfl, h0⟩)⟩
  cq := @fun l x h => by
    change ofc54 l = some x at h
    unfold ofc54 at h
    split at h
    · obtain ⟨v0, h0, h⟩ := bindS h
      obtain ⟨v1, h1, h⟩ := bindS h
      cases h
      exact ⟨_, _, rfl, xI_cq h0, _, _, rfl, xS_cq h1, rfl⟩
    · cases h
  eqc := fun d a b c1 c2 hd h1 h2 => by cases hd
def ofc61 : List (SV DD) → Option (DD 61)
 | [a0, a1, a2, a3] => (xI a0).bind fun v0 => (xS 64 a1).bind fun v1 => (xS 54 a2).bind fun v2 => (xS 45 a3).bind fun v3 => some ⟨v0, v1, v2, v3⟩
 | _ => none
def ce61 : CE DD := ⟨61, fun x => [.i .i64 (x.Site), .fsl 64 (x.Lineage), .fsl 54 (x.Dirty), .fsl 45 (x.Image)], ofc61, none⟩
theorem ceOk61 : ce61.Ok where
  rdi := @fun H ρ cs x => ⟨fun h => by
    obtain ⟨A0, n0, c0, s0, A1, n1, c1, s1, A2, n2, c2, s2, h, h0, h1, h2⟩ := (show Dt.rd (α := api_Point) H cs x from h)
    subst h
    exact ⟨_, _, rfl, rfl, _, _, rfl, ⟨A0, n0, c0, s0, rfl, h0⟩, _, _, rfl, ⟨A1, n1, c1, s1, rfl, h1⟩, _, _, rfl, ⟨A2, n2, c2, s2, rfl, h2⟩, rfl⟩, fun h => by
    obtain ⟨v0, r0, e0, p0, v1, r1, e1, ⟨A0, n0, c0, s0, p1, h0⟩, v2, r2, e2, ⟨A1, n1, c1, s1, p2, h1⟩, v3, r3, e3, ⟨A2, n2, c2, s2, p3, h2⟩, e⟩ := h
    have e : r3 = [] := e
    subst e
    subst e3
    subst e2
    subst e1
    subst e0
    have p0 : v0 = _ := p0
    subst p0
    subst p1
    subst p2
    subst p3
    exact (show Dt.rd (α := api_Point) H _ x from ⟨A0, n0, c0, s0, A1, n1, c1, s1, A2, n2, c2, s2, rfl, h0, h1, h2⟩)⟩
  cq := @fun l x h => by
    change ofc61 l = some x at h
    unfold ofc61 at h
    split at h
    · obtain ⟨v0, h0, h⟩ := bindS h
      obtain ⟨v1, h1, h⟩ := bindS h
      obtain ⟨v2, h2, h⟩ := bindS h
      obtain ⟨v3, h3, h⟩ := bindS h
      cases h
      exact ⟨_, _, rfl, xI_cq h0, _, _, rfl, xS_cq h1, _, _, rfl, xS_cq h2, _, _, rfl, xS_cq h3, rfl⟩
    · cases h
  eqc := fun d a b c1 c2 hd h1 h2 => by cases hd
def ofc26 : List (SV DD) → Option (DD 26)
 | [a0] => (xS 45 a0).bind fun v0 => some v0
 | _ => none
def ce26 : CE DD := ⟨26, fun x => [.fsl 45 (x)], ofc26, none⟩
theorem ceOk26 : ce26.Ok where
  rdi := @fun H ρ cs x => ⟨fun h => by
    obtain ⟨A0, n0, c0, s0, h, h0⟩ := (show Dt.rd (α := List (List Sec)) H cs x from h)
    subst h
    exact ⟨_, _, rfl, ⟨A0, n0, c0, s0, rfl, h0⟩, rfl⟩, fun h => by
    obtain ⟨v0, r0, e0, ⟨A0, n0, c0, s0, p0, h0⟩, e⟩ := h
    have e : r0 = [] := e
    subst e
    subst e0
    subst p0
    exact (show Dt.rd (α := List (List Sec)) H _ x from ⟨A0, n0, c0, s0, rfl, h0⟩)⟩
  cq := @fun l x h => by
    change ofc26 l = some x at h
    unfold ofc26 at h
    split at h
    · obtain ⟨v0, h0, h⟩ := bindS h
      cases h
      exact ⟨_, _, rfl, xS_cq h0, rfl⟩
    · cases h
  eqc := fun d a b c1 c2 hd h1 h2 => by cases hd
def ofc59 : List (SV DD) → Option (DD 59)
 | [a0] => (xS 64 a0).bind fun v0 => some v0
 | _ => none
def ce59 : CE DD := ⟨59, fun x => [.fsl 64 (x)], ofc59, none⟩
theorem ceOk59 : ce59.Ok where
  rdi := @fun H ρ cs x => ⟨fun h => by
    obtain ⟨A0, n0, c0, s0, h, h0⟩ := (show Dt.rd (α := List api_Span) H cs x from h)
    subst h
    exact ⟨_, _, rfl, ⟨A0, n0, c0, s0, rfl, h0⟩, rfl⟩, fun h => by
    obtain ⟨v0, r0, e0, ⟨A0, n0, c0, s0, p0, h0⟩, e⟩ := h
    have e : r0 = [] := e
    subst e
    subst e0
    subst p0
    exact (show Dt.rd (α := List api_Span) H _ x from ⟨A0, n0, c0, s0, rfl, h0⟩)⟩
  cq := @fun l x h => by
    change ofc59 l = some x at h
    unfold ofc59 at h
    split at h
    · obtain ⟨v0, h0, h⟩ := bindS h
      cases h
      exact ⟨_, _, rfl, xS_cq h0, rfl⟩
    · cases h
  eqc := fun d a b c1 c2 hd h1 h2 => by cases hd
def ofc29 : List (SV DD) → Option (DD 29)
 | [a0] => (xS 3 a0).bind fun v0 => some v0
 | _ => none
def ce29 : CE DD := ⟨29, fun x => [.fsl 3 (x)], ofc29, none⟩
theorem ceOk29 : ce29.Ok where
  rdi := @fun H ρ cs x => ⟨fun h => by
    obtain ⟨A0, n0, c0, s0, h, h0⟩ := (show Dt.rd (α := List Int) H cs x from h)
    subst h
    exact ⟨_, _, rfl, ⟨A0, n0, c0, s0, rfl, h0⟩, rfl⟩, fun h => by
    obtain ⟨v0, r0, e0, ⟨A0, n0, c0, s0, p0, h0⟩, e⟩ := h
    have e : r0 = [] := e
    subst e
    subst e0
    subst p0
    exact (show Dt.rd (α := List Int) H _ x from ⟨A0, n0, c0, s0, rfl, h0⟩)⟩
  cq := @fun l x h => by
    change ofc29 l = some x at h
    unfold ofc29 at h
    split at h
    · obtain ⟨v0, h0, h⟩ := bindS h
      cases h
      exact ⟨_, _, rfl, xS_cq h0, rfl⟩
    · cases h
  eqc := fun d a b c1 c2 hd h1 h2 => by cases hd
def ofc41 : List (SV DD) → Option (DD 41)
 | [a0] => (xS 54 a0).bind fun v0 => some v0
 | _ => none
def ce41 : CE DD := ⟨41, fun x => [.fsl 54 (x)], ofc41, none⟩
theorem ceOk41 : ce41.Ok where
  rdi := @fun H ρ cs x => ⟨fun h => by
    obtain ⟨A0, n0, c0, s0, h, h0⟩ := (show Dt.rd (α := List api_Bitmap) H cs x from h)
    subst h
    exact ⟨_, _, rfl, ⟨A0, n0, c0, s0, rfl, h0⟩, rfl⟩, fun h => by
    obtain ⟨v0, r0, e0, ⟨A0, n0, c0, s0, p0, h0⟩, e⟩ := h
    have e : r0 = [] := e
    subst e
    subst e0
    subst p0
    exact (show Dt.rd (α := List api_Bitmap) H _ x from ⟨A0, n0, c0, s0, rfl, h0⟩)⟩
  cq := @fun l x h => by
    change ofc41 l = some x at h
    unfold ofc41 at h
    split at h
    · obtain ⟨v0, h0, h⟩ := bindS h
      cases h
      exact ⟨_, _, rfl, xS_cq h0, rfl⟩
    · cases h
  eqc := fun d a b c1 c2 hd h1 h2 => by cases hd
def ofc39 : List (SV DD) → Option (DD 39)
 | [a0, a1] => (xI a0).bind fun v0 => (xI a1).bind fun v1 => some ⟨v0, v1⟩
 | _ => none
def ce39 : CE DD := ⟨39, fun x => [.i .i64 (x.Start), .i .i64 (x.Count)], ofc39, some (inferInstanceAs (DecidableEq api_Extent))⟩
theorem sc39 (a b : api_Extent) : (([.i .i64 (a.Start), .i .i64 (a.Count)] : List Sc) = [.i .i64 (b.Start), .i .i64 (b.Count)]) ↔ a = b := by
  cases a; cases b; simp
theorem ceOk39 : ce39.Ok where
  rdi := @fun H ρ cs x => ⟨fun h => by
    obtain h := (show Dt.rd (α := api_Extent) H cs x from h)
    subst h
    exact ⟨_, _, rfl, rfl, _, _, rfl, rfl, rfl⟩, fun h => by
    obtain ⟨v0, r0, e0, p0, v1, r1, e1, p1, e⟩ := h
    have e : r1 = [] := e
    subst e
    subst e1
    subst e0
    have p0 : v0 = _ := p0
    subst p0
    have p1 : v1 = _ := p1
    subst p1
    exact (show Dt.rd (α := api_Extent) H _ x from rfl)⟩
  cq := @fun l x h => by
    change ofc39 l = some x at h
    unfold ofc39 at h
    split at h
    · obtain ⟨v0, h0, h⟩ := bindS h
      obtain ⟨v1, h1, h⟩ := bindS h
      cases h
      exact ⟨_, _, rfl, xI_cq h0, _, _, rfl, xI_cq h1, rfl⟩
    · cases h
  eqc := fun d a b c1 c2 hd h1 h2 => by
    cases h1; cases h2
    exact sc39 a b
def ofc40 : List (SV DD) → Option (DD 40)
 | [a0] => (xS 39 a0).bind fun v0 => some v0
 | _ => none
def ce40 : CE DD := ⟨40, fun x => [.fsl 39 (x)], ofc40, none⟩
theorem ceOk40 : ce40.Ok where
  rdi := @fun H ρ cs x => ⟨fun h => by
    obtain ⟨A0, n0, c0, s0, h, h0⟩ := (show Dt.rd (α := List api_Extent) H cs x from h)
    subst h
    exact ⟨_, _, rfl, ⟨A0, n0, c0, s0, rfl, h0⟩, rfl⟩, fun h => by
    obtain ⟨v0, r0, e0, ⟨A0, n0, c0, s0, p0, h0⟩, e⟩ := h
    have e : r0 = [] := e
    subst e
    subst e0
    subst p0
    exact (show Dt.rd (α := List api_Extent) H _ x from ⟨A0, n0, c0, s0, rfl, h0⟩)⟩
  cq := @fun l x h => by
    change ofc40 l = some x at h
    unfold ofc40 at h
    split at h
    · obtain ⟨v0, h0, h⟩ := bindS h
      cases h
      exact ⟨_, _, rfl, xS_cq h0, rfl⟩
    · cases h
  eqc := fun d a b c1 c2 hd h1 h2 => by cases hd
def ofc37 : List (SV DD) → Option (DD 37)
 | [a0] => (xS 40 a0).bind fun v0 => some v0
 | _ => none
def ce37 : CE DD := ⟨37, fun x => [.fsl 40 (x)], ofc37, none⟩
theorem ceOk37 : ce37.Ok where
  rdi := @fun H ρ cs x => ⟨fun h => by
    obtain ⟨A0, n0, c0, s0, h, h0⟩ := (show Dt.rd (α := List (List api_Extent)) H cs x from h)
    subst h
    exact ⟨_, _, rfl, ⟨A0, n0, c0, s0, rfl, h0⟩, rfl⟩, fun h => by
    obtain ⟨v0, r0, e0, ⟨A0, n0, c0, s0, p0, h0⟩, e⟩ := h
    have e : r0 = [] := e
    subst e
    subst e0
    subst p0
    exact (show Dt.rd (α := List (List api_Extent)) H _ x from ⟨A0, n0, c0, s0, rfl, h0⟩)⟩
  cq := @fun l x h => by
    change ofc37 l = some x at h
    unfold ofc37 at h
    split at h
    · obtain ⟨v0, h0, h⟩ := bindS h
      cases h
      exact ⟨_, _, rfl, xS_cq h0, rfl⟩
    · cases h
  eqc := fun d a b c1 c2 hd h1 h2 => by cases hd
def ofc33 : List (SV DD) → Option (DD 33)
 | [a0] => (xI a0).bind fun v0 => some v0
 | _ => none
def ce33 : CE DD := ⟨33, fun x => [.i .i64 (x)], ofc33, none⟩
theorem ceOk33 : ce33.Ok where
  rdi := @fun H ρ cs x => ⟨fun h => by
    obtain h := (show Dt.rd (α := Int) H cs x from h)
    subst h
    exact ⟨_, _, rfl, rfl, rfl⟩, fun h => by
    obtain ⟨v0, r0, e0, p0, e⟩ := h
    have e : r0 = [] := e
    subst e
    subst e0
    have p0 : v0 = _ := p0
    subst p0
    exact (show Dt.rd (α := Int) H _ x from rfl)⟩
  cq := @fun l x h => by
    change ofc33 l = some x at h
    unfold ofc33 at h
    split at h
    · obtain ⟨v0, h0, h⟩ := bindS h
      cases h
      exact ⟨_, _, rfl, xI_cq h0, rfl⟩
    · cases h
  eqc := fun d a b c1 c2 hd h1 h2 => by cases hd
def ofc25 : List (SV DD) → Option (DD 25)
 | [a0] => (xS 45 a0).bind fun v0 => some v0
 | _ => none
def ce25 : CE DD := ⟨25, fun x => [.fsl 45 (x)], ofc25, none⟩
theorem ceOk25 : ce25.Ok where
  rdi := @fun H ρ cs x => ⟨fun h => by
    obtain ⟨A0, n0, c0, s0, h, h0⟩ := (show Dt.rd (α := List (List Sec)) H cs x from h)
    subst h
    exact ⟨_, _, rfl, ⟨A0, n0, c0, s0, rfl, h0⟩, rfl⟩, fun h => by
    obtain ⟨v0, r0, e0, ⟨A0, n0, c0, s0, p0, h0⟩, e⟩ := h
    have e : r0 = [] := e
    subst e
    subst e0
    subst p0
    exact (show Dt.rd (α := List (List Sec)) H _ x from ⟨A0, n0, c0, s0, rfl, h0⟩)⟩
  cq := @fun l x h => by
    change ofc25 l = some x at h
    unfold ofc25 at h
    split at h
    · obtain ⟨v0, h0, h⟩ := bindS h
      cases h
      exact ⟨_, _, rfl, xS_cq h0, rfl⟩
    · cases h
  eqc := fun d a b c1 c2 hd h1 h2 => by cases hd
def ofc70 : List (SV DD) → Option (DD 70)
 | [a0, a1, a2, a3, a4] => (xI a0).bind fun v0 => (xI a1).bind fun v1 => (xI a2).bind fun v2 => (xS 3 a3).bind fun v3 => (xS 47 a4).bind fun v4 => some ⟨v0, v1, v2, v3, v4⟩
 | _ => none
def ce70 : CE DD := ⟨70, fun x => [.i .i64 (x.Base), .i .i64 (x.Number), .i .i64 (x.Time), .fsl 3 (x.Positions), .fsl 47 (x.Writes)], ofc70, none⟩
theorem ceOk70 : ce70.Ok where
  rdi := @fun H ρ cs x => ⟨fun h => by
    obtain ⟨A0, n0, c0, s0, A1, n1, c1, s1, h, h0, h1⟩ := (show Dt.rd (α := api_Cycle) H cs x from h)
    subst h
    exact ⟨_, _, rfl, rfl, _, _, rfl, rfl, _, _, rfl, rfl, _, _, rfl, ⟨A0, n0, c0, s0, rfl, h0⟩, _, _, rfl, ⟨A1, n1, c1, s1, rfl, h1⟩, rfl⟩, fun h => by
    obtain ⟨v0, r0, e0, p0, v1, r1, e1, p1, v2, r2, e2, p2, v3, r3, e3, ⟨A0, n0, c0, s0, p3, h0⟩, v4, r4, e4, ⟨A1, n1, c1, s1, p4, h1⟩, e⟩ := h
    have e : r4 = [] := e
    subst e
    subst e4
    subst e3
    subst e2
    subst e1
    subst e0
    have p0 : v0 = _ := p0
    subst p0
    have p1 : v1 = _ := p1
    subst p1
    have p2 : v2 = _ := p2
    subst p2
    subst p3
    subst p4
    exact (show Dt.rd (α := api_Cycle) H _ x from ⟨A0, n0, c0, s0, A1, n1, c1, s1, rfl, h0, h1⟩)⟩
  cq := @fun l x h => by
    change ofc70 l = some x at h
    unfold ofc70 at h
    split at h
    · obtain ⟨v0, h0, h⟩ := bindS h
      obtain ⟨v1, h1, h⟩ := bindS h
      obtain ⟨v2, h2, h⟩ := bindS h
      obtain ⟨v3, h3, h⟩ := bindS h
      obtain ⟨v4, h4, h⟩ := bindS h
      cases h
      exact ⟨_, _, rfl, xI_cq h0, _, _, rfl, xI_cq h1, _, _, rfl, xI_cq h2, _, _, rfl, xS_cq h3, _, _, rfl, xS_cq h4, rfl⟩
    · cases h
  eqc := fun d a b c1 c2 hd h1 h2 => by cases hd
def ofc83 : List (SV DD) → Option (DD 83)
 | [a0, a1, a2] => (xI a0).bind fun v0 => (xI a1).bind fun v1 => (xS 54 a2).bind fun v2 => some ⟨v0, v1, v2⟩
 | _ => none
def ce83 : CE DD := ⟨83, fun x => [.i .i64 (x.Site), .i .i64 (x.Common), .fsl 54 (x.Dirty)], ofc83, none⟩
theorem ceOk83 : ce83.Ok where
  rdi := @fun H ρ cs x => ⟨fun h => by
    obtain ⟨A0, n0, c0, s0, h, h0⟩ := (show Dt.rd (α := api_Peer) H cs x from h)
    subst h
    exact ⟨_, _, rfl, rfl, _, _, rfl, rfl, _, _, rfl, ⟨A0, n0, c0, s0, rfl, h0⟩, rfl⟩, fun h => by
    obtain ⟨v0, r0, e0, p0, v1, r1, e1, p1, v2, r2, e2, ⟨A0, n0, c0, s0, p2, h0⟩, e⟩ := h
    have e : r2 = [] := e
    subst e
    subst e2
    subst e1
    subst e0
    have p0 : v0 = _ := p0
    subst p0
    have p1 : v1 = _ := p1
    subst p1
    subst p2
    exact (show Dt.rd (α := api_Peer) H _ x from ⟨A0, n0, c0, s0, rfl, h0⟩)⟩
  cq := @fun l x h => by
    change ofc83 l = some x at h
    unfold ofc83 at h
    split at h
    · obtain ⟨v0, h0, h⟩ := bindS h
      obtain ⟨v1, h1, h⟩ := bindS h
      obtain ⟨v2, h2, h⟩ := bindS h
      cases h
      exact ⟨_, _, rfl, xI_cq h0, _, _, rfl, xI_cq h1, _, _, rfl, xS_cq h2, rfl⟩
    · cases h
  eqc := fun d a b c1 c2 hd h1 h2 => by cases hd
def ofc32 : List (SV DD) → Option (DD 32)
 | [a0, a1] => (xS 3 a0).bind fun v0 => (xS 83 a1).bind fun v1 => some ⟨v0, v1⟩
 | _ => none
def ce32 : CE DD := ⟨32, fun x => [.fsl 3 (x.Sizes), .fsl 83 (x.Peers)], ofc32, none⟩
theorem ceOk32 : ce32.Ok where
  rdi := @fun H ρ cs x => ⟨fun h => by
    obtain ⟨A0, n0, c0, s0, A1, n1, c1, s1, h, h0, h1⟩ := (show Dt.rd (α := api_Tracker) H cs x from h)
    subst h
    exact ⟨_, _, rfl, ⟨A0, n0, c0, s0, rfl, h0⟩, _, _, rfl, ⟨A1, n1, c1, s1, rfl, h1⟩, rfl⟩, fun h => by
    obtain ⟨v0, r0, e0, ⟨A0, n0, c0, s0, p0, h0⟩, v1, r1, e1, ⟨A1, n1, c1, s1, p1, h1⟩, e⟩ := h
    have e : r1 = [] := e
    subst e
    subst e1
    subst e0
    subst p0
    subst p1
    exact (show Dt.rd (α := api_Tracker) H _ x from ⟨A0, n0, c0, s0, A1, n1, c1, s1, rfl, h0, h1⟩)⟩
  cq := @fun l x h => by
    change ofc32 l = some x at h
    unfold ofc32 at h
    split at h
    · obtain ⟨v0, h0, h⟩ := bindS h
      obtain ⟨v1, h1, h⟩ := bindS h
      cases h
      exact ⟨_, _, rfl, xS_cq h0, _, _, rfl, xS_cq h1, rfl⟩
    · cases h
  eqc := fun d a b c1 c2 hd h1 h2 => by cases hd
def ofc30 : List (SV DD) → Option (DD 30)
 | [a0] => (xS 83 a0).bind fun v0 => some v0
 | _ => none
def ce30 : CE DD := ⟨30, fun x => [.fsl 83 (x)], ofc30, none⟩
theorem ceOk30 : ce30.Ok where
  rdi := @fun H ρ cs x => ⟨fun h => by
    obtain ⟨A0, n0, c0, s0, h, h0⟩ := (show Dt.rd (α := List api_Peer) H cs x from h)
    subst h
    exact ⟨_, _, rfl, ⟨A0, n0, c0, s0, rfl, h0⟩, rfl⟩, fun h => by
    obtain ⟨v0, r0, e0, ⟨A0, n0, c0, s0, p0, h0⟩, e⟩ := h
    have e : r0 = [] := e
    subst e
    subst e0
    subst p0
    exact (show Dt.rd (α := List api_Peer) H _ x from ⟨A0, n0, c0, s0, rfl, h0⟩)⟩
  cq := @fun l x h => by
    change ofc30 l = some x at h
    unfold ofc30 at h
    split at h
    · obtain ⟨v0, h0, h⟩ := bindS h
      cases h
      exact ⟨_, _, rfl, xS_cq h0, rfl⟩
    · cases h
  eqc := fun d a b c1 c2 hd h1 h2 => by cases hd
def ofc155 : List (SV DD) → Option (DD 155)
 | [a0] => (xS 4 a0).bind fun v0 => some v0
 | _ => none
def ce155 : CE DD := ⟨155, fun x => [.fsl 4 (x)], ofc155, none⟩
theorem ceOk155 : ce155.Ok where
  rdi := @fun H ρ cs x => ⟨fun h => by
    obtain ⟨A0, n0, c0, s0, h, h0⟩ := (show Dt.rd (α := List Bool) H cs x from h)
    subst h
    exact ⟨_, _, rfl, ⟨A0, n0, c0, s0, rfl, h0⟩, rfl⟩, fun h => by
    obtain ⟨v0, r0, e0, ⟨A0, n0, c0, s0, p0, h0⟩, e⟩ := h
    have e : r0 = [] := e
    subst e
    subst e0
    subst p0
    exact (show Dt.rd (α := List Bool) H _ x from ⟨A0, n0, c0, s0, rfl, h0⟩)⟩
  cq := @fun l x h => by
    change ofc155 l = some x at h
    unfold ofc155 at h
    split at h
    · obtain ⟨v0, h0, h⟩ := bindS h
      cases h
      exact ⟨_, _, rfl, xS_cq h0, rfl⟩
    · cases h
  eqc := fun d a b c1 c2 hd h1 h2 => by cases hd
def ofc52 : List (SV DD) → Option (DD 52)
 | [a0] => (xS 106 a0).bind fun v0 => some v0
 | _ => none
def ce52 : CE DD := ⟨52, fun x => [.fsl 106 (x)], ofc52, none⟩
theorem ceOk52 : ce52.Ok where
  rdi := @fun H ρ cs x => ⟨fun h => by
    obtain ⟨A0, n0, c0, s0, h, h0⟩ := (show Dt.rd (α := List (BitVec 64)) H cs x from h)
    subst h
    exact ⟨_, _, rfl, ⟨A0, n0, c0, s0, rfl, h0⟩, rfl⟩, fun h => by
    obtain ⟨v0, r0, e0, ⟨A0, n0, c0, s0, p0, h0⟩, e⟩ := h
    have e : r0 = [] := e
    subst e
    subst e0
    subst p0
    exact (show Dt.rd (α := List (BitVec 64)) H _ x from ⟨A0, n0, c0, s0, rfl, h0⟩)⟩
  cq := @fun l x h => by
    change ofc52 l = some x at h
    unfold ofc52 at h
    split at h
    · obtain ⟨v0, h0, h⟩ := bindS h
      cases h
      exact ⟨_, _, rfl, xS_cq h0, rfl⟩
    · cases h
  eqc := fun d a b c1 c2 hd h1 h2 => by cases hd
def tab : Tb DD := [ce4, ce5, ce58, ce47, ce22, ce45, ce64, ce3, ce106, ce54, ce61, ce26, ce59, ce29, ce41, ce39, ce40, ce37, ce33, ce25, ce70, ce83, ce32, ce30, ce155, ce52]
theorem tabOk : TbOk tab := ⟨ceOk4, ceOk5, ceOk58, ceOk47, ceOk22, ceOk45, ceOk64, ceOk3, ceOk106, ceOk54, ceOk61, ceOk26, ceOk59, ceOk29, ceOk41, ceOk39, ceOk40, ceOk37, ceOk33, ceOk25, ceOk70, ceOk83, ceOk32, ceOk30, ceOk155, ceOk52, trivial⟩
theorem rd3 : ReadsD Tryz.prog 3 (Int) := ReadsD.int Tryz.underlying3 (by kernel_rfl)
theorem rd58 : ReadsD Tryz.prog 58 (Sec) := ReadsD.sec Tryz.underlying58 Tryz.underlying5 (by kernel_rfl) (by kernel_rfl)
theorem rd45 : ReadsD Tryz.prog 45 (List Sec) := ReadsD.slice Tryz.underlying45 (by kernel_rfl) rd58 (by decide)
instance rg_api_Write : Rg api_Write := ⟨fun x => Rg.rg x.Volume ∧ Rg.rg x.Start ∧ Rg.rg x.Data⟩
theorem rd47 : ReadsD Tryz.prog 47 (api_Write) := (@Reads.struct Tryz.prog 47 _ (Int × Int × List Sec × Unit) (@datProd _ _ (datD (Int)) (@datProd _ _ (datD (Int)) (@datProd _ _ (datD (List Sec)) datUnit))) Tryz.underlying47 (by kernel_rfl) (@Fields.cons _ _ _ _ _ _ (datD (Int)) _ rfl rd3 (@Fields.cons _ _ _ _ _ _ (datD (Int)) _ rfl rd3 (@Fields.cons _ _ _ _ _ _ (datD (List Sec)) _ rfl rd45 (.nil _))))).map rfl fun {H cs a} h => by
  obtain ⟨a0, a1, a2, _⟩ := a
  obtain ⟨_, _, rfl, ⟨rfl, r0⟩, _, _, rfl, ⟨rfl, r1⟩, _, _, rfl, ⟨⟨A3, n3, c3, s3, rfl, hF3⟩, r2⟩, hz⟩ := h
  cases hz
  exact ⟨⟨a0, a1, a2⟩, ⟨A3, n3, c3, s3, rfl, hF3⟩, r0, r1, r2⟩
theorem rd22 : ReadsD Tryz.prog 22 (List api_Write) := ReadsD.slice Tryz.underlying22 (by kernel_rfl) rd47 (by decide)
end Go.Proofs.YtefiiimkacemiaaGreatDoor
namespace Go.Proofs.YtefiiimkacemiaaGreatDoor
open Go.RowKit Go.ChangeShapes Go.WideShapes Go.ChangeAt
theorem Tryz.own : ownKnob Tryz.prog.godebug = none := by kernel_rfl
theorem Tryz.laidOut : laidOutB Tryz.prog = true := by kernel_rfl
theorem Tryz.doorMet (os : Os) (args : Array Value) : laidMetH Tryz.prog [("math/bits.deBruijn64tab", Rows.laid_math_bits_deBruijn64tab)] ((World.doorLaid Tryz.prog 14 os).forCall (fun _ _ => 0) ⟨#[], args, []⟩).memory :=
  laidMetH_of_parts3 (fuel := 8) (laidMet_of_run' 8 (by kernel_rfl) (by kernel_rfl)) (by kernel_rfl) (by kernel_rfl)
theorem tabHolds {W : World} (h : laidMetH Tryz.prog [("math/bits.deBruijn64tab", Rows.laid_math_bits_deBruijn64tab)] W) : TabH (HW W) 0 :=
  tab_of_laid (t := 174) (e := 5) (by kernel_rfl) (by kernel_rfl) Tryz.underlying174 Tryz.underlying5 (by kernel_rfl) (by kernel_rfl) rfl h
theorem lawRes (y : TupD DD [4]) (hy : y.1 = true) {H : Hp} {v : Value} {L : List Ent} (hr : ResR Tryz.prog tab [4] [[false]] y H v L) : ∃ z, z = true ∧ v = .bool z ∧ L = [] := by
  obtain ⟨ρ, _, _, _, _, h1, h2⟩ := hr 0 (fun _ => none) (fun _ _ => rfl) _ _ _ (show resE Tryz.prog tab _ _ y 0 = some (.b y.1, [], 0) by kernel_rfl)
  exact ⟨y.1, hy, h1, h2⟩
theorem pkw5 (v : Value) (cs : List Value) : PkR Tryz.prog 5 v cs = (cs = [v]) := by kernel_rfl
theorem pkw22 (v : Value) (cs : List Value) : PkR Tryz.prog 22 v cs = (cs = [v]) := by kernel_rfl
end Go.Proofs.YtefiiimkacemiaaGreatDoor
namespace Go.Proofs.YtefiiimkacemiaaGreatDoor
open Go.RowKit
def Z0 (x0 : List api_Write) (Φ : Bool → Prop) : (Int) → ((Int) → Prop) → Prop
 | v1, rec1 =>
 (v1 < (x0.length : Int) →
 inX v1 x0.length ∧
 (20 < (((ix x0 v1).Data).length : Int) →
 Φ false) ∧
 (¬ (20 < (((ix x0 v1).Data).length : Int)) →
 inI (v1 + 1) ∧
 rec1 (v1 + 1))) ∧
 (¬ (v1 < (x0.length : Int)) →
 Φ (decide ((x0.length : Int) ≤ 12)))
def law47_small_W (x0 : List api_Write) (Φ : Bool → Prop) : Prop :=
 LoopW (Z0 x0 Φ) 0
def law47_one_W (x0 : Int) (x1 : BitVec 8) (Φ : api_Write → Prop) : Prop :=
 Φ (api_Write.mk 0 x0 ([(Sec.mk x1 (0#8) (0#8) (0#8) (0#8) (0#8) (0#8) (0#8))] : List Sec))
def Z1 (x0 : List (List Sec)) (Φ : List Int → Prop) : (Int × List Int) → ((Int × List Int) → Prop) → Prop
 | (v1, v2), rec1 =>
 (v1 < (x0.length : Int) →
 inX v1 x0.length ∧
 lenOk (v2 ++ ([((ix x0 v1).length : Int)] : List Int)).length 8 ∧
 inI (v1 + 1) ∧
 rec1 ((v1 + 1), (v2 ++ ([((ix x0 v1).length : Int)] : List Int)))) ∧
 (¬ (v1 < (x0.length : Int)) →
 Φ v2)
def Z2 (x0 : List (List Sec)) (Φ : List Int → Prop) : Prop :=
 LoopW (Z1 x0 Φ) (0, ([] : List Int))
def Z3 (x0 : List Int) (Φ : Int → Prop) : (Int) → ((Int) → Prop) → Prop
 | v1, rec1 =>
 (v1 < (x0.length : Int) →
 inX v1 x0.length ∧
 ((ix x0 v1) < 1 →
 Φ 2) ∧
 (¬ ((ix x0 v1) < 1) →
 inX v1 x0.length ∧
 (4096 < (ix x0 v1) →
 Φ 2) ∧
 (¬ (4096 < (ix x0 v1)) →
 inI (v1 + 1) ∧
 rec1 (v1 + 1)))) ∧
 (¬ (v1 < (x0.length : Int)) →
 Φ 0)
def ref07_Sizes_W (x0 : List Int) (Φ : Int → Prop) : Prop :=
 ((x0.length : Int) < 1 →
 Φ 6) ∧
 (¬ ((x0.length : Int) < 1) →
 (8 < (x0.length : Int) →
 Φ 6) ∧
 (¬ (8 < (x0.length : Int)) →
 LoopW (Z3 x0 Φ) 0))
def ref07_Check_W (x0 : List (List Sec)) (Φ : Int → Prop) : Prop :=
 Z2 x0 fun v1 =>
 ref07_Sizes_W v1 fun v2 =>
 Φ v2
def Z4 (x0 : List Int) (x1 : api_Write) (Φ : Int → Prop) : Prop :=
 (x1.Volume < 0 →
 Φ 7) ∧
 (¬ (x1.Volume < 0) →
 ((x0.length : Int) ≤ x1.Volume →
 Φ 7) ∧
 (¬ ((x0.length : Int) ≤ x1.Volume) →
 ((x1.Data.length : Int) = 0 →
 Φ 1) ∧
 (¬ ((x1.Data.length : Int) = 0) →
 (x1.Start < 0 →
 Φ 2) ∧
 (¬ (x1.Start < 0) →
 inX x1.Volume x0.length ∧
 ((ix x0 x1.Volume) ≤ x1.Start →
 Φ 2) ∧
 (¬ ((ix x0 x1.Volume) ≤ x1.Start) →
 inX x1.Volume x0.length ∧
 inI ((ix x0 x1.Volume) - x1.Start) ∧
 (((ix x0 x1.Volume) - x1.Start) < (x1.Data.length : Int) →
 Φ 2) ∧
 (¬ (((ix x0 x1.Volume) - x1.Start) < (x1.Data.length : Int)) →
 Φ 0))))))
def ref07_Fits_W (x0 : List (List Sec)) (x1 : api_Write) (Φ : Int → Prop) : Prop :=
 ref07_Check_W x0 fun v1 =>
 (v1 ≠ 0 →
 Φ v1) ∧
 (¬ (v1 ≠ 0) →
 ∃ v2 : List Int × Unit, Z2 x0 (fun z => (z, ()) = v2) ∧
 ∃ v3 : Int × Unit, Z4 v2.1 x1 (fun z => (z, ()) = v3) ∧
 Φ v3.1)
def Z5 (x0 : List (List Sec)) (Φ : List (List Sec) → Prop) : (List (List Sec) × Int) → ((List (List Sec) × Int) → Prop) → Prop
 | (v4, v12), rec1 =>
 (v12 < (x0.length : Int) →
 inX v12 x0.length ∧
 lenOk (([] : List Sec) ++ (ix x0 v12)).length 8 ∧
 lenOk (v4 ++ [(([] : List Sec) ++ (ix x0 v12))]).length 24 ∧
 inI (v12 + 1) ∧
 rec1 ((v4 ++ [(([] : List Sec) ++ (ix x0 v12))]), v12 + 1)) ∧
 (¬ (v12 < (x0.length : Int)) →
 Φ v4)
def ref07_CopyE_W (x0 : List (List Sec)) (Φ : List (List Sec) → Prop) : Prop :=
 LoopW (Z5 x0 Φ) (([] : List (List Sec)), 0)
def Z6 (x1 : List api_Write) (v24 : Int) (rec1 : (List (List Sec) × Int) → Prop) (_ : List (List Sec) × Int × Int → Prop) : (List (List Sec) × Int) → ((List (List Sec) × Int) → Prop) → Prop
 | (v37, v45), rec2 =>
 (v45 < (((ix x1 v24).Data).length : Int) →
 inX ((ix x1 v24).Volume) v37.length ∧
 inI (((ix x1 v24).Start) + v45) ∧
 inX v45 ((ix x1 v24).Data).length ∧
 inX (((ix x1 v24).Start) + v45) (ix v37 ((ix x1 v24).Volume)).length ∧
 inI (v45 + 1) ∧
 rec2 ((put v37 ((ix x1 v24).Volume) (put (ix v37 ((ix x1 v24).Volume)) (((ix x1 v24).Start) + v45) (ix ((ix x1 v24).Data) v45))), v45 + 1)) ∧
 (¬ (v45 < (((ix x1 v24).Data).length : Int)) →
 inI (v24 + 1) ∧
 rec1 (v37, v24 + 1))
def Z7 (x0 : List (List Sec)) (x1 : List api_Write) (Φ : List (List Sec) × Int × Int → Prop) : (List (List Sec) × Int) → ((List (List Sec) × Int) → Prop) → Prop
 | (v16, v24), rec1 =>
 (v24 < (x1.length : Int) →
 inX v24 x1.length ∧
 ref07_Fits_W x0 (ix x1 v24) fun v31 =>
 (v31 ≠ 0 →
 Φ (([] : List (List Sec)), v24, v31)) ∧
 (¬ (v31 ≠ 0) →
 LoopW (Z6 x1 v24 rec1 Φ) (v16, 0))) ∧
 (¬ (v24 < (x1.length : Int)) →
 Φ (v16, 0, 0))
def ref07_Apply_W (x0 : List (List Sec)) (x1 : List api_Write) (Φ : List (List Sec) × Int × Int → Prop) : Prop :=
 ref07_Check_W x0 fun v3 =>
 (v3 ≠ 0 →
 Φ (([] : List (List Sec)), 0, v3)) ∧
 (¬ (v3 ≠ 0) →
 ref07_CopyE_W x0 fun v7 =>
 LoopW (Z7 x0 x1 Φ) (v7, 0))
def ref02_New_J1 (x0 : Int) (Φ : api_Bitmap × Int → Prop) : Bool → Prop
 | v1 =>
 (v1 = true →
 Φ ((api_Bitmap.mk 0 ([] : List (BitVec 64))), 2)) ∧
 (¬ (v1 = true) →
 inI (x0 + 63) ∧
 (0 ≤ (x0 + 63) ∧ inI (x0 + 63) ∧ (0 : Int) < 64) ∧
 0 ≤ ((x0 + 63) / 64) ∧
 lenOk ((x0 + 63) / 64).toNat 8 ∧
 Φ ((api_Bitmap.mk x0 (List.replicate ((x0 + 63) / 64).toNat (0#64 : BitVec 64))), 0))
def ref02_New_W (x0 : Int) (Φ : api_Bitmap × Int → Prop) : Prop :=
 Join (ref02_New_J1 x0 Φ) fun J1 =>
 (x0 < 0 →
 J1 true) ∧
 (¬ (x0 < 0) →
 J1 (decide (4096 < x0)))
def Z8 (x0 : List Int) (Φ : List api_Bitmap → Prop) : (Int × List api_Bitmap) → ((Int × List api_Bitmap) → Prop) → Prop
 | (v1, v2), rec1 =>
 (v1 < (x0.length : Int) →
 inX v1 x0.length ∧
 ref02_New_W (ix x0 v1) fun v3 =>
 lenOk (v2 ++ ([v3.1] : List api_Bitmap)).length 32 ∧
 inI (v1 + 1) ∧
 rec1 ((v1 + 1), (v2 ++ ([v3.1] : List api_Bitmap)))) ∧
 (¬ (v1 < (x0.length : Int)) →
 Φ v2)
def ref43_Clean_W (x0 : List Int) (Φ : List api_Bitmap → Prop) : Prop :=
 LoopW (Z8 x0 Φ) (0, ([] : List api_Bitmap))
def ref02_Copy_W (x0 : api_Bitmap) (Φ : api_Bitmap → Prop) : Prop :=
 lenOk (([] : List (BitVec 64)) ++ x0.Words).length 8 ∧
 Φ (api_Bitmap.mk x0.Size (([] : List (BitVec 64)) ++ x0.Words))
def ref02_bit_W (x0 : api_Bitmap) (x1 : Int) (Φ : Bool → Prop) : Prop :=
 (0 ≤ x1 ∧ inI x1 ∧ (0 : Int) < 64) ∧
 inX (x1 / 64) x0.Words.length ∧
 (0 ≤ x1 ∧ 64 ≠ (0 : Int)) ∧
 Φ (decide ((((ix x0.Words (x1 / 64)) >>> ((BitVec.ofInt 64 (x1 % 64)).toNat : Int).toNat) &&& (1#64)) = (1#64)))
def Z9 (x0 : api_Bitmap) (Φ : Int → Prop) : (Int) → ((Int) → Prop) → Prop
 | v1, rec1 =>
 inI (64 * (x0.Words.length : Int)) ∧
 (v1 < (64 * (x0.Words.length : Int)) →
 ref02_bit_W x0 v1 fun v2 =>
 (v2 = true →
 Φ 3) ∧
 (¬ (v2 = true) →
 inI (v1 + 1) ∧
 rec1 (v1 + 1))) ∧
 (¬ (v1 < (64 * (x0.Words.length : Int))) →
 Φ 0)
def ref02_Check_W (x0 : api_Bitmap) (Φ : Int → Prop) : Prop :=
 (x0.Size < 0 →
 Φ 3) ∧
 (¬ (x0.Size < 0) →
 (4096 < x0.Size →
 Φ 3) ∧
 (¬ (4096 < x0.Size) →
 inI (x0.Size + 63) ∧
 (0 ≤ (x0.Size + 63) ∧ inI (x0.Size + 63) ∧ (0 : Int) < 64) ∧
 ((x0.Words.length : Int) ≠ ((x0.Size + 63) / 64) →
 Φ 3) ∧
 (¬ ((x0.Words.length : Int) ≠ ((x0.Size + 63) / 64)) →
 LoopW (Z9 x0 Φ) x0.Size)))
def ref02_Fits_W (x0 : api_Extent) (x1 : Int) (Φ : Bool → Prop) : Prop :=
 (0 ≤ x0.Start →
 (0 ≤ x0.Count →
 (x0.Start ≤ x1 →
 inI (x1 - x0.Start) ∧
 Φ (decide (x0.Count ≤ (x1 - x0.Start)))) ∧
 (¬ (x0.Start ≤ x1) →
 Φ false)) ∧
 (¬ (0 ≤ x0.Count) →
 Φ false)) ∧
 (¬ (0 ≤ x0.Start) →
 Φ false)
def Z10 (x1 : api_Extent) (x2 : Bool) (v3 : api_Bitmap) (Φ : api_Bitmap × Int → Prop) : (Int × List (BitVec 64)) → ((Int × List (BitVec 64)) → Prop) → Prop
 | (v4, v5), rec1 =>
 inI (x1.Start + x1.Count) ∧
 (v4 < (x1.Start + x1.Count) →
 (x2 = true →
 (0 ≤ v4 ∧ inI v4 ∧ (0 : Int) < 64) ∧
 (0 ≤ v4 ∧ inI v4 ∧ (0 : Int) < 64) ∧
 inX (v4 / 64) v5.length ∧
 (0 ≤ v4 ∧ 64 ≠ (0 : Int)) ∧
 inX (v4 / 64) v5.length ∧
 inI (v4 + 1) ∧
 rec1 ((v4 + 1), (put v5 (v4 / 64) ((ix v5 (v4 / 64)) ||| ((1#64) <<< ((BitVec.ofInt 64 (v4 % 64)).toNat : Int).toNat))))) ∧
 (¬ (x2 = true) →
 (0 ≤ v4 ∧ inI v4 ∧ (0 : Int) < 64) ∧
 (0 ≤ v4 ∧ inI v4 ∧ (0 : Int) < 64) ∧
 inX (v4 / 64) v5.length ∧
 (0 ≤ v4 ∧ 64 ≠ (0 : Int)) ∧
 inX (v4 / 64) v5.length ∧
 inI (v4 + 1) ∧
 rec1 ((v4 + 1), (put v5 (v4 / 64) ((ix v5 (v4 / 64)) &&& ~~~((1#64) <<< ((BitVec.ofInt 64 (v4 % 64)).toNat : Int).toNat)))))) ∧
 (¬ (v4 < (x1.Start + x1.Count)) →
 Φ ((api_Bitmap.mk v3.Size v5), 0))
def Z11 (x0 : api_Bitmap) (x1 : api_Extent) (x2 : Bool) (Φ : api_Bitmap × Int → Prop) : Prop :=
 ref02_Check_W x0 fun v1 =>
 (v1 ≠ 0 →
 Φ ((api_Bitmap.mk 0 ([] : List (BitVec 64))), 3)) ∧
 (¬ (v1 ≠ 0) →
 ref02_Fits_W x1 x0.Size fun v2 =>
 (¬ (v2 = true) →
 Φ ((api_Bitmap.mk 0 ([] : List (BitVec 64))), 2)) ∧
 (¬ (¬ (v2 = true)) →
 ref02_Copy_W x0 fun v3 =>
 LoopW (Z10 x1 x2 v3 Φ) (x1.Start, v3.Words)))
def ref02_Set_W (x0 : api_Bitmap) (x1 : api_Extent) (Φ : api_Bitmap × Int → Prop) : Prop :=
 Z11 x0 x1 true fun v1 =>
 Φ (v1.1, v1.2)
def ref43_Mark_L2 (x1 : List api_Write) (Φ : List api_Bitmap → Prop) : (Int × List api_Bitmap) → ((Int × List api_Bitmap) → Prop) → Prop
 | (v4, v5), rec2 =>
 (v4 < (x1.length : Int) →
 inX v4 x1.length ∧
 inX ((ix x1 v4).Volume) v5.length ∧
 ∃ v6 : api_Bitmap × Int × Unit, ref02_Set_W (ix v5 ((ix x1 v4).Volume)) (api_Extent.mk ((ix x1 v4).Start) (((ix x1 v4).Data).length : Int)) (fun z => (z.1, z.2, ()) = v6) ∧
 inX ((ix x1 v4).Volume) v5.length ∧
 inI (v4 + 1) ∧
 rec2 ((v4 + 1), (put v5 ((ix x1 v4).Volume) v6.1))) ∧
 (¬ (v4 < (x1.length : Int)) →
 Φ v5)
def ref43_Mark_L1 (x0 : List api_Bitmap) (x1 : List api_Write) (Φ : List api_Bitmap → Prop) : (Int × List api_Bitmap) → ((Int × List api_Bitmap) → Prop) → Prop
 | (v1, v2), rec1 =>
 (v1 < (x0.length : Int) →
 inX v1 x0.length ∧
 ref02_Copy_W (ix x0 v1) fun v3 =>
 lenOk (v2 ++ ([v3] : List api_Bitmap)).length 32 ∧
 inI (v1 + 1) ∧
 rec1 ((v1 + 1), (v2 ++ ([v3] : List api_Bitmap)))) ∧
 (¬ (v1 < (x0.length : Int)) →
 LoopW (ref43_Mark_L2 x1 Φ) (0, v2))
def ref43_Mark_W (x0 : List api_Bitmap) (x1 : List api_Write) (Φ : List api_Bitmap → Prop) : Prop :=
 LoopW (ref43_Mark_L1 x0 x1 Φ) (0, ([] : List api_Bitmap))
def law47_point_W (x0 : Int) (x1 : List (List Sec)) (x2 : List api_Span) (x3 : List api_Write) (Φ : api_Point → Prop) : Prop :=
 ref07_Apply_W x1 x3 fun v1 =>
 Z2 x1 fun v2 =>
 ref43_Clean_W v2 fun v3 =>
 ref43_Mark_W v3 x3 fun v4 =>
 Φ (api_Point.mk x0 x2 v4 v1.1)
def delta_in_W (x0 : Int) (x1 : Int) (Φ : Bool → Prop) : Prop :=
 (x1 ≤ x0 →
 Φ (decide (x0 ≤ 1073741824))) ∧
 (¬ (x1 ≤ x0) →
 Φ false)
def Z12 (x0 : List api_Span) (Φ : Bool → Prop) : (Int × Int × Int × Int) → ((Int × Int × Int × Int) → Prop) → Prop
 | (v1, v2, _, v4), rec1 =>
 (v1 < (x0.length : Int) →
 inX v1 x0.length ∧
 inI (v4 + 1) ∧
 (((ix x0 v1).From) ≠ (v4 + 1) →
 Φ false) ∧
 (¬ (((ix x0 v1).From) ≠ (v4 + 1)) →
 (((ix x0 v1).To) < ((ix x0 v1).From) →
 Φ false) ∧
 (¬ (((ix x0 v1).To) < ((ix x0 v1).From)) →
 (1073741824 < ((ix x0 v1).To) →
 Φ false) ∧
 (¬ (1073741824 < ((ix x0 v1).To)) →
 delta_in_W ((ix x0 v1).Epoch) 1 fun v5 =>
 (¬ (v5 = true) →
 Φ false) ∧
 (¬ (¬ (v5 = true)) →
 (((ix x0 v1).Epoch) ≤ v2 →
 Φ false) ∧
 (¬ (((ix x0 v1).Epoch) ≤ v2) →
 inI (v1 + 1) ∧
 rec1 ((v1 + 1), (ix x0 v1).Epoch, (ix x0 v1).From, (ix x0 v1).To))))))) ∧
 (¬ (v1 < (x0.length : Int)) →
 Φ true)
def Z13 (x0 : List api_Span) (Φ : Bool → Prop) : Prop :=
 LoopW (Z12 x0 Φ) (0, 0, 0, 0)
def Z14 (x0 : List Sec) (Φ : Int → Prop) : Prop :=
 Φ (x0.length : Int)
def Z15 (x0 : List (List Sec)) (Φ : List Int → Prop) : (Int × List Int) → ((Int × List Int) → Prop) → Prop
 | (v1, v2), rec1 =>
 (v1 < (x0.length : Int) →
 inX v1 x0.length ∧
 Z14 (ix x0 v1) fun v3 =>
 lenOk (v2 ++ ([v3] : List Int)).length 8 ∧
 inI (v1 + 1) ∧
 rec1 ((v1 + 1), (v2 ++ ([v3] : List Int)))) ∧
 (¬ (v1 < (x0.length : Int)) →
 Φ v2)
def image_sizes_W (x0 : List (List Sec)) (Φ : List Int → Prop) : Prop :=
 0 ≤ (x0.length : Int) ∧
 lenOk (x0.length : Int).toNat 8 ∧
 LoopW (Z15 x0 Φ) (0, ([] : List Int))
def Z16 (x0 : Int) (Φ : Bool → Prop) : Prop :=
 (x0 < 1 →
 Φ true) ∧
 (¬ (x0 < 1) →
 Φ (decide (4096 < x0)))
def Z17 (x0 : List Int) (Φ : Int → Prop) : (Int) → ((Int) → Prop) → Prop
 | v1, rec1 =>
 (v1 < (x0.length : Int) →
 inX v1 x0.length ∧
 Z16 (ix x0 v1) fun v2 =>
 (v2 = true →
 (0 ≤ v1 →
 Φ 2) ∧
 (¬ (0 ≤ v1) →
 Φ 0)) ∧
 (¬ (v2 = true) →
 inI (v1 + 1) ∧
 rec1 (v1 + 1))) ∧
 (¬ (v1 < (x0.length : Int)) →
 (0 ≤ ((-1) : Int) →
 Φ 2) ∧
 (¬ (0 ≤ ((-1) : Int)) →
 Φ 0))
def Z18 (x0 : List Int) (Φ : Int → Prop) : Prop :=
 ((x0.length : Int) < 1 →
 Φ 6) ∧
 (¬ ((x0.length : Int) < 1) →
 (8 < (x0.length : Int) →
 Φ 6) ∧
 (¬ (8 < (x0.length : Int)) →
 LoopW (Z17 x0 Φ) 0))
def image_Check_W (x0 : List (List Sec)) (Φ : Int → Prop) : Prop :=
 image_sizes_W x0 fun v1 =>
 Z18 v1 fun v2 =>
 Φ v2
def Z19 (x0 : Int) (Φ : Int → Prop) : Prop :=
 inI (x0 + 64) ∧
 inI ((x0 + 64) - 1) ∧
 (0 ≤ ((x0 + 64) - 1) ∧ inI ((x0 + 64) - 1) ∧ (0 : Int) < 64) ∧
 Φ (((x0 + 64) - 1) / 64)
def Z20 (x0 : api_Bitmap) (Φ : Int → Prop) : Prop :=
 (x0.Size < 0 →
 Φ 3) ∧
 (¬ (x0.Size < 0) →
 (4096 < x0.Size →
 Φ 3) ∧
 (¬ (4096 < x0.Size) →
 ∃ v1 : Int × Unit, Z19 x0.Size (fun z => (z, ()) = v1) ∧
 ((x0.Words.length : Int) ≠ v1.1 →
 Φ 3) ∧
 (¬ ((x0.Words.length : Int) ≠ v1.1) →
 (0 ≤ x0.Size ∧ 64 ≠ (0 : Int)) ∧
 (0 < (x0.Size % 64) →
 inI ((x0.Words.length : Int) - 1) ∧
 inX ((x0.Words.length : Int) - 1) x0.Words.length ∧
 0 ≤ (x0.Size % 64) ∧
 (((ix x0.Words ((x0.Words.length : Int) - 1)) >>> ((x0.Size % 64) : Int).toNat) ≠ (0#64) →
 Φ 3) ∧
 (¬ (((ix x0.Words ((x0.Words.length : Int) - 1)) >>> ((x0.Size % 64) : Int).toNat) ≠ (0#64)) →
 Φ 0)) ∧
 (¬ (0 < (x0.Size % 64)) →
 Φ 0))))
def Z21 (x0 : api_Point) (Φ : Int → Prop) : (Int) → ((Int) → Prop) → Prop
 | v4, rec1 =>
 (v4 < (x0.Dirty.length : Int) →
 inX v4 x0.Dirty.length ∧
 Z20 (ix x0.Dirty v4) fun v5 =>
 (v5 ≠ 0 →
 Φ v5) ∧
 (¬ (v5 ≠ 0) →
 inX v4 x0.Image.length ∧
 (((ix x0.Dirty v4).Size) ≠ ((ix x0.Image v4).length : Int) →
 Φ 22) ∧
 (¬ (((ix x0.Dirty v4).Size) ≠ ((ix x0.Image v4).length : Int)) →
 inI (v4 + 1) ∧
 rec1 (v4 + 1)))) ∧
 (¬ (v4 < (x0.Dirty.length : Int)) →
 Φ 0)
def delta_Check_W (x0 : api_Point) (Φ : Int → Prop) : Prop :=
 delta_in_W x0.Site 0 fun v1 =>
 (¬ (v1 = true) →
 Φ 2) ∧
 (¬ (¬ (v1 = true)) →
 Z13 x0.Lineage fun v2 =>
 (¬ (v2 = true) →
 Φ 3) ∧
 (¬ (¬ (v2 = true)) →
 image_Check_W x0.Image fun v3 =>
 (v3 ≠ 0 →
 Φ v3) ∧
 (¬ (v3 ≠ 0) →
 ((x0.Dirty.length : Int) ≠ (x0.Image.length : Int) →
 Φ 6) ∧
 (¬ ((x0.Dirty.length : Int) ≠ (x0.Image.length : Int)) →
 LoopW (Z21 x0 Φ) 0))))
def Z22 (x0 : List api_Span) (Φ : Int → Prop) : Prop :=
 ((x0.length : Int) = 0 →
 Φ 0) ∧
 (¬ ((x0.length : Int) = 0) →
 inI ((x0.length : Int) - 1) ∧
 inX ((x0.length : Int) - 1) x0.length ∧
 Φ ((ix x0 ((x0.length : Int) - 1)).To))
def bitmap_mask_W (x0 : Int) (x1 : Int) (x2 : Int) (Φ : BitVec 64 → Prop) : Prop :=
 inI (x0 * 64) ∧
 inI (x1 - (x0 * 64)) ∧
 inI (x0 * 64) ∧
 inI (x2 - (x0 * 64)) ∧
 ((if 64 < (x2 - (x0 * 64)) then 64 else (x2 - (x0 * 64))) ≤ (if (x1 - (x0 * 64)) < 0 then 0 else (x1 - (x0 * 64))) →
 Φ (0#64)) ∧
 (¬ ((if 64 < (x2 - (x0 * 64)) then 64 else (x2 - (x0 * 64))) ≤ (if (x1 - (x0 * 64)) < 0 then 0 else (x1 - (x0 * 64)))) →
 inI ((if 64 < (x2 - (x0 * 64)) then 64 else (x2 - (x0 * 64))) - (if (x1 - (x0 * 64)) < 0 then 0 else (x1 - (x0 * 64)))) ∧
 inI (64 - ((if 64 < (x2 - (x0 * 64)) then 64 else (x2 - (x0 * 64))) - (if (x1 - (x0 * 64)) < 0 then 0 else (x1 - (x0 * 64))))) ∧
 0 ≤ (64 - ((if 64 < (x2 - (x0 * 64)) then 64 else (x2 - (x0 * 64))) - (if (x1 - (x0 * 64)) < 0 then 0 else (x1 - (x0 * 64))))) ∧
 0 ≤ (if (x1 - (x0 * 64)) < 0 then 0 else (x1 - (x0 * 64))) ∧
 Φ (((18446744073709551615#64) >>> ((64 - ((if 64 < (x2 - (x0 * 64)) then 64 else (x2 - (x0 * 64))) - (if (x1 - (x0 * 64)) < 0 then 0 else (x1 - (x0 * 64))))) : Int).toNat) <<< ((if (x1 - (x0 * 64)) < 0 then 0 else (x1 - (x0 * 64))) : Int).toNat))
def Z23 (x0 : BitVec 64) (Φ : Int → Prop) : Prop := x0 ≠ 0#64 ∧ Φ (Lib.ctz 64 x0.toNat : Int)
def Z24 (v2 : Int) (rec1 : (List (Int × Unit) × Int) → Prop) : (List (Int × Unit) × BitVec 64) → ((List (Int × Unit) × BitVec 64) → Prop) → Prop
 | (l2, v4), rec2 =>
 (v4 ≠ (0#64) →
 inI (v2 * 64) ∧
 ∃ v5 : Int × Unit, Z23 v4 (fun z => (z, ()) = v5) ∧
 inI ((v2 * 64) + v5.1) ∧
 Yl l2 fun v6 r7 => (((v2 * 64) + v5.1), ()) = v6 ∧ (
 rec2 (r7, (v4 &&& (v4 - (1#64))))) ∧ (
 True)) ∧
 (¬ (v4 ≠ (0#64)) →
 inI (v2 + 1) ∧
 rec1 (l2, (v2 + 1)))
def Z25 (x0 : api_Bitmap) (x1 : Int) : (List (Int × Unit) × Int) → ((List (Int × Unit) × Int) → Prop) → Prop
 | (l1, v2), rec1 =>
 (v2 < (x0.Words.length : Int) →
 inX v2 x0.Words.length ∧
 ∃ v3 : BitVec 64 × Unit, bitmap_mask_W v2 x1 x0.Size (fun z => (z, ()) = v3) ∧
 LoopW (Z24 v2 rec1) (l1, ((ix x0.Words v2) &&& v3.1))) ∧
 (¬ (v2 < (x0.Words.length : Int)) →
 l1 = [])
def bitmap_elements_1_I (x0 : api_Bitmap) (x1 : Int) (l : List (Int × Unit)) : Prop :=
 ∃ v1 : Int × Unit, Z20 x0 (fun z => (z, ()) = v1) ∧
 (v1.1 ≠ 0 →
 l = []) ∧
 (¬ (v1.1 ≠ 0) →
 LoopW (Z25 x0 x1) (l, 0))
def Z26 (Φ : List api_Extent → Prop) : (List (Int × Unit) × List api_Extent) → ((List (Int × Unit) × List api_Extent) → Prop) → Prop
 | (lst, v1), rec1 =>
 match lst with
 | [] =>
 Φ v1
 | v2 :: r3 =>
 (0 < (v1.length : Int) →
 inI ((v1.length : Int) - 1) ∧
 inX ((v1.length : Int) - 1) v1.length ∧
 inI ((v1.length : Int) - 1) ∧
 inX ((v1.length : Int) - 1) v1.length ∧
 inI (((ix v1 ((v1.length : Int) - 1)).Start) + ((ix v1 ((v1.length : Int) - 1)).Count)) ∧
 ((((ix v1 ((v1.length : Int) - 1)).Start) + ((ix v1 ((v1.length : Int) - 1)).Count)) = v2.1 →
 inI ((v1.length : Int) - 1) ∧
 inX ((v1.length : Int) - 1) v1.length ∧
 inI (((ix v1 ((v1.length : Int) - 1)).Count) + 1) ∧
 inX ((v1.length : Int) - 1) v1.length ∧
 rec1 (r3, (put v1 ((v1.length : Int) - 1) (api_Extent.mk ((ix v1 ((v1.length : Int) - 1)).Start) (((ix v1 ((v1.length : Int) - 1)).Count) + 1))))) ∧
 (¬ ((((ix v1 ((v1.length : Int) - 1)).Start) + ((ix v1 ((v1.length : Int) - 1)).Count)) = v2.1) →
 lenOk (v1 ++ ([(api_Extent.mk v2.1 1)] : List api_Extent)).length 16 ∧
 rec1 (r3, (v1 ++ ([(api_Extent.mk v2.1 1)] : List api_Extent))))) ∧
 (¬ (0 < (v1.length : Int)) →
 lenOk (v1 ++ ([(api_Extent.mk v2.1 1)] : List api_Extent)).length 16 ∧
 rec1 (r3, (v1 ++ ([(api_Extent.mk v2.1 1)] : List api_Extent))))
def Z27 (x0 : api_Bitmap) (Φ : List api_Extent → Prop) : Prop :=
 ∃ l4 : List (Int × Unit), bitmap_elements_1_I x0 0 l4 ∧
 LoopW (Z26 Φ) (l4, ([] : List api_Extent))
def Z28 (_ : Int) (x1 : api_Bitmap) (Φ : List api_Extent → Prop) : Prop :=
 Z27 x1 fun v1 =>
 Φ v1
def Z29 (x0 : api_Point) (Φ : List (List api_Extent) × Int → Prop) : (Int × List (List api_Extent)) → ((Int × List (List api_Extent)) → Prop) → Prop
 | (v3, v4), rec2 =>
 (v3 < (x0.Dirty.length : Int) →
 inX v3 x0.Dirty.length ∧
 Z28 v3 (ix x0.Dirty v3) fun v5 =>
 lenOk (v4 ++ ([v5] : List (List api_Extent))).length 24 ∧
 inI (v3 + 1) ∧
 rec2 ((v3 + 1), (v4 ++ ([v5] : List (List api_Extent))))) ∧
 (¬ (v3 < (x0.Dirty.length : Int)) →
 Φ (v4, 0))
def Z30 (x0 : api_Point) (Φ : List (List api_Extent) × Int → Prop) : Bool → Prop
 | v2 =>
 (v2 = true →
 Φ (([] : List (List api_Extent)), 2)) ∧
 (¬ (v2 = true) →
 LoopW (Z29 x0 Φ) (0, ([] : List (List api_Extent))))
def Z31 (x0 : api_Point) (x1 : Int) (Φ : List (List api_Extent) × Int → Prop) : Prop :=
 delta_Check_W x0 fun v1 =>
 (v1 ≠ 0 →
 Φ (([] : List (List api_Extent)), v1)) ∧
 (¬ (v1 ≠ 0) →
 Join (Z30 x0 Φ) fun J1 =>
 (x1 < 0 →
 J1 true) ∧
 (¬ (x1 < 0) →
 Z22 x0.Lineage fun v6 =>
 J1 (decide (v6 < x1))))
def Z32 (x0 : List Sec) (x1 : List Sec) (Φ : Bool → Prop) : Prop :=
 Φ (decide ((x0.length : Int) = (x1.length : Int)))
def Z33 (x0 : List (List Sec)) (x1 : List (List Sec)) (Φ : Bool → Prop) : (Int) → ((Int) → Prop) → Prop
 | v1, rec1 =>
 (v1 < (x0.length : Int) →
 inX v1 x0.length ∧
 inX v1 x1.length ∧
 Z32 (ix x0 v1) (ix x1 v1) fun v2 =>
 (¬ (v2 = true) →
 Φ false) ∧
 (¬ (¬ (v2 = true)) →
 inI (v1 + 1) ∧
 rec1 (v1 + 1))) ∧
 (¬ (v1 < (x0.length : Int)) →
 Φ true)
def delta_alike_W (x0 : List (List Sec)) (x1 : List (List Sec)) (Φ : Bool → Prop) : Prop :=
 ((x0.length : Int) ≠ (x1.length : Int) →
 Φ false) ∧
 (¬ ((x0.length : Int) ≠ (x1.length : Int)) →
 LoopW (Z33 x0 x1 Φ) 0)
def bitmap_Or_1_W (x0 : BitVec 64) (x1 : BitVec 64) (Φ : BitVec 64 → Prop) : Prop :=
 Φ (x0 ||| x1)
def bitmap_Or_L1 (x0 : api_Bitmap) (x1 : api_Bitmap) (Φ : api_Bitmap × Int → Prop) : (Int × List (BitVec 64)) → ((Int × List (BitVec 64)) → Prop) → Prop
 | (v3, v4), rec1 =>
 (v3 < ((List.replicate (x0.Words.length : Int).toNat (0#64 : BitVec 64)).length : Int) →
 inX v3 x0.Words.length ∧
 inX v3 x1.Words.length ∧
 ∃ v5 : BitVec 64 × Unit, bitmap_Or_1_W (ix x0.Words v3) (ix x1.Words v3) (fun z => (z, ()) = v5) ∧
 inX v3 v4.length ∧
 inI (v3 + 1) ∧
 rec1 ((v3 + 1), (put v4 v3 v5.1))) ∧
 (¬ (v3 < ((List.replicate (x0.Words.length : Int).toNat (0#64 : BitVec 64)).length : Int)) →
 Φ ((api_Bitmap.mk x0.Size v4), 0))
def bitmap_Or_W (x0 : api_Bitmap) (x1 : api_Bitmap) (Φ : api_Bitmap × Int → Prop) : Prop :=
 Z20 x0 fun v1 =>
 (v1 ≠ 0 →
 Φ ((api_Bitmap.mk 0 ([] : List (BitVec 64))), v1)) ∧
 (¬ (v1 ≠ 0) →
 Z20 x1 fun v2 =>
 (v2 ≠ 0 →
 Φ ((api_Bitmap.mk 0 ([] : List (BitVec 64))), v2)) ∧
 (¬ (v2 ≠ 0) →
 (x0.Size ≠ x1.Size →
 Φ ((api_Bitmap.mk 0 ([] : List (BitVec 64))), 22)) ∧
 (¬ (x0.Size ≠ x1.Size) →
 0 ≤ (x0.Words.length : Int) ∧
 lenOk (x0.Words.length : Int).toNat 8 ∧
 LoopW (bitmap_Or_L1 x0 x1 Φ) (0, (List.replicate (x0.Words.length : Int).toNat (0#64 : BitVec 64))))))
def Z34 (x0 : api_Point) (x1 : api_Point) (Φ : List (List api_Extent) → Prop) : (Int × List (List api_Extent)) → ((Int × List (List api_Extent)) → Prop) → Prop
 | (v1, v2), rec1 =>
 (v1 < ((List.replicate (x0.Dirty.length : Int).toNat (([] : List api_Extent) : List api_Extent)).length : Int) →
 inX v1 x0.Dirty.length ∧
 inX v1 x1.Dirty.length ∧
 ∃ v3 : api_Bitmap × Int × Unit, bitmap_Or_W (ix x0.Dirty v1) (ix x1.Dirty v1) (fun z => (z.1, z.2, ()) = v3) ∧
 Z27 v3.1 fun v4 =>
 inX v1 v2.length ∧
 inI (v1 + 1) ∧
 rec1 ((v1 + 1), (put v2 v1 v4))) ∧
 (¬ (v1 < ((List.replicate (x0.Dirty.length : Int).toNat (([] : List api_Extent) : List api_Extent)).length : Int)) →
 Φ v2)
def Z35 (x0 : api_Point) (x1 : api_Point) (Φ : List (List api_Extent) → Prop) : Prop :=
 0 ≤ (x0.Dirty.length : Int) ∧
 lenOk (x0.Dirty.length : Int).toNat 24 ∧
 LoopW (Z34 x0 x1 Φ) (0, (List.replicate (x0.Dirty.length : Int).toNat (([] : List api_Extent) : List api_Extent)))
def Z36 (x0 : api_Point) (x1 : api_Point) (Φ : List (List api_Extent) × Int → Prop) : (Int) → ((Int) → Prop) → Prop
 | v1, rec1 =>
 (v1 < (([x0, x1] : List api_Point).length : Int) →
 inX v1 ([x0, x1] : List api_Point).length ∧
 delta_Check_W (ix ([x0, x1] : List api_Point) v1) fun v2 =>
 (v2 ≠ 0 →
 Φ (([] : List (List api_Extent)), v2)) ∧
 (¬ (v2 ≠ 0) →
 inI (v1 + 1) ∧
 rec1 (v1 + 1))) ∧
 (¬ (v1 < (([x0, x1] : List api_Point).length : Int)) →
 delta_alike_W x0.Image x1.Image fun v3 =>
 (¬ (v3 = true) →
 Φ (([] : List (List api_Extent)), 22)) ∧
 (¬ (¬ (v3 = true)) →
 Z35 x0 x1 fun v4 =>
 Φ (v4, 0)))
def Z37 (x0 : api_Point) (x1 : api_Point) (Φ : List (List api_Extent) × Int → Prop) : Prop :=
 LoopW (Z36 x0 x1 Φ) 0
def Z38 (x0 : api_Point) (x1 : api_Point) (Φ : List (List api_Extent) × Int → Prop) : Prop :=
 Z37 x0 x1 fun v1 =>
 Φ (v1.1, v1.2)
def Z39 (x0 : List api_Span) (x1 : List api_Span) (v2 : Int) (v3 : Int) (v4 : Int) (rec2 : (Int × Int × Int) → Prop) (Φ : Int × Int → Prop) : Bool → Prop
 | v5 =>
 (v5 = true →
 inX v4 x0.length ∧
 inX v4 x1.length ∧
 inX v4 x0.length ∧
 inX v4 x0.length ∧
 inX v4 x1.length ∧
 (((ix x0 v4).To) ≠ ((ix x1 v4).To) →
 Φ ((if ((ix x1 v4).To) < ((ix x0 v4).To) then ((ix x1 v4).To) else ((ix x0 v4).To)), (ix x0 v4).Epoch)) ∧
 (¬ (((ix x0 v4).To) ≠ ((ix x1 v4).To)) →
 inI (v4 + 1) ∧
 rec2 ((if ((ix x1 v4).To) < ((ix x0 v4).To) then ((ix x1 v4).To) else ((ix x0 v4).To)), (ix x0 v4).Epoch, (v4 + 1)))) ∧
 (¬ (v5 = true) →
 Φ (v2, v3))
def Z40 (x0 : List api_Span) (x1 : List api_Span) (Φ : Int × Int → Prop) : (Int × Int × Int) → ((Int × Int × Int) → Prop) → Prop
 | (v2, v3, v4), rec2 =>
 Join (Z39 x0 x1 v2 v3 v4 rec2 Φ) fun J3 =>
 (v4 < (if (x1.length : Int) < (x0.length : Int) then (x1.length : Int) else (x0.length : Int)) →
 inX v4 x0.length ∧
 inX v4 x1.length ∧
 J3 (decide (((ix x0 v4).Epoch) = ((ix x1 v4).Epoch)))) ∧
 (¬ (v4 < (if (x1.length : Int) < (x0.length : Int) then (x1.length : Int) else (x0.length : Int))) →
 J3 false)
def Z41 (x0 : List api_Span) (x1 : List api_Span) (Φ : Int × Int → Prop) : Bool → Prop
 | v1 =>
 (v1 = true →
 Φ (0, 0)) ∧
 (¬ (v1 = true) →
 LoopW (Z40 x0 x1 Φ) (0, 0, 0))
def Z42 (x0 : List api_Span) (x1 : List api_Span) (Φ : Int × Int → Prop) : Prop :=
 Join (Z41 x0 x1 Φ) fun J1 =>
 Z13 x0 fun v6 =>
 (¬ (v6 = true) →
 J1 true) ∧
 (¬ (¬ (v6 = true)) →
 Z13 x1 fun v7 =>
 J1 (decide (¬ (v7 = true))))
def Z43 (x0 : List Int) (Φ : List Int → Prop) : Prop :=
 (x0 = [] →
 Φ ([] : List Int)) ∧
 (
 lenOk (([] : List Int) ++ x0).length 8 ∧
 Φ (([] : List Int) ++ x0))
def Z44 (x0 : List Sec) (Φ : List Sec → Prop) : Prop :=
 (x0 = [] →
 Φ ([] : List Sec)) ∧
 (
 lenOk (([] : List Sec) ++ x0).length 8 ∧
 Φ (([] : List Sec) ++ x0))
def image_New_1_W (x0 : Int) (Φ : List Sec → Prop) : Prop :=
 0 ≤ x0 ∧
 lenOk x0.toNat 8 ∧
 Φ (List.replicate x0.toNat (sec0 : Sec))
def image_New_L1 (x0 : List Int) (Φ : List (List Sec) × Int → Prop) : (Int × List (List Sec)) → ((Int × List (List Sec)) → Prop) → Prop
 | (v2, v3), rec1 =>
 (v2 < (x0.length : Int) →
 inX v2 x0.length ∧
 image_New_1_W (ix x0 v2) fun v4 =>
 lenOk (v3 ++ ([v4] : List (List Sec))).length 24 ∧
 inI (v2 + 1) ∧
 rec1 ((v2 + 1), (v3 ++ ([v4] : List (List Sec))))) ∧
 (¬ (v2 < (x0.length : Int)) →
 Φ (v3, 0))
def image_New_W (x0 : List Int) (Φ : List (List Sec) × Int → Prop) : Prop :=
 Z18 x0 fun v1 =>
 (v1 ≠ 0 →
 Φ (([] : List (List Sec)), v1)) ∧
 (¬ (v1 ≠ 0) →
 0 ≤ (x0.length : Int) ∧
 lenOk (x0.length : Int).toNat 24 ∧
 LoopW (image_New_L1 x0 Φ) (0, ([] : List (List Sec))))
def cycle_in_W (x0 : Int) (x1 : Int) (x2 : Int) (Φ : Bool → Prop) : Prop :=
 (x1 ≤ x0 →
 Φ (decide (x0 ≤ x2))) ∧
 (¬ (x1 ≤ x0) →
 Φ false)
def Z45 (x0 : Int) (Φ : Bool → Prop) : Prop :=
 cycle_in_W x0 0 1073741824 fun v1 =>
 Φ (decide (¬ (v1 = true)))
def Z46 (x0 : List Int) (Φ : Int → Prop) : (Int) → ((Int) → Prop) → Prop
 | v2, rec1 =>
 (v2 < (x0.length : Int) →
 inX v2 x0.length ∧
 Z45 (ix x0 v2) fun v3 =>
 (v3 = true →
 (0 ≤ v2 →
 Φ 2) ∧
 (¬ (0 ≤ v2) →
 Φ 0)) ∧
 (¬ (v3 = true) →
 inI (v2 + 1) ∧
 rec1 (v2 + 1))) ∧
 (¬ (v2 < (x0.length : Int)) →
 (0 ≤ ((-1) : Int) →
 Φ 2) ∧
 (¬ (0 ≤ ((-1) : Int)) →
 Φ 0))
def Z47 (x0 : List Int) (x1 : Int) (Φ : Int → Prop) : Prop :=
 cycle_in_W (x0.length : Int) x1 8 fun v1 =>
 (¬ (v1 = true) →
 Φ 6) ∧
 (¬ (¬ (v1 = true)) →
 LoopW (Z46 x0 Φ) 0)
def image_fits_J1 (x0 : List (List Sec)) (x1 : api_Write) (Φ : Int → Prop) : Bool → Prop
 | v1 =>
 (v1 = true →
 Φ 7) ∧
 (¬ (v1 = true) →
 ((x1.Data.length : Int) = 0 →
 Φ 1) ∧
 (¬ ((x1.Data.length : Int) = 0) →
 (x1.Start < 0 →
 Φ 2) ∧
 (¬ (x1.Start < 0) →
 inX x1.Volume x0.length ∧
 inI (((ix x0 x1.Volume).length : Int) - (x1.Data.length : Int)) ∧
 ((((ix x0 x1.Volume).length : Int) - (x1.Data.length : Int)) < x1.Start →
 Φ 2) ∧
 (¬ ((((ix x0 x1.Volume).length : Int) - (x1.Data.length : Int)) < x1.Start) →
 Φ 0))))
def image_fits_W (x0 : List (List Sec)) (x1 : api_Write) (Φ : Int → Prop) : Prop :=
 Join (image_fits_J1 x0 x1 Φ) fun J1 =>
 (x1.Volume < 0 →
 J1 true) ∧
 (¬ (x1.Volume < 0) →
 J1 (decide ((x0.length : Int) ≤ x1.Volume)))
def image_Fits_W (x0 : List (List Sec)) (x1 : api_Write) (Φ : Int → Prop) : Prop :=
 image_Check_W x0 fun v1 =>
 (v1 ≠ 0 →
 Φ v1) ∧
 (¬ (v1 ≠ 0) →
 image_fits_W x0 x1 fun v2 =>
 Φ v2)
def Z48 (x0 : List api_Write) (v1 : List (List Sec) × Int) (Φ : Int → Prop) : (Int) → ((Int) → Prop) → Prop
 | v2, rec1 =>
 (v2 < (x0.length : Int) →
 inX v2 x0.length ∧
 image_Fits_W v1.1 (ix x0 v2) fun v3 =>
 (v3 ≠ 0 →
 Φ v3) ∧
 (¬ (v3 ≠ 0) →
 (v2 = 0 →
 inI (v2 + 1) ∧
 rec1 (v2 + 1)) ∧
 (¬ (v2 = 0) →
 inI (v2 - 1) ∧
 inX (v2 - 1) x0.length ∧
 (((ix x0 v2).Volume) < ((ix x0 (v2 - 1)).Volume) →
 Φ 3) ∧
 (¬ (((ix x0 v2).Volume) < ((ix x0 (v2 - 1)).Volume)) →
 (((ix x0 v2).Volume) = ((ix x0 (v2 - 1)).Volume) →
 inI (((ix x0 (v2 - 1)).Start) + (((ix x0 (v2 - 1)).Data).length : Int)) ∧
 (((ix x0 v2).Start) ≤ (((ix x0 (v2 - 1)).Start) + (((ix x0 (v2 - 1)).Data).length : Int)) →
 Φ 3) ∧
 (¬ (((ix x0 v2).Start) ≤ (((ix x0 (v2 - 1)).Start) + (((ix x0 (v2 - 1)).Data).length : Int))) →
 inI (v2 + 1) ∧
 rec1 (v2 + 1))) ∧
 (¬ (((ix x0 v2).Volume) = ((ix x0 (v2 - 1)).Volume)) →
 inI (v2 + 1) ∧
 rec1 (v2 + 1)))))) ∧
 (¬ (v2 < (x0.length : Int)) →
 Φ 0)
def Z49 (x0 : List api_Write) (x1 : List Int) (Φ : Int → Prop) : Prop :=
 image_New_W x1 fun v1 =>
 (v1.2 ≠ 0 →
 Φ v1.2) ∧
 (¬ (v1.2 ≠ 0) →
 LoopW (Z48 x0 v1 Φ) 0)
def Z50 (x0 : api_Cycle) (x1 : List Int) (Φ : Int → Prop) : Bool → Prop
 | v2 =>
 (v2 = true →
 Φ 2) ∧
 (¬ (v2 = true) →
 cycle_in_W x0.Time 0 1073741824 fun v3 =>
 (¬ (v3 = true) →
 Φ 24) ∧
 (¬ (¬ (v3 = true)) →
 Z47 x0.Positions 0 fun v4 =>
 (v4 ≠ 0 →
 Φ v4) ∧
 (¬ (v4 ≠ 0) →
 Z49 x0.Writes x1 fun v5 =>
 Φ v5)))
def cycle_Check_W (x0 : api_Cycle) (x1 : List Int) (Φ : Int → Prop) : Prop :=
 image_New_W x1 fun v1 =>
 (v1.2 ≠ 0 →
 Φ v1.2) ∧
 (¬ (v1.2 ≠ 0) →
 Join (Z50 x0 x1 Φ) fun J1 =>
 (x0.Base < 0 →
 J1 true) ∧
 (¬ (x0.Base < 0) →
 (x0.Number ≤ x0.Base →
 J1 true) ∧
 (¬ (x0.Number ≤ x0.Base) →
 J1 (decide (1073741824 < x0.Number)))))
def Z51 (x1 : api_Point) (v1 : List (List api_Extent) × Int) (v5 : Int) (v6 : List Int) (rec2 : (Int × List Int × List api_Write) → Prop) (_ : api_Cycle × Int → Prop) : (Int × List api_Write) → ((Int × List api_Write) → Prop) → Prop
 | (v8, v9), rec3 =>
 (v8 < ((ix v1.1 v5).length : Int) →
 inX v8 (ix v1.1 v5).length ∧
 inI (((ix (ix v1.1 v5) v8).Start) + ((ix (ix v1.1 v5) v8).Count)) ∧
 inS ((ix (ix v1.1 v5) v8).Start) (((ix (ix v1.1 v5) v8).Start) + ((ix (ix v1.1 v5) v8).Count)) (ix x1.Image v5).length ∧
 ∃ v10 : List Sec × Unit, Z44 (sub (ix x1.Image v5) ((ix (ix v1.1 v5) v8).Start) (((ix (ix v1.1 v5) v8).Start) + ((ix (ix v1.1 v5) v8).Count))) (fun z => (z, ()) = v10) ∧
 lenOk (v9 ++ ([(api_Write.mk v5 ((ix (ix v1.1 v5) v8).Start) v10.1)] : List api_Write)).length 40 ∧
 inI (v8 + 1) ∧
 rec3 ((v8 + 1), (v9 ++ ([(api_Write.mk v5 ((ix (ix v1.1 v5) v8).Start) v10.1)] : List api_Write)))) ∧
 (¬ (v8 < ((ix v1.1 v5).length : Int)) →
 inI (v5 + 1) ∧
 rec2 ((v5 + 1), (v6 ++ ([((ix x1.Image v5).length : Int)] : List Int)), v9))
def Z52 (x1 : api_Point) (x2 : Int) (x3 : Int) (v1 : List (List api_Extent) × Int) (v2 : Int × Int) (v4 : List Int) (Φ : api_Cycle × Int → Prop) : (Int × List Int × List api_Write) → ((Int × List Int × List api_Write) → Prop) → Prop
 | (v5, v6, v7), rec2 =>
 (v5 < (x1.Image.length : Int) →
 inX v5 x1.Image.length ∧
 lenOk (v6 ++ ([((ix x1.Image v5).length : Int)] : List Int)).length 8 ∧
 inX v5 v1.1.length ∧
 LoopW (Z51 x1 v1 v5 v6 rec2 Φ) (0, v7)) ∧
 (¬ (v5 < (x1.Image.length : Int)) →
 cycle_Check_W (api_Cycle.mk v2.1 x2 x3 v4 v7) v6 fun v11 =>
 (v11 ≠ 0 →
 Φ ((api_Cycle.mk 0 0 0 ([] : List Int) ([] : List api_Write)), v11)) ∧
 (¬ (v11 ≠ 0) →
 Φ ((api_Cycle.mk v2.1 x2 x3 v4 v7), 0)))
def Z53 (x1 : api_Point) (x2 : Int) (x3 : Int) (x4 : List Int) (v1 : List (List api_Extent) × Int) (v2 : Int × Int) (Φ : api_Cycle × Int → Prop) : Bool → Prop
 | v3 =>
 (v3 = true →
 Φ ((api_Cycle.mk 0 0 0 ([] : List Int) ([] : List api_Write)), 2)) ∧
 (¬ (v3 = true) →
 Z43 x4 fun v4 =>
 LoopW (Z52 x1 x2 x3 v1 v2 v4 Φ) (0, ([] : List Int), ([] : List api_Write)))
def Z54 (x0 : api_Point) (x1 : api_Point) (x2 : Int) (x3 : Int) (x4 : List Int) (Φ : api_Cycle × Int → Prop) : Prop :=
 Z37 x0 x1 fun v1 =>
 (v1.2 ≠ 0 →
 Φ ((api_Cycle.mk 0 0 0 ([] : List Int) ([] : List api_Write)), v1.2)) ∧
 (¬ (v1.2 ≠ 0) →
 Z42 x0.Lineage x1.Lineage fun v2 =>
 Join (Z53 x1 x2 x3 x4 v1 v2 Φ) fun J1 =>
 (x2 ≤ v2.1 →
 J1 true) ∧
 (¬ (x2 ≤ v2.1) →
 Z22 x1.Lineage fun v12 =>
 J1 (decide (x2 < v12))))
def Z55 (x0 : List api_Extent) (x1 : List api_Extent) (Φ : Bool → Prop) : (Int) → ((Int) → Prop) → Prop
 | v1, rec1 =>
 (v1 < (x0.length : Int) →
 inX v1 x0.length ∧
 inX v1 x1.length ∧
 ((ix x0 v1) ≠ (ix x1 v1) →
 Φ false) ∧
 (¬ ((ix x0 v1) ≠ (ix x1 v1)) →
 inI (v1 + 1) ∧
 rec1 (v1 + 1))) ∧
 (¬ (v1 < (x0.length : Int)) →
 Φ true)
def Z56 (x0 : List api_Extent) (x1 : List api_Extent) (Φ : Bool → Prop) : Prop :=
 ((x0.length : Int) ≠ (x1.length : Int) →
 Φ false) ∧
 (¬ ((x0.length : Int) ≠ (x1.length : Int)) →
 LoopW (Z55 x0 x1 Φ) 0)
def Z57 (x0 : List (List api_Extent)) (x1 : List (List api_Extent)) (Φ : Bool → Prop) : (Int) → ((Int) → Prop) → Prop
 | v1, rec1 =>
 (v1 < (x0.length : Int) →
 inX v1 x0.length ∧
 inX v1 x1.length ∧
 ∃ v2 : Bool × Unit, Z56 (ix x0 v1) (ix x1 v1) (fun z => (z, ()) = v2) ∧
 (¬ (v2.1 = true) →
 Φ false) ∧
 (¬ (¬ (v2.1 = true)) →
 inI (v1 + 1) ∧
 rec1 (v1 + 1))) ∧
 (¬ (v1 < (x0.length : Int)) →
 Φ true)
def Z58 (x0 : List (List api_Extent)) (x1 : List (List api_Extent)) (Φ : Bool → Prop) : Prop :=
 ((x0.length : Int) ≠ (x1.length : Int) →
 Φ false) ∧
 (¬ ((x0.length : Int) ≠ (x1.length : Int)) →
 LoopW (Z57 x0 x1 Φ) 0)
def Z59 (v5 : List (List api_Extent) × Int) (v6 : List (List api_Extent) × Int) (v7 : api_Cycle × Int) (Φ : Bool → Prop) : Unit → Prop
 | _ =>
 Z58 v5.1 ([([(api_Extent.mk 0 1)] : List api_Extent)] : List (List api_Extent)) fun v8 =>
 (v8 = true →
 Z58 v6.1 ([([(api_Extent.mk 0 1), (api_Extent.mk 2 1)] : List api_Extent)] : List (List api_Extent)) fun v9 =>
 (v9 = true →
 inX 0 v7.1.Writes.length ∧
 inX 0 ((ix v7.1.Writes 0).Data).length ∧
 ((ix ((ix v7.1.Writes 0).Data) 0) = (Sec.mk (1#8) (0#8) (0#8) (0#8) (0#8) (0#8) (0#8) (0#8)) →
 inX 1 v7.1.Writes.length ∧
 inX 0 ((ix v7.1.Writes 1).Data).length ∧
 Φ (decide ((ix ((ix v7.1.Writes 1).Data) 0) = (Sec.mk (9#8) (0#8) (0#8) (0#8) (0#8) (0#8) (0#8) (0#8))))) ∧
 (¬ ((ix ((ix v7.1.Writes 0).Data) 0) = (Sec.mk (1#8) (0#8) (0#8) (0#8) (0#8) (0#8) (0#8) (0#8))) →
 Φ false)) ∧
 (¬ (v9 = true) →
 Φ false)) ∧
 (¬ (v8 = true) →
 Φ false)
def law47_awake_W (Φ : Bool → Prop) : Prop :=
 law47_one_W 0 (8#8) fun v1 =>
 law47_point_W 0 ([([(Sec.mk (1#8) (0#8) (0#8) (0#8) (0#8) (0#8) (0#8) (0#8)), (Sec.mk (2#8) (0#8) (0#8) (0#8) (0#8) (0#8) (0#8) (0#8)), (Sec.mk (3#8) (0#8) (0#8) (0#8) (0#8) (0#8) (0#8) (0#8))] : List Sec)] : List (List Sec)) ([(api_Span.mk 1 1 4)] : List api_Span) ([v1] : List api_Write) fun v2 =>
 law47_one_W 2 (9#8) fun v3 =>
 law47_point_W 1 ([([(Sec.mk (1#8) (0#8) (0#8) (0#8) (0#8) (0#8) (0#8) (0#8)), (Sec.mk (2#8) (0#8) (0#8) (0#8) (0#8) (0#8) (0#8) (0#8)), (Sec.mk (3#8) (0#8) (0#8) (0#8) (0#8) (0#8) (0#8) (0#8))] : List Sec)] : List (List Sec)) ([(api_Span.mk 1 1 4), (api_Span.mk 2 5 6)] : List api_Span) ([v3] : List api_Write) fun v4 =>
 Z31 v2 4 fun v5 =>
 Z38 v2 v4 fun v6 =>
 Z54 v2 v4 6 7 ([] : List Int) fun v7 =>
 Join (Z59 v5 v6 v7 Φ) fun J1 =>
 (v5.2 ≠ 0 →
 Φ false) ∧
 (¬ (v5.2 ≠ 0) →
 (v6.2 ≠ 0 →
 Φ false) ∧
 (¬ (v6.2 ≠ 0) →
 (v7.2 ≠ 0 →
 Φ false) ∧
 (¬ (v7.2 ≠ 0) →
 (v7.1.Base ≠ 4 →
 Φ false) ∧
 (¬ (v7.1.Base ≠ 4) →
 ((v7.1.Writes.length : Int) ≠ 2 →
 Φ false) ∧
 (¬ ((v7.1.Writes.length : Int) ≠ 2) →
 J1 ())))))
def ref07_New_L1 (x0 : List Int) (Φ : List (List Sec) × Int → Prop) : (Int × List (List Sec)) → ((Int × List (List Sec)) → Prop) → Prop
 | (v2, v3), rec1 =>
 (v2 < (x0.length : Int) →
 inX v2 x0.length ∧
 0 ≤ (ix x0 v2) ∧
 lenOk (ix x0 v2).toNat 8 ∧
 lenOk (v3 ++ ([(List.replicate (ix x0 v2).toNat (sec0 : Sec))] : List (List Sec))).length 24 ∧
 inI (v2 + 1) ∧
 rec1 ((v2 + 1), (v3 ++ ([(List.replicate (ix x0 v2).toNat (sec0 : Sec))] : List (List Sec))))) ∧
 (¬ (v2 < (x0.length : Int)) →
 Φ (v3, 0))
def ref07_New_W (x0 : List Int) (Φ : List (List Sec) × Int → Prop) : Prop :=
 ref07_Sizes_W x0 fun v1 =>
 (v1 ≠ 0 →
 Φ (([] : List (List Sec)), v1)) ∧
 (¬ (v1 ≠ 0) →
 LoopW (ref07_New_L1 x0 Φ) (0, ([] : List (List Sec))))
def law47_image_W (x0 : BitVec 8) (Φ : List (List Sec) → Prop) : Prop :=
 (0 ≤ (x0.toNat : Int) ∧ 12 ≠ (0 : Int)) ∧
 inI (1 + ((x0.toNat : Int) % 12)) ∧
 ref07_New_W ([(1 + ((x0.toNat : Int) % 12)), 4] : List Int) fun v1 =>
 Φ v1.1
def Z60 (x0 : List (List Sec)) (x1 : List api_Write) (v1 : Int) (v2 : List api_Write) (rec1 : (Int × List api_Write) → Prop) (Φ : List api_Write → Prop) : Bool → Prop
 | v3 =>
 (v3 = true →
 inX v1 x1.length ∧
 ref07_Fits_W x0 (ix x1 v1) fun v4 =>
 (v4 = 0 →
 inX v1 x1.length ∧
 lenOk (v2 ++ ([(ix x1 v1)] : List api_Write)).length 40 ∧
 inI (v1 + 1) ∧
 rec1 ((v1 + 1), (v2 ++ ([(ix x1 v1)] : List api_Write)))) ∧
 (¬ (v4 = 0) →
 inI (v1 + 1) ∧
 rec1 ((v1 + 1), v2))) ∧
 (¬ (v3 = true) →
 Φ v2)
def Z61 (x0 : List (List Sec)) (x1 : List api_Write) (Φ : List api_Write → Prop) : (Int × List api_Write) → ((Int × List api_Write) → Prop) → Prop
 | (v1, v2), rec1 =>
 Join (Z60 x0 x1 v1 v2 rec1 Φ) fun J2 =>
 (v1 < (x1.length : Int) →
 J2 (decide (v1 < 8))) ∧
 (¬ (v1 < (x1.length : Int)) →
 J2 false)
def Z62 (x0 : List (List Sec)) (x1 : List api_Write) (Φ : List api_Write → Prop) : Prop :=
 LoopW (Z61 x0 x1 Φ) (0, ([] : List api_Write))
def Z63 (x0 : Int) (x1 : Int) (x2 : Int) (Φ : Bool → Prop) : Prop :=
 (x1 ≤ x0 →
 Φ (decide (x0 ≤ x2))) ∧
 (¬ (x1 ≤ x0) →
 Φ false)
def Z64 (x0 : Int) (Φ : Bool → Prop) : Prop :=
 Z63 x0 0 3 fun v1 =>
 Φ v1
def bitmap_New_J1 (x0 : Int) (Φ : api_Bitmap × Int → Prop) : Bool → Prop
 | v1 =>
 (v1 = true →
 Φ ((api_Bitmap.mk 0 ([] : List (BitVec 64))), 2)) ∧
 (¬ (v1 = true) →
 Z19 x0 fun v2 =>
 0 ≤ v2 ∧
 lenOk v2.toNat 8 ∧
 Φ ((api_Bitmap.mk x0 (List.replicate v2.toNat (0#64 : BitVec 64))), 0))
def bitmap_New_W (x0 : Int) (Φ : api_Bitmap × Int → Prop) : Prop :=
 Join (bitmap_New_J1 x0 Φ) fun J1 =>
 (x0 < 0 →
 J1 true) ∧
 (¬ (x0 < 0) →
 J1 (decide (4096 < x0)))
def Z65 (x0 : List Int) (Φ : List api_Bitmap × Int → Prop) : (Int × List api_Bitmap) → ((Int × List api_Bitmap) → Prop) → Prop
 | (v1, v2), rec1 =>
 (v1 < (x0.length : Int) →
 inX v1 x0.length ∧
 bitmap_New_W (ix x0 v1) fun v3 =>
 (v3.2 ≠ 0 →
 Φ (([] : List api_Bitmap), v3.2)) ∧
 (¬ (v3.2 ≠ 0) →
 lenOk (v2 ++ ([v3.1] : List api_Bitmap)).length 32 ∧
 inI (v1 + 1) ∧
 rec1 ((v1 + 1), (v2 ++ ([v3.1] : List api_Bitmap))))) ∧
 (¬ (v1 < (x0.length : Int)) →
 Φ (v2, 0))
def Z66 (x0 : List Int) (Φ : List api_Bitmap × Int → Prop) : Prop :=
 LoopW (Z65 x0 Φ) (0, ([] : List api_Bitmap))
def Z67 (v5 : List (Int × api_Peer)) (v8 : List Int) (Φ : api_Tracker × Int → Prop) : (Int × List api_Peer) → ((Int × List api_Peer) → Prop) → Prop
 | (v9, v10), rec3 =>
 (v9 < ((sortZ (v5.map fun p => p.1)).length : Int) →
 inX v9 (sortZ (v5.map fun p => p.1)).length ∧
 lenOk (v10 ++ ([(mget v5 (ix (sortZ (v5.map fun p => p.1)) v9) (api_Peer.mk 0 0 ([] : List api_Bitmap)))] : List api_Peer)).length 40 ∧
 inI (v9 + 1) ∧
 rec3 ((v9 + 1), (v10 ++ ([(mget v5 (ix (sortZ (v5.map fun p => p.1)) v9) (api_Peer.mk 0 0 ([] : List api_Bitmap)))] : List api_Peer)))) ∧
 (¬ (v9 < ((sortZ (v5.map fun p => p.1)).length : Int)) →
 Φ ((api_Tracker.mk v8 v10), 0))
def Z68 (x0 : List Int) (x1 : List Int) (x2 : Int) (Φ : api_Tracker × Int → Prop) : (Int × (List (Int × api_Peer))) → ((Int × (List (Int × api_Peer))) → Prop) → Prop
 | (v4, v5), rec2 =>
 (v4 < (x1.length : Int) →
 inX v4 x1.length ∧
 ((mhas v5 (ix x1 v4)) = true →
 Φ ((api_Tracker.mk ([] : List Int) ([] : List api_Peer)), 8)) ∧
 (¬ ((mhas v5 (ix x1 v4)) = true) →
 Z66 x0 fun v6 =>
 (v6.2 ≠ 0 →
 Φ ((api_Tracker.mk ([] : List Int) ([] : List api_Peer)), v6.2)) ∧
 (¬ (v6.2 ≠ 0) →
 inI (v4 + 1) ∧
 rec2 ((v4 + 1), (mput v5 (ix x1 v4) (api_Peer.mk (ix x1 v4) x2 v6.1)))))) ∧
 (¬ (v4 < (x1.length : Int)) →
 Z63 x2 0 1073741824 fun v7 =>
 (¬ (v7 = true) →
 Φ ((api_Tracker.mk ([] : List Int) ([] : List api_Peer)), 2)) ∧
 (¬ (¬ (v7 = true)) →
 Z43 x0 fun v8 =>
 (v5.map fun p => p.1).Nodup ∧
 (∀ p, p ∈ v5 → inI p.1) ∧
 lenOk v5.length 8 ∧
 LoopW (Z67 v5 v8 Φ) (0, ([] : List api_Peer))))
def Z69 (x0 : List Int) (x1 : List Int) (x2 : Int) (Φ : api_Tracker × Int → Prop) : (Int) → ((Int) → Prop) → Prop
 | v2, rec1 =>
 (v2 < (x1.length : Int) →
 inX v2 x1.length ∧
 Z64 (ix x1 v2) fun v3 =>
 (¬ (v3 = true) →
 Φ ((api_Tracker.mk ([] : List Int) ([] : List api_Peer)), 2)) ∧
 (¬ (¬ (v3 = true)) →
 inI (v2 + 1) ∧
 rec1 (v2 + 1))) ∧
 (¬ (v2 < (x1.length : Int)) →
 LoopW (Z68 x0 x1 x2 Φ) (0, ([] : List (Int × api_Peer))))
def tracker_New_W (x0 : List Int) (x1 : List Int) (x2 : Int) (Φ : api_Tracker × Int → Prop) : Prop :=
 image_New_W x0 fun v1 =>
 (v1.2 ≠ 0 →
 Φ ((api_Tracker.mk ([] : List Int) ([] : List api_Peer)), v1.2)) ∧
 (¬ (v1.2 ≠ 0) →
 (4 < (x1.length : Int) →
 Φ ((api_Tracker.mk ([] : List Int) ([] : List api_Peer)), 6)) ∧
 (¬ (4 < (x1.length : Int)) →
 LoopW (Z69 x0 x1 x2 Φ) 0))
def Z70 (x0 : api_Bitmap) (x1 : Int) (Φ : Bool × Int → Prop) : Prop :=
 Z20 x0 fun v1 =>
 (v1 ≠ 0 →
 Φ (false, v1)) ∧
 (¬ (v1 ≠ 0) →
 (x0.Size ≠ x1 →
 Φ (false, 22)) ∧
 (¬ (x0.Size ≠ x1) →
 Φ (true, 0)))
def Z71 (x0 : List api_Bitmap) (x1 : List Int) (Φ : Int → Prop) : (Int × List Bool) → ((Int × List Bool) → Prop) → Prop
 | (v1, v2), rec1 =>
 (v1 < (x0.length : Int) →
 inX v1 x0.length ∧
 inX v1 x1.length ∧
 ∃ v3 : Bool × Int × Unit, Z70 (ix x0 v1) (ix x1 v1) (fun z => (z.1, z.2, ()) = v3) ∧
 (v3.2.1 ≠ 0 →
 Φ v3.2.1) ∧
 (¬ (v3.2.1 ≠ 0) →
 lenOk (v2 ++ ([v3.1] : List Bool)).length 1 ∧
 inI (v1 + 1) ∧
 rec1 ((v1 + 1), (v2 ++ ([v3.1] : List Bool))))) ∧
 (¬ (v1 < (x0.length : Int)) →
 Φ 0)
def Z72 (x0 : List api_Bitmap) (x1 : List Int) (Φ : Int → Prop) : Prop :=
 ((x0.length : Int) ≠ (x1.length : Int) →
 Φ 6) ∧
 (¬ ((x0.length : Int) ≠ (x1.length : Int)) →
 LoopW (Z71 x0 x1 Φ) (0, ([] : List Bool)))
def Z73 (x0 : api_Tracker) (Φ : Int → Prop) : (Int × Int) → ((Int × Int) → Prop) → Prop
 | (v2, v3), rec1 =>
 (v3 < (x0.Peers.length : Int) →
 inX v3 x0.Peers.length ∧
 Z64 ((ix x0.Peers v3).Site) fun v4 =>
 (¬ (v4 = true) →
 Φ 2) ∧
 (¬ (¬ (v4 = true)) →
 (((ix x0.Peers v3).Site) ≤ v2 →
 Φ 8) ∧
 (¬ (((ix x0.Peers v3).Site) ≤ v2) →
 Z63 ((ix x0.Peers v3).Common) 0 1073741824 fun v5 =>
 (¬ (v5 = true) →
 Φ 2) ∧
 (¬ (¬ (v5 = true)) →
 Z72 ((ix x0.Peers v3).Dirty) x0.Sizes fun v6 =>
 (v6 ≠ 0 →
 Φ v6) ∧
 (¬ (v6 ≠ 0) →
 inI (v3 + 1) ∧
 rec1 ((ix x0.Peers v3).Site, (v3 + 1))))))) ∧
 (¬ (v3 < (x0.Peers.length : Int)) →
 Φ 0)
def Z74 (x0 : api_Tracker) (Φ : Int → Prop) : Prop :=
 image_New_W x0.Sizes fun v1 =>
 (v1.2 ≠ 0 →
 Φ v1.2) ∧
 (¬ (v1.2 ≠ 0) →
 (4 < (x0.Peers.length : Int) →
 Φ 6) ∧
 (¬ (4 < (x0.Peers.length : Int)) →
 LoopW (Z73 x0 Φ) ((-1), 0)))
def Z75 (x0 : List (BitVec 64)) (Φ : List (BitVec 64) → Prop) : Prop :=
 (x0 = [] →
 Φ ([] : List (BitVec 64))) ∧
 (
 lenOk (([] : List (BitVec 64)) ++ x0).length 8 ∧
 Φ (([] : List (BitVec 64)) ++ x0))
def tracker_own_W (x0 : api_Bitmap) (Φ : api_Bitmap → Prop) : Prop :=
 ∃ v1 : List (BitVec 64) × Unit, Z75 x0.Words (fun z => (z, ()) = v1) ∧
 Φ (api_Bitmap.mk x0.Size v1.1)
def Z76 (x0 : List api_Bitmap) (Φ : List api_Bitmap → Prop) : (Int × List api_Bitmap) → ((Int × List api_Bitmap) → Prop) → Prop
 | (v1, v2), rec1 =>
 (v1 < (x0.length : Int) →
 inX v1 x0.length ∧
 tracker_own_W (ix x0 v1) fun v3 =>
 lenOk (v2 ++ ([v3] : List api_Bitmap)).length 32 ∧
 inI (v1 + 1) ∧
 rec1 ((v1 + 1), (v2 ++ ([v3] : List api_Bitmap)))) ∧
 (¬ (v1 < (x0.length : Int)) →
 Φ v2)
def Z77 (x0 : List api_Bitmap) (Φ : List api_Bitmap → Prop) : Prop :=
 LoopW (Z76 x0 Φ) (0, ([] : List api_Bitmap))
def bitmap_fits_W (x0 : api_Extent) (x1 : Int) (Φ : Bool → Prop) : Prop :=
 (0 ≤ x0.Start →
 (0 ≤ x0.Count →
 (x0.Start ≤ x1 →
 inI (x1 - x0.Start) ∧
 Φ (decide (x0.Count ≤ (x1 - x0.Start)))) ∧
 (¬ (x0.Start ≤ x1) →
 Φ false)) ∧
 (¬ (0 ≤ x0.Count) →
 Φ false)) ∧
 (¬ (0 ≤ x0.Start) →
 Φ false)
def Z78 (x0 : BitVec 64) (x1 : BitVec 64) (Φ : BitVec 64 → Prop) : Prop :=
 Φ (x0 ||| x1)
def bitmap_Set_L1 (x0 : api_Bitmap) (x1 : api_Extent) (v3 : List (BitVec 64)) (Φ : api_Bitmap × Int → Prop) : (Int × List (BitVec 64)) → ((Int × List (BitVec 64)) → Prop) → Prop
 | (v4, v5), rec1 =>
 (v4 < (v3.length : Int) →
 inX v4 v5.length ∧
 inI (x1.Start + x1.Count) ∧
 ∃ v6 : BitVec 64 × Unit, bitmap_mask_W v4 x1.Start (x1.Start + x1.Count) (fun z => (z, ()) = v6) ∧
 ∃ v7 : BitVec 64 × Unit, Z78 (ix v5 v4) v6.1 (fun z => (z, ()) = v7) ∧
 inX v4 v5.length ∧
 inI (v4 + 1) ∧
 rec1 ((v4 + 1), (put v5 v4 v7.1))) ∧
 (¬ (v4 < (v3.length : Int)) →
 Φ ((api_Bitmap.mk x0.Size v5), 0))
def bitmap_Set_W (x0 : api_Bitmap) (x1 : api_Extent) (Φ : api_Bitmap × Int → Prop) : Prop :=
 Z20 x0 fun v1 =>
 (v1 ≠ 0 →
 Φ ((api_Bitmap.mk 0 ([] : List (BitVec 64))), v1)) ∧
 (¬ (v1 ≠ 0) →
 bitmap_fits_W x1 x0.Size fun v2 =>
 (¬ (v2 = true) →
 Φ ((api_Bitmap.mk 0 ([] : List (BitVec 64))), 2)) ∧
 (¬ (¬ (v2 = true)) →
 Z75 x0.Words fun v3 =>
 LoopW (bitmap_Set_L1 x0 x1 v3 Φ) (0, v3)))
def Z79 (v8 : List ((Int × api_Peer) × List api_Bitmap)) (v10 : List Int) (Φ : api_Tracker × Int → Prop) : (Int × List api_Peer) → ((Int × List api_Peer) → Prop) → Prop
 | (v11, v12), rec3 =>
 (v11 < ((sortZ ((v8.map fun p => (p.1.1, (api_Peer.mk p.1.2.Site p.1.2.Common p.2))).map fun p => p.1)).length : Int) →
 inX v11 (sortZ ((v8.map fun p => (p.1.1, (api_Peer.mk p.1.2.Site p.1.2.Common p.2))).map fun p => p.1)).length ∧
 lenOk (v12 ++ ([(mget (v8.map fun p => (p.1.1, (api_Peer.mk p.1.2.Site p.1.2.Common p.2))) (ix (sortZ ((v8.map fun p => (p.1.1, (api_Peer.mk p.1.2.Site p.1.2.Common p.2))).map fun p => p.1)) v11) (api_Peer.mk 0 0 ([] : List api_Bitmap)))] : List api_Peer)).length 40 ∧
 inI (v11 + 1) ∧
 rec3 ((v11 + 1), (v12 ++ ([(mget (v8.map fun p => (p.1.1, (api_Peer.mk p.1.2.Site p.1.2.Common p.2))) (ix (sortZ ((v8.map fun p => (p.1.1, (api_Peer.mk p.1.2.Site p.1.2.Common p.2))).map fun p => p.1)) v11) (api_Peer.mk 0 0 ([] : List api_Bitmap)))] : List api_Peer)))) ∧
 (¬ (v11 < ((sortZ ((v8.map fun p => (p.1.1, (api_Peer.mk p.1.2.Site p.1.2.Common p.2))).map fun p => p.1)).length : Int)) →
 Φ ((api_Tracker.mk v10 v12), 0))
def Z80 (x1 : api_Write) (v7 : (Nat × List Nat)) (v8 : List ((Int × api_Peer) × List api_Bitmap)) (rec2 : (((Nat × List Nat)) × (List ((Int × api_Peer) × List api_Bitmap))) → Prop) (i9 : Nat) (Φ : api_Tracker × Int → Prop) : (Int × List api_Bitmap) → ((Int × List api_Bitmap) → Prop) → Prop
 | (v13, v14), rec4 =>
 (v13 < (([x1] : List api_Write).length : Int) →
 inX v13 ([x1] : List api_Write).length ∧
 inX ((ix ([x1] : List api_Write) v13).Volume) v14.length ∧
 ∃ v15 : api_Bitmap × Int × Unit, bitmap_Set_W (ix v14 ((ix ([x1] : List api_Write) v13).Volume)) (api_Extent.mk ((ix ([x1] : List api_Write) v13).Start) (((ix ([x1] : List api_Write) v13).Data).length : Int)) (fun z => (z.1, z.2, ()) = v15) ∧
 (v15.2.1 ≠ 0 →
 (v15.2.1 ≠ 0 →
 Φ ((api_Tracker.mk ([] : List Int) ([] : List api_Peer)), v15.2.1)) ∧
 (¬ (v15.2.1 ≠ 0) →
 False)) ∧
 (¬ (v15.2.1 ≠ 0) →
 inX ((ix ([x1] : List api_Write) v13).Volume) v14.length ∧
 inI (v13 + 1) ∧
 rec4 ((v13 + 1), (put v14 ((ix ([x1] : List api_Write) v13).Volume) v15.1)))) ∧
 (¬ (v13 < (([x1] : List api_Write).length : Int)) →
 ((0 : Int) ≠ 0 →
 Φ ((api_Tracker.mk ([] : List Int) ([] : List api_Peer)), 0)) ∧
 (¬ ((0 : Int) ≠ 0) →
 i9 < v8.length ∧
 (entD v8 i9).1.1 = ((entD v8 i9).1.1) ∧
 (∀ i, i < i9 → (entD v8 i).1.1 ≠ ((entD v8 i9).1.1)) ∧
 rec2 ((v7.1, (i9 :: v7.2)), (v8.set i9 ((((entD v8 i9).1.1), (api_Peer.mk (((entD v8 i9).1.2).Site) (((entD v8 i9).1.2).Common) ([] : List api_Bitmap))), v14)))))
def Z81 (x0 : api_Tracker) (x1 : api_Write) (Φ : api_Tracker × Int → Prop) : (((Nat × List Nat)) × (List ((Int × api_Peer) × List api_Bitmap))) → ((((Nat × List Nat)) × (List ((Int × api_Peer) × List api_Bitmap))) → Prop) → Prop
 | (v7, v8), rec2 =>
 v8.length = v7.1 ∧ ((∀ i, i < v8.length → i ∈ v7.2) →
 Z43 x0.Sizes fun v10 =>
 (∀ p, p ∈ v8 → true = true) ∧
 ((v8.map fun p => (p.1.1, (api_Peer.mk p.1.2.Site p.1.2.Common p.2))).map fun p => p.1).Nodup ∧
 (∀ p, p ∈ (v8.map fun p => (p.1.1, (api_Peer.mk p.1.2.Site p.1.2.Common p.2))) → inI p.1) ∧
 lenOk (v8.map fun p => (p.1.1, (api_Peer.mk p.1.2.Site p.1.2.Common p.2))).length 8 ∧
 LoopW (Z79 v8 v10 Φ) (0, ([] : List api_Peer))) ∧
 ∀ i9, i9 < v8.length → i9 ∉ v7.2 →
 v8.length = v7.1 ∧
 i9 < v8.length ∧
 i9 = i9 ∧
 LoopW (Z80 x1 v7 v8 rec2 i9 Φ) (0, (entD v8 i9).2)
def Z82 (x0 : api_Tracker) (x1 : api_Write) (Φ : api_Tracker × Int → Prop) : (Int × (List ((Int × api_Peer) × List api_Bitmap))) → ((Int × (List ((Int × api_Peer) × List api_Bitmap))) → Prop) → Prop
 | (v4, v5), rec1 =>
 (v4 < (x0.Peers.length : Int) →
 inX v4 x0.Peers.length ∧
 Z77 ((ix x0.Peers v4).Dirty) fun v6 =>
 mhas (v5.map fun p => p.1) ((ix x0.Peers v4).Site) = false ∧
 inI (v4 + 1) ∧
 rec1 ((v4 + 1), (v5 ++ [((((ix x0.Peers v4).Site), (api_Peer.mk ((ix x0.Peers v4).Site) ((ix x0.Peers v4).Common) ([] : List api_Bitmap))), v6)]))) ∧
 (¬ (v4 < (x0.Peers.length : Int)) →
 LoopW (Z81 x0 x1 Φ) ((v5.length, []), v5))
def Z83 (x0 : api_Tracker) (x1 : api_Write) (Φ : api_Tracker × Int → Prop) : Prop :=
 Z74 x0 fun v1 =>
 (v1 ≠ 0 →
 Φ ((api_Tracker.mk ([] : List Int) ([] : List api_Peer)), v1)) ∧
 (¬ (v1 ≠ 0) →
 image_New_W x0.Sizes fun v2 =>
 (v2.2 ≠ 0 →
 Φ ((api_Tracker.mk ([] : List Int) ([] : List api_Peer)), v2.2)) ∧
 (¬ (v2.2 ≠ 0) →
 image_Fits_W v2.1 x1 fun v3 =>
 (v3 ≠ 0 →
 Φ ((api_Tracker.mk ([] : List Int) ([] : List api_Peer)), v3)) ∧
 (¬ (v3 ≠ 0) →
 LoopW (Z82 x0 x1 Φ) (0, ([] : List ((Int × api_Peer) × List api_Bitmap))))))
def Z84 (x1 : List api_Extent) (Φ : api_Bitmap × Int → Prop) : (Int × Int × List (BitVec 64)) → ((Int × Int × List (BitVec 64)) → Prop) → Prop
 | (v2, v3, v4), rec1 =>
 (v2 < (x1.length : Int) →
 inX v2 x1.length ∧
 bitmap_Set_W (api_Bitmap.mk v3 v4) (ix x1 v2) fun v5 =>
 (v5.2 ≠ 0 →
 Φ ((api_Bitmap.mk 0 ([] : List (BitVec 64))), v5.2)) ∧
 (¬ (v5.2 ≠ 0) →
 inI (v2 + 1) ∧
 rec1 ((v2 + 1), v5.1.Size, v5.1.Words))) ∧
 (¬ (v2 < (x1.length : Int)) →
 Φ ((api_Bitmap.mk v3 v4), 0))
def Z85 (x0 : Int) (x1 : List api_Extent) (Φ : api_Bitmap × Int → Prop) : Prop :=
 bitmap_New_W x0 fun v1 =>
 (v1.2 ≠ 0 →
 Φ ((api_Bitmap.mk 0 ([] : List (BitVec 64))), v1.2)) ∧
 (¬ (v1.2 ≠ 0) →
 LoopW (Z84 x1 Φ) (0, v1.1.Size, v1.1.Words))
def Z86 (_ : Int) (x1 : api_Bitmap) (Φ : api_Bitmap → Prop) : Prop :=
 ∃ v1 : List (BitVec 64) × Unit, Z75 x1.Words (fun z => (z, ()) = v1) ∧
 Φ (api_Bitmap.mk x1.Size v1.1)
def Z87 (x0 : api_Tracker) (v9 : Int) (v10 : List api_Peer) (rec4 : (Int × List api_Peer) → Prop) (_ : api_Tracker × Int → Prop) : (Int × List api_Bitmap) → ((Int × List api_Bitmap) → Prop) → Prop
 | (v11, v12), rec5 =>
 (v11 < (((ix x0.Peers v9).Dirty).length : Int) →
 inX v11 ((ix x0.Peers v9).Dirty).length ∧
 Z86 v11 (ix ((ix x0.Peers v9).Dirty) v11) fun v13 =>
 lenOk (v12 ++ ([v13] : List api_Bitmap)).length 32 ∧
 inI (v11 + 1) ∧
 rec5 ((v11 + 1), (v12 ++ ([v13] : List api_Bitmap)))) ∧
 (¬ (v11 < (((ix x0.Peers v9).Dirty).length : Int)) →
 lenOk (v10 ++ ([(api_Peer.mk ((ix x0.Peers v9).Site) ((ix x0.Peers v9).Common) v12)] : List api_Peer)).length 40 ∧
 inI (v9 + 1) ∧
 rec4 ((v9 + 1), (v10 ++ ([(api_Peer.mk ((ix x0.Peers v9).Site) ((ix x0.Peers v9).Common) v12)] : List api_Peer))))
def Z88 (x0 : api_Tracker) (x1 : Int) (x2 : Int) (v2 : Int) (v3 : List Int) (v6 : List api_Bitmap) (Φ : api_Tracker × Int → Prop) : (Int × List api_Peer) → ((Int × List api_Peer) → Prop) → Prop
 | (v9, v10), rec4 =>
 (v9 < (x0.Peers.length : Int) →
 inX v9 x0.Peers.length ∧
 (v9 = v2 →
 lenOk (v10 ++ ([(api_Peer.mk x1 x2 v6)] : List api_Peer)).length 40 ∧
 inI (v9 + 1) ∧
 rec4 ((v9 + 1), (v10 ++ ([(api_Peer.mk x1 x2 v6)] : List api_Peer)))) ∧
 (¬ (v9 = v2) →
 LoopW (Z87 x0 v9 v10 rec4 Φ) (0, ([] : List api_Bitmap)))) ∧
 (¬ (v9 < (x0.Peers.length : Int)) →
 Φ ((api_Tracker.mk v3 v10), 0))
def Z89 (x0 : api_Tracker) (x1 : Int) (x2 : Int) (x3 : List (List api_Extent)) (v2 : Int) (v3 : List Int) (Φ : api_Tracker × Int → Prop) : (Int × List api_Bitmap) → ((Int × List api_Bitmap) → Prop) → Prop
 | (v5, v6), rec3 =>
 (v5 < (x0.Sizes.length : Int) →
 inX v5 x0.Sizes.length ∧
 inX v5 x3.length ∧
 Z85 (ix x0.Sizes v5) (ix x3 v5) fun v7 =>
 (v7.2 = 0 →
 inX v2 x0.Peers.length ∧
 inX v5 ((ix x0.Peers v2).Dirty).length ∧
 ∃ v8 : api_Bitmap × Int × Unit, bitmap_Or_W v7.1 (ix ((ix x0.Peers v2).Dirty) v5) (fun z => (z.1, z.2, ()) = v8) ∧
 (v8.2.1 ≠ 0 →
 Φ ((api_Tracker.mk ([] : List Int) ([] : List api_Peer)), v8.2.1)) ∧
 (¬ (v8.2.1 ≠ 0) →
 lenOk (v6 ++ ([v8.1] : List api_Bitmap)).length 32 ∧
 inI (v5 + 1) ∧
 rec3 ((v5 + 1), (v6 ++ ([v8.1] : List api_Bitmap))))) ∧
 (¬ (v7.2 = 0) →
 (v7.2 ≠ 0 →
 Φ ((api_Tracker.mk ([] : List Int) ([] : List api_Peer)), v7.2)) ∧
 (¬ (v7.2 ≠ 0) →
 lenOk (v6 ++ ([v7.1] : List api_Bitmap)).length 32 ∧
 inI (v5 + 1) ∧
 rec3 ((v5 + 1), (v6 ++ ([v7.1] : List api_Bitmap)))))) ∧
 (¬ (v5 < (x0.Sizes.length : Int)) →
 LoopW (Z88 x0 x1 x2 v2 v3 v6 Φ) (0, ([] : List api_Peer)))
def Z90 (x0 : api_Tracker) (x1 : Int) (x2 : Int) (x3 : List (List api_Extent)) (v2 : Int) (v3 : List Int) (Φ : api_Tracker × Int → Prop) : Bool → Prop
 | v4 =>
 (v4 = true →
 Φ ((api_Tracker.mk ([] : List Int) ([] : List api_Peer)), 2)) ∧
 (¬ (v4 = true) →
 ((x3.length : Int) ≠ (x0.Sizes.length : Int) →
 Φ ((api_Tracker.mk ([] : List Int) ([] : List api_Peer)), 6)) ∧
 (¬ ((x3.length : Int) ≠ (x0.Sizes.length : Int)) →
 LoopW (Z89 x0 x1 x2 x3 v2 v3 Φ) (0, ([] : List api_Bitmap))))
def Z91 (x0 : api_Tracker) (x1 : Int) (x2 : Int) (x3 : List (List api_Extent)) (v1 : Int) (Φ : api_Tracker × Int → Prop) : Int → Prop
 | v2 =>
 Z43 x0.Sizes fun v3 =>
 (v1 ≠ 0 →
 Φ ((api_Tracker.mk ([] : List Int) ([] : List api_Peer)), v1)) ∧
 (¬ (v1 ≠ 0) →
 (v2 < 0 →
 Φ ((api_Tracker.mk ([] : List Int) ([] : List api_Peer)), 7)) ∧
 (¬ (v2 < 0) →
 Join (Z90 x0 x1 x2 x3 v2 v3 Φ) fun J2 =>
 (x2 < 0 →
 J2 true) ∧
 (¬ (x2 < 0) →
 J2 (decide (1073741824 < x2)))))
def Z92 (x0 : api_Tracker) (x1 : Int) (x2 : Int) (x3 : List (List api_Extent)) (v1 : Int) (Φ : api_Tracker × Int → Prop) : (Int) → ((Int) → Prop) → Prop
 | v14, rec6 =>
 (v14 < (x0.Peers.length : Int) →
 inX v14 x0.Peers.length ∧
 (((ix x0.Peers v14).Site) = x1 →
 Z91 x0 x1 x2 x3 v1 Φ v14) ∧
 (¬ (((ix x0.Peers v14).Site) = x1) →
 inI (v14 + 1) ∧
 rec6 (v14 + 1))) ∧
 (¬ (v14 < (x0.Peers.length : Int)) →
 Z91 x0 x1 x2 x3 v1 Φ (-1))
def Z93 (x0 : api_Tracker) (x1 : Int) (x2 : Int) (x3 : List (List api_Extent)) (Φ : api_Tracker × Int → Prop) : Prop :=
 Z74 x0 fun v1 =>
 LoopW (Z92 x0 x1 x2 x3 v1 Φ) 0
def Z94 (x0 : api_Tracker) (x1 : Int) (Φ : List api_Bitmap × Int × Int → Prop) : (Int × (List (Int × api_Peer))) → ((Int × (List (Int × api_Peer))) → Prop) → Prop
 | (v2, v3), rec1 =>
 (v2 < (x0.Peers.length : Int) →
 inX v2 x0.Peers.length ∧
 Z77 ((ix x0.Peers v2).Dirty) fun v4 =>
 inI (v2 + 1) ∧
 rec1 ((v2 + 1), (mput v3 ((ix x0.Peers v2).Site) (api_Peer.mk ((ix x0.Peers v2).Site) ((ix x0.Peers v2).Common) v4)))) ∧
 (¬ (v2 < (x0.Peers.length : Int)) →
 (¬ ((mhas v3 x1) = true) →
 Φ (([] : List api_Bitmap), 0, 7)) ∧
 (¬ (¬ ((mhas v3 x1) = true)) →
 Φ ((mget v3 x1 (api_Peer.mk 0 0 ([] : List api_Bitmap))).Dirty, (mget v3 x1 (api_Peer.mk 0 0 ([] : List api_Bitmap))).Common, 0)))
def Z95 (x0 : api_Tracker) (x1 : Int) (Φ : List api_Bitmap × Int × Int → Prop) : Prop :=
 Z74 x0 fun v1 =>
 (v1 ≠ 0 →
 Φ (([] : List api_Bitmap), 0, v1)) ∧
 (¬ (v1 ≠ 0) →
 LoopW (Z94 x0 x1 Φ) (0, ([] : List (Int × api_Peer))))
def ref02_Same_L1 (x0 : api_Bitmap) (x1 : api_Bitmap) (Φ : Bool → Prop) : (Int) → ((Int) → Prop) → Prop
 | v1, rec1 =>
 (v1 < (x0.Words.length : Int) →
 inX v1 x0.Words.length ∧
 inX v1 x1.Words.length ∧
 ((ix x0.Words v1) ≠ (ix x1.Words v1) →
 Φ false) ∧
 (¬ ((ix x0.Words v1) ≠ (ix x1.Words v1)) →
 inI (v1 + 1) ∧
 rec1 (v1 + 1))) ∧
 (¬ (v1 < (x0.Words.length : Int)) →
 Φ true)
def ref02_Same_W (x0 : api_Bitmap) (x1 : api_Bitmap) (Φ : Bool → Prop) : Prop :=
 (x0.Size ≠ x1.Size →
 Φ false) ∧
 (¬ (x0.Size ≠ x1.Size) →
 ((x0.Words.length : Int) ≠ (x1.Words.length : Int) →
 Φ false) ∧
 (¬ ((x0.Words.length : Int) ≠ (x1.Words.length : Int)) →
 LoopW (ref02_Same_L1 x0 x1 Φ) 0))
def Z96 (x0 : List api_Bitmap) (x1 : List api_Bitmap) (Φ : Bool → Prop) : (Int) → ((Int) → Prop) → Prop
 | v1, rec1 =>
 (v1 < (x0.length : Int) →
 inX v1 x0.length ∧
 inX v1 x1.length ∧
 ∃ v2 : Bool × Unit, ref02_Same_W (ix x0 v1) (ix x1 v1) (fun z => (z, ()) = v2) ∧
 (¬ (v2.1 = true) →
 Φ false) ∧
 (¬ (¬ (v2.1 = true)) →
 inI (v1 + 1) ∧
 rec1 (v1 + 1))) ∧
 (¬ (v1 < (x0.length : Int)) →
 Φ true)
def Z97 (x0 : List api_Bitmap) (x1 : List api_Bitmap) (Φ : Bool → Prop) : Prop :=
 ((x0.length : Int) ≠ (x1.length : Int) →
 Φ false) ∧
 (¬ ((x0.length : Int) ≠ (x1.length : Int)) →
 LoopW (Z96 x0 x1 Φ) 0)
def ref02_Get_W (x0 : api_Bitmap) (x1 : Int) (Φ : Bool → Prop) : Prop :=
 ref02_Check_W x0 fun v1 =>
 (v1 = 0 →
 (0 ≤ x1 →
 (x1 < x0.Size →
 ref02_bit_W x0 x1 fun v2 =>
 Φ v2) ∧
 (¬ (x1 < x0.Size) →
 Φ false)) ∧
 (¬ (0 ≤ x1) →
 Φ false)) ∧
 (¬ (v1 = 0) →
 Φ false)
def Z98 (v12 : List api_Bitmap) (v26 : List api_Bitmap × Int × Int) (v29 : Int) (rec7 : (Int) → Prop) (Φ : Bool → Prop) : (Int) → ((Int) → Prop) → Prop
 | v30, rec8 =>
 inX v29 v12.length ∧
 (v30 < ((ix v12 v29).Size) →
 inX v29 v26.1.length ∧
 ref02_Get_W (ix v26.1 v29) v30 fun v31 =>
 (v30 = 0 →
 (v31 ≠ true →
 Φ false) ∧
 (¬ (v31 ≠ true) →
 inI (v30 + 1) ∧
 rec8 (v30 + 1))) ∧
 (¬ (v30 = 0) →
 inX v29 v12.length ∧
 ref02_Get_W (ix v12 v29) v30 fun v32 =>
 (v31 ≠ v32 →
 Φ false) ∧
 (¬ (v31 ≠ v32) →
 inI (v30 + 1) ∧
 rec8 (v30 + 1)))) ∧
 (¬ (v30 < ((ix v12 v29).Size)) →
 inI (v29 + 1) ∧
 rec7 (v29 + 1))
def Z99 (v12 : List api_Bitmap) (v26 : List api_Bitmap × Int × Int) (Φ : Bool → Prop) : (Int) → ((Int) → Prop) → Prop
 | v29, rec7 =>
 (v29 < (v12.length : Int) →
 LoopW (Z98 v12 v26 v29 rec7 Φ) 0) ∧
 (¬ (v29 < (v12.length : Int)) →
 law47_awake_W fun v33 =>
 Φ v33)
def Z100 (v5 : List api_Write) (v12 : List api_Bitmap) (v13 : Int) (v20 : Int) (v21 : Int) (v22 : List Int) (v23 : List api_Peer) (rec5 : (Int × Int × List Int × List api_Peer) → Prop) (Φ : Bool → Prop) : Bool → Prop
 | v24 =>
 (v24 = true →
 inX v21 v5.length ∧
 ∃ v25 : api_Tracker × Int × Unit, Z83 (api_Tracker.mk v22 v23) (ix v5 v21) (fun z => (z.1, z.2, ()) = v25) ∧
 inI (v21 + 1) ∧
 rec5 (v25.2.1, (v21 + 1), v25.1.Sizes, v25.1.Peers)) ∧
 (¬ (v24 = true) →
 Z95 (api_Tracker.mk v22 v23) 3 fun v26 =>
 Z95 (api_Tracker.mk v22 v23) 1 fun v27 =>
 (v13 ≠ 0 →
 Φ false) ∧
 (¬ (v13 ≠ 0) →
 (v20 ≠ 0 →
 Φ false) ∧
 (¬ (v20 ≠ 0) →
 (v26.2.2 ≠ 0 →
 Φ false) ∧
 (¬ (v26.2.2 ≠ 0) →
 (v27.2.2 ≠ 0 →
 Φ false) ∧
 (¬ (v27.2.2 ≠ 0) →
 (v26.2.1 ≠ 4 →
 Φ false) ∧
 (¬ (v26.2.1 ≠ 4) →
 (v27.2.1 ≠ 5 →
 Φ false) ∧
 (¬ (v27.2.1 ≠ 5) →
 Z97 v27.1 v12 fun v28 =>
 (¬ (v28 = true) →
 Φ false) ∧
 (¬ (¬ (v28 = true)) →
 ((v26.1.length : Int) ≠ (v12.length : Int) →
 Φ false) ∧
 (¬ ((v26.1.length : Int) ≠ (v12.length : Int)) →
 LoopW (Z99 v12 v26 Φ) 0)))))))))
def Z101 (v5 : List api_Write) (v12 : List api_Bitmap) (v13 : Int) (Φ : Bool → Prop) : (Int × Int × List Int × List api_Peer) → ((Int × Int × List Int × List api_Peer) → Prop) → Prop
 | (v20, v21, v22, v23), rec5 =>
 Join (Z100 v5 v12 v13 v20 v21 v22 v23 rec5 Φ) fun J6 =>
 (v21 < (v5.length : Int) →
 J6 (decide (v20 = 0))) ∧
 (¬ (v21 < (v5.length : Int)) →
 J6 false)
def Z102 (v4 : List api_Write) (v5 : List api_Write) (v9 : List (List api_Extent)) (v12 : List api_Bitmap) (v13 : Int) (v14 : Int) (v15 : List Int) (v16 : List api_Peer) (rec3 : (Int × Int × List Int × List api_Peer) → Prop) (Φ : Bool → Prop) : Bool → Prop
 | v17 =>
 (v17 = true →
 inX v14 v4.length ∧
 ∃ v18 : api_Tracker × Int × Unit, Z83 (api_Tracker.mk v15 v16) (ix v4 v14) (fun z => (z.1, z.2, ()) = v18) ∧
 inI (v14 + 1) ∧
 rec3 (v18.2.1, (v14 + 1), v18.1.Sizes, v18.1.Peers)) ∧
 (¬ (v17 = true) →
 Z93 (api_Tracker.mk v15 v16) 3 4 v9 fun v19 =>
 LoopW (Z101 v5 v12 v13 Φ) (v19.2, 0, v19.1.Sizes, v19.1.Peers))
def Z103 (v4 : List api_Write) (v5 : List api_Write) (v9 : List (List api_Extent)) (v12 : List api_Bitmap) (Φ : Bool → Prop) : (Int × Int × List Int × List api_Peer) → ((Int × Int × List Int × List api_Peer) → Prop) → Prop
 | (v13, v14, v15, v16), rec3 =>
 Join (Z102 v4 v5 v9 v12 v13 v14 v15 v16 rec3 Φ) fun J4 =>
 (v14 < (v4.length : Int) →
 J4 (decide (v13 = 0))) ∧
 (¬ (v14 < (v4.length : Int)) →
 J4 false)
def Z104 (v3 : List (List Sec)) (v4 : List api_Write) (v5 : List api_Write) (v7 : api_Tracker × Int) (Φ : Bool → Prop) : (Int × List (List api_Extent)) → ((Int × List (List api_Extent)) → Prop) → Prop
 | (v8, v9), rec2 =>
 (v8 < (v3.length : Int) →
 lenOk (v9 ++ ([([(api_Extent.mk 0 1)] : List api_Extent)] : List (List api_Extent))).length 24 ∧
 inI (v8 + 1) ∧
 rec2 ((v8 + 1), (v9 ++ ([([(api_Extent.mk 0 1)] : List api_Extent)] : List (List api_Extent))))) ∧
 (¬ (v8 < (v3.length : Int)) →
 Z2 v3 fun v10 =>
 ref43_Clean_W v10 fun v11 =>
 lenOk (([] : List api_Write) ++ v4).length 40 ∧
 lenOk ((([] : List api_Write) ++ v4) ++ v5).length 40 ∧
 ref43_Mark_W v11 ((([] : List api_Write) ++ v4) ++ v5) fun v12 =>
 LoopW (Z103 v4 v5 v9 v12 Φ) (v7.2, 0, v7.1.Sizes, v7.1.Peers))
def Z105 (x0 : BitVec 8) (x1 : List api_Write) (x2 : List api_Write) (Φ : Bool → Prop) : Bool → Prop
 | v1 =>
 (v1 = true →
 law47_awake_W fun v2 =>
 Φ v2) ∧
 (¬ (v1 = true) →
 law47_image_W x0 fun v3 =>
 Z62 v3 x1 fun v4 =>
 Z62 v3 x2 fun v5 =>
 Z2 v3 fun v6 =>
 tracker_New_W v6 ([1, 3] : List Int) 5 fun v7 =>
 LoopW (Z104 v3 v4 v5 v7 Φ) (0, ([] : List (List api_Extent))))
def Z106 (x0 : BitVec 8) (x1 : List api_Write) (x2 : List api_Write) (Φ : Bool → Prop) : Prop :=
 Join (Z105 x0 x1 x2 Φ) fun J1 =>
 law47_small_W x1 fun v34 =>
 (¬ (v34 = true) →
 J1 true) ∧
 (¬ (¬ (v34 = true)) →
 law47_small_W x2 fun v35 =>
 J1 (decide (¬ (v35 = true))))
def ghT : Hp → Prop := fun _ => True
def gh : Hp → Prop := fun H => TabH H 0
theorem ghUp : GUp gh := fun _ _ h hle => h.mono hle
def ct4 : Ct DD := ⟨4, [22], [4], [[false]], true, fun x Φ => law47_small_W x.1 fun y => Φ (y, ())⟩
def pl4 : List PE := [⟨[4, 1, 0, 1], [], [], ⟨[.int], [(0, .kp 0), (3, .v .int)], [], [], []⟩, false⟩]
def ct18 : Ct DD := ⟨18, [3, 5], [47], [[false, false, true]], false, fun x Φ => law47_one_W x.1 x.2.1 fun y => Φ (y, ())⟩
def pl18 : List PE := []
def ct9 : Ct DD := ⟨9, [26], [29], [[true]], false, fun x Φ => Z2 x.1 fun y => Φ (y, ())⟩
def pl9 : List PE := [⟨[4, 1, 0, 1, 1], [], [], ⟨[.int, .lst 3], [(0, .kp 0), (3, .own 0), (4, .v .int)], [], [3], []⟩, false⟩]
def ct60 : Ct DD := ⟨60, [29], [3], [[false]], true, fun x Φ => ref07_Sizes_W x.1 fun y => Φ (y, ())⟩
def pl60 : List PE := [⟨[4, 1, 0, 1, 1], [], [], ⟨[.int], [(0, .kp 0), (3, .v .int)], [], [], []⟩, false⟩]
def ct61 : Ct DD := ⟨61, [26], [3], [[false]], true, fun x Φ => ref07_Check_W x.1 fun y => Φ (y, ())⟩
def pl61 : List PE := []
def ct62 : Ct DD := ⟨62, [29, 47], [3], [[false]], true, fun x Φ => Z4 x.1 x.2.1 fun y => Φ (y, ())⟩
def pl62 : List PE := []
def ct24 : Ct DD := ⟨24, [26, 47], [3], [[false]], true, fun x Φ => ref07_Fits_W x.1 x.2.1 fun y => Φ (y, ())⟩
def pl24 : List PE := []
def ct49 : Ct DD := ⟨49, [26, 22], [26, 3, 3], [[true], [false], [false]], false, fun x Φ => ref07_Apply_W x.1 x.2.1 fun y => Φ (y.1, y.2.1, y.2.2, ())⟩
def ct33 : Ct DD := ⟨33, [3], [54, 3], [[false, true], [false]], false, fun x Φ => ref02_New_W x.1 fun y => Φ (y.1, y.2, ())⟩
def pl33 : List PE := [⟨[0, 1], [], [0], ⟨[.bool], [(0, .kp 1), (2, .kp 2), (9, .v .bool)], [], [], []⟩, true⟩]
def ct11 : Ct DD := ⟨11, [29], [41], [[true]], false, fun x Φ => ref43_Clean_W x.1 fun y => Φ (y, ())⟩
def pl11 : List PE := [⟨[4, 1, 0, 1, 1], [], [], ⟨[.int, .lst 54], [(0, .kp 0), (3, .own 0), (4, .v .int)], [], [54], []⟩, false⟩]
def ct31 : Ct DD := ⟨31, [54], [54], [[false, true]], false, fun x Φ => ref02_Copy_W x.1 fun y => Φ (y, ())⟩
def pl31 : List PE := []
def ct48 : Ct DD := ⟨48, [54, 3], [4], [[false]], true, fun x Φ => ref02_bit_W x.1 x.2.1 fun y => Φ (y, ())⟩
def pl48 : List PE := []
def ct47 : Ct DD := ⟨47, [54], [3], [[false]], true, fun x Φ => ref02_Check_W x.1 fun y => Φ (y, ())⟩
def pl47 : List PE := [⟨[4, 1, 0, 1, 1], [], [0], ⟨[.int], [(1, .kp 2), (3, .v .int)], [], [], []⟩, false⟩]
def ct93 : Ct DD := ⟨93, [39, 3], [4], [[false]], true, fun x Φ => ref02_Fits_W x.1 x.2.1 fun y => Φ (y, ())⟩
def pl93 : List PE := []
def ct69 : Ct DD := ⟨69, [54, 39, 4], [54, 3], [[false, true], [false]], false, fun x Φ => Z11 x.1 x.2.1 x.2.2.1 fun y => Φ (y.1, y.2, ())⟩
def pl69 : List PE := [⟨[4, 1, 0, 1, 1, 1, 1], [], [2, 1, 0], ⟨[.int, .lst 106], [(2, .kp 7), (4, .kp 9), (6, .kp 10), (8, .kp 22), (9, .v .int)], [(4, 54, [.kp 26,.own 0])], [106], []⟩, false⟩]
def ct32 : Ct DD := ⟨32, [54, 39], [54, 3], [[false, true], [false]], false, fun x Φ => ref02_Set_W x.1 x.2.1 fun y => Φ (y.1, y.2, ())⟩
def pl32 : List PE := []
def ct10 : Ct DD := ⟨10, [41, 22], [41], [[true]], false, fun x Φ => ref43_Mark_W x.1 x.2.1 fun y => Φ (y, ())⟩
def pl10 : List PE := [⟨[4, 1, 0, 1, 1], [], [], ⟨[.int, .lst 54], [(0, .kp 0), (1, .kp 1), (5, .own 0), (6, .v .int)], [], [54], []⟩, false⟩, ⟨[4, 1, 0, 1, 1, 1], [], [], ⟨[.int, .lst 54], [(1, .kp 1), (5, .own 0), (7, .v .int)], [], [54], []⟩, false⟩]
def ct17 : Ct DD := ⟨17, [3, 26, 59, 22], [61], [[false, false, true, true]], false, fun x Φ => law47_point_W x.1 x.2.1 x.2.2.1 x.2.2.2.1 fun y => Φ (y, ())⟩
def pl17 : List PE := []
def ct78 : Ct DD := ⟨78, [3, 3], [4], [[false]], true, fun x Φ => delta_in_W x.1 x.2.1 fun y => Φ (y, ())⟩
def pl78 : List PE := []
def ct79 : Ct DD := ⟨79, [59], [4], [[false]], true, fun x Φ => Z13 x.1 fun y => Φ (y, ())⟩
def pl79 : List PE := [⟨[4, 1, 0, 1, 1], [], [], ⟨[.int, .int, .int, .int], [(3, .kp 4), (7, .kp 5), (8, .kp 6), (9, .v .int)], [(0, 64, [.v .int,.v .int,.v .int])], [], []⟩, false⟩]
def ct113 : Ct DD := ⟨113, [45], [3], [[false]], true, fun x Φ => Z14 x.1 fun y => Φ (y, ())⟩
def pl113 : List PE := []
def ct96 : Ct DD := ⟨96, [26], [29], [[true]], false, fun x Φ => image_sizes_W x.1 fun y => Φ (y, ())⟩
def pl96 : List PE := [⟨[4, 1, 0, 1, 1, 11, 0, 1], [], [], ⟨[.int, .lst 3], [(1, .kp 2), (5, .own 0), (11, .kp 8), (12, .kp 9), (13, .v .int)], [], [3], []⟩, false⟩]
def ct88 : Ct DD := ⟨88, [3], [4], [[false]], true, fun x Φ => Z16 x.1 fun y => Φ (y, ())⟩
def pl88 : List PE := []
def ct63 : Ct DD := ⟨63, [29], [33], [[false]], true, fun x Φ => Z18 x.1 fun y => Φ (y, ())⟩
def pl63 : List PE := [⟨[4, 1, 0, 1, 12, 0, 1, 11, 0, 0, 1, 1], [], [], ⟨[.int], [(0, .kp 0), (1, .kp 1), (7, .kp 4), (8, .v .int)], [], [], []⟩, false⟩]
def ct71 : Ct DD := ⟨71, [26], [33], [[false]], true, fun x Φ => image_Check_W x.1 fun y => Φ (y, ())⟩
def pl71 : List PE := []
def ct89 : Ct DD := ⟨89, [3], [3], [[false]], true, fun x Φ => Z19 x.1 fun y => Φ (y, ())⟩
def pl89 : List PE := []
def ct80 : Ct DD := ⟨80, [54], [33], [[false]], true, fun x Φ => Z20 x.1 fun y => Φ (y, ())⟩
def pl80 : List PE := []
def ct50 : Ct DD := ⟨50, [61], [33], [[false]], true, fun x Φ => delta_Check_W x.1 fun y => Φ (y, ())⟩
def pl50 : List PE := [⟨[4, 1, 0, 1, 1, 1, 1], [], [0], ⟨[.int], [(1, .kp 2), (31, .kp 28), (32, .kp 29), (33, .v .int)], [], [], []⟩, false⟩]
def ct51 : Ct DD := ⟨51, [59], [3], [[false]], true, fun x Φ => Z22 x.1 fun y => Φ (y, ())⟩
def pl51 : List PE := []
def ct101 : Ct DD := ⟨101, [3, 3, 3], [106], [[false]], true, fun x Φ => bitmap_mask_W x.1 x.2.1 x.2.2.1 fun y => Φ (y, ())⟩
def pl101 : List PE := []
def ct102 : Ct DD := ⟨102, [106], [3], [[false]], true, fun x Φ => Z23 x.1 fun y => Φ (y, ())⟩
def it100 : It DD := ⟨100, [54, 3], [3], fun x l => bitmap_elements_1_I x.1 x.2.1 l⟩
def pl100 : List PE := [⟨[4, 1, 1], [], [], ⟨[.int], [(0, .kp 0), (1, .kp 3), (2, .kp 4), (10, .kp 9), (11, .kp 10), (12, .v .int)], [], [], []⟩, false⟩, ⟨[4, 1, 1, 4, 0, 1, 1, 5, 4, 1, 1], [], [], ⟨[.word], [(0, .kp 0), (1, .kp 3), (2, .kp 4), (4, .kp 17), (5, .v .word), (10, .kp 9), (11, .kp 10), (12, .kp 12)], [], [], []⟩, false⟩]
def ct54 : Ct DD := ⟨54, [54], [40], [[true]], false, fun x Φ => Z27 x.1 fun y => Φ (y, ())⟩
def pl54 : List PE := [⟨[4, 1, 0, 1, 1], [2, 3], [3, 2, 0], ⟨[.lst 39], [], [(1, 40, [.own 0])], [39], []⟩, false⟩]
def ct53 : Ct DD := ⟨53, [3, 54], [40], [[true]], false, fun x Φ => Z28 x.1 x.2.1 fun y => Φ (y, ())⟩
def pl53 : List PE := []
def ct19 : Ct DD := ⟨19, [61, 3], [37, 33], [[true], [false]], false, fun x Φ => Z31 x.1 x.2.1 fun y => Φ (y.1, y.2, ())⟩
def pl19 : List PE := [⟨[4, 1, 0, 1, 1, 12, 0, 1, 1, 1], [], [0], ⟨[.int, .lst 40], [(1, .kp 15), (5, .own 0), (8, .kp 13), (9, .kp 18), (10, .v .int)], [], [40], []⟩, false⟩, ⟨[0, 1, 1], [], [0], ⟨[.bool], [(2, .kp 3), (20, .v .bool)], [], [], []⟩, true⟩]
def ct104 : Ct DD := ⟨104, [45, 45], [4], [[false]], true, fun x Φ => Z32 x.1 x.2.1 fun y => Φ (y, ())⟩
def pl104 : List PE := []
def ct82 : Ct DD := ⟨82, [26, 26], [4], [[false]], true, fun x Φ => delta_alike_W x.1 x.2.1 fun y => Φ (y, ())⟩
def pl82 : List PE := [⟨[4, 1, 0, 1, 1, 12, 0, 1], [], [], ⟨[.int], [(1, .kp 1), (2, .kp 2), (15, .kp 9), (16, .kp 10), (17, .v .int)], [], [], []⟩, false⟩]
def ct76 : Ct DD := ⟨76, [106, 106], [106], [[false]], true, fun x Φ => bitmap_Or_1_W x.1 x.2.1 fun y => Φ (y, ())⟩
def pl76 : List PE := []
def ct42 : Ct DD := ⟨42, [54, 54], [54, 33], [[false, true], [false]], false, fun x Φ => bitmap_Or_W x.1 x.2.1 fun y => Φ (y.1, y.2, ())⟩
def pl42 : List PE := [⟨[4, 1, 0, 1, 1, 1, 1, 1, 12, 0, 1], [], [5, 4, 3, 2, 1, 0], ⟨[.int, .lst 106], [(2, .kp 9), (3, .kp 10), (4, .kp 11), (6, .kp 12), (10, .own 0), (35, .kp 35), (36, .v .int)], [], [106], []⟩, false⟩]
def ct83 : Ct DD := ⟨83, [61, 61], [37], [[true]], false, fun x Φ => Z35 x.1 x.2.1 fun y => Φ (y, ())⟩
def pl83 : List PE := [⟨[4, 1, 0, 1, 1], [], [1, 0], ⟨[.int, .lst 40], [(2, .kp 5), (3, .kp 6), (5, .own 0), (14, .kp 14), (15, .v .int)], [], [40], []⟩, false⟩]
def ct55 : Ct DD := ⟨55, [61, 61], [37, 33], [[true], [false]], false, fun x Φ => Z37 x.1 x.2.1 fun y => Φ (y.1, y.2, ())⟩
def pl55 : List PE := [⟨[4, 1, 0, 1], [], [2, 1, 0], ⟨[.int], [(2, .kp 5), (3, .kp 6), (11, .kp 11), (12, .kp 12), (13, .v .int)], [], [], []⟩, false⟩]
def ct20 : Ct DD := ⟨20, [61, 61], [37, 33], [[true], [false]], false, fun x Φ => Z38 x.1 x.2.1 fun y => Φ (y.1, y.2, ())⟩
def pl20 : List PE := []
def ct56 : Ct DD := ⟨56, [59, 59], [3, 3], [[false], [false]], true, fun x Φ => Z42 x.1 x.2.1 fun y => Φ (y.1, y.2, ())⟩
def pl56 : List PE := [⟨[4, 1, 0, 1, 1, 1], [], [], ⟨[.int, .int, .int], [(0, .kp 0), (1, .kp 1), (6, .v .int), (7, .v .int), (8, .v .int)], [], [], []⟩, false⟩, ⟨[0, 5, 4, 1, 0, 1, 1, 1], [], [], ⟨[.bool], [(0, .kp 0), (1, .kp 1), (6, .kp 8), (7, .kp 9), (8, .kp 10), (36, .v .bool)], [], [], []⟩, true⟩, ⟨[0, 1], [], [], ⟨[.bool], [(0, .kp 0), (1, .kp 1), (16, .v .bool)], [], [], []⟩, true⟩]
def ct29 : Ct DD := ⟨29, [29], [29], [[true]], false, fun x Φ => Z43 x.1 fun y => Φ (y, ())⟩
def pl29 : List PE := []
def ct57 : Ct DD := ⟨57, [45], [45], [[true]], false, fun x Φ => Z44 x.1 fun y => Φ (y, ())⟩
def pl57 : List PE := []
def ct65 : Ct DD := ⟨65, [3], [45], [[true]], false, fun x Φ => image_New_1_W x.1 fun y => Φ (y, ())⟩
def pl65 : List PE := []
def ct25 : Ct DD := ⟨25, [29], [26, 33], [[true], [false]], false, fun x Φ => image_New_W x.1 fun y => Φ (y.1, y.2, ())⟩
def pl25 : List PE := [⟨[4, 1, 0, 1, 1, 11, 0, 1, 1], [], [], ⟨[.int, .lst 45], [(1, .kp 2), (5, .own 0), (11, .kp 8), (12, .kp 9), (13, .v .int)], [], [45], []⟩, false⟩]
def ct84 : Ct DD := ⟨84, [3, 3, 3], [4], [[false]], true, fun x Φ => cycle_in_W x.1 x.2.1 x.2.2.1 fun y => Φ (y, ())⟩
def pl84 : List PE := []
def ct105 : Ct DD := ⟨105, [3], [4], [[false]], true, fun x Φ => Z45 x.1 fun y => Φ (y, ())⟩
def pl105 : List PE := []
def ct85 : Ct DD := ⟨85, [29, 3], [33], [[false]], true, fun x Φ => Z47 x.1 x.2.1 fun y => Φ (y, ())⟩
def pl85 : List PE := [⟨[4, 1, 0, 1, 12, 0, 1, 11, 0, 0, 1, 1], [], [], ⟨[.int], [(0, .kp 0), (1, .kp 1), (7, .kp 4), (8, .v .int)], [], [], []⟩, false⟩]
def ct72 : Ct DD := ⟨72, [26, 47], [33], [[false]], true, fun x Φ => image_fits_W x.1 x.2.1 fun y => Φ (y, ())⟩
def pl72 : List PE := [⟨[4, 0, 1], [], [0], ⟨[.bool], [(0, .kp 1), (3, .kp 3), (5, .v .bool)], [], [], []⟩, true⟩]
def ct35 : Ct DD := ⟨35, [26, 47], [33], [[false]], true, fun x Φ => image_Fits_W x.1 x.2.1 fun y => Φ (y, ())⟩
def pl35 : List PE := []
def ct86 : Ct DD := ⟨86, [22, 29], [33], [[false]], true, fun x Φ => Z49 x.1 x.2.1 fun y => Φ (y, ())⟩
def pl86 : List PE := [⟨[4, 1, 0, 1, 12, 0, 1, 1, 1], [0], [1, 0], ⟨[.int], [(0, .kp 2), (1, .kp 3), (9, .kp 5), (10, .kp 6), (11, .v .int)], [], [], []⟩, false⟩]
def ct58 : Ct DD := ⟨58, [70, 29], [33], [[false]], true, fun x Φ => cycle_Check_W x.1 x.2.1 fun y => Φ (y, ())⟩
def pl58 : List PE := [⟨[4, 0, 1, 1], [], [1, 0], ⟨[.bool], [(1, .kp 3), (2, .kp 4), (16, .v .bool)], [], [], []⟩, true⟩]
def ct21 : Ct DD := ⟨21, [61, 61, 3, 3, 29], [70, 33], [[false, false, false, true, true], [false]], false, fun x Φ => Z54 x.1 x.2.1 x.2.2.1 x.2.2.2.1 x.2.2.2.2.1 fun y => Φ (y.1, y.2, ())⟩
def pl21 : List PE := [⟨[4, 1, 0, 1, 1, 1, 1, 1, 1, 1], [], [46, 3, 2, 1, 0], ⟨[.int, .lst 3, .lst 47], [(10, .kp 11), (12, .kp 19), (16, .kp 51), (17, .own 0), (59, .kp 41), (60, .kp 54), (61, .v .int)], [(47, 70, [.kp 56,.kp 57,.kp 58,.kp 59,.own 1])], [3, 47], []⟩, false⟩, ⟨[4, 1, 1, 1, 4, 0, 1, 1, 5, 4, 1, 0, 1, 1, 1, 1, 1, 1, 1], [], [63, 64], ⟨[.int, .lst 47], [(10, .kp 11), (12, .kp 19), (16, .kp 51), (17, .kp 65), (18, .kp 71), (19, .kp 72), (59, .kp 41), (60, .kp 54), (61, .kp 66), (74, .kp 80), (75, .kp 81), (76, .v .int)], [(47, 70, [.kp 56,.kp 57,.kp 58,.kp 59,.own 0])], [47], []⟩, false⟩, ⟨[0, 1, 1, 1, 1], [], [3, 2, 1, 0], ⟨[.bool], [(2, .kp 6), (3, .kp 7), (4, .kp 8), (6, .kp 10), (10, .kp 11), (12, .kp 19), (14, .kp 31), (50, .v .bool)], [], [], []⟩, true⟩]
def ct59 : Ct DD := ⟨59, [40, 40], [4], [[false]], true, fun x Φ => Z56 x.1 x.2.1 fun y => Φ (y, ())⟩
def pl59 : List PE := [⟨[4, 1, 0, 1, 1], [], [], ⟨[.int], [(0, .kp 0), (1, .kp 1), (5, .v .int)], [], [], []⟩, false⟩]
def ct22 : Ct DD := ⟨22, [37, 37], [4], [[false]], true, fun x Φ => Z58 x.1 x.2.1 fun y => Φ (y, ())⟩
def pl22 : List PE := [⟨[4, 1, 0, 1, 1], [], [], ⟨[.int], [(0, .kp 0), (1, .kp 1), (5, .v .int)], [], [], []⟩, false⟩]
def ct5 : Ct DD := ⟨5, [], [4], [[false]], true, fun _ Φ => law47_awake_W fun y => Φ (y, ())⟩
def pl5 : List PE := [⟨[1, 1, 1, 1, 1, 1, 1], [], [18, 16, 17, 15, 14, 13, 11, 12, 10, 9, 8, 7, 5, 6, 4, 3, 2, 1, 0], ⟨[], [(4, .kp 46), (6, .kp 54), (8, .kp 62)], [], [], []⟩, true⟩]
def ct23 : Ct DD := ⟨23, [29], [26, 3], [[true], [false]], false, fun x Φ => ref07_New_W x.1 fun y => Φ (y.1, y.2, ())⟩
def pl23 : List PE := [⟨[4, 1, 0, 1, 1, 1], [], [], ⟨[.int, .lst 45], [(0, .kp 0), (5, .own 0), (6, .v .int)], [], [45], []⟩, false⟩]
def ct6 : Ct DD := ⟨6, [5], [26], [[true]], false, fun x Φ => law47_image_W x.1 fun y => Φ (y, ())⟩
def pl6 : List PE := []
def ct7 : Ct DD := ⟨7, [26, 22], [22], [[true]], false, fun x Φ => Z62 x.1 x.2.1 fun y => Φ (y, ())⟩
def pl7 : List PE := [⟨[4, 1, 0, 1, 1], [], [], ⟨[.int, .lst 47], [(0, .kp 0), (1, .kp 1), (5, .own 0), (6, .v .int)], [], [47], []⟩, false⟩, ⟨[0, 5, 4, 1, 0, 1, 1], [], [5], ⟨[.bool], [(0, .kp 0), (1, .kp 1), (5, .kp 6), (6, .kp 7), (14, .v .bool)], [], [], []⟩, true⟩]
def ct28 : Ct DD := ⟨28, [3, 3, 3], [4], [[false]], true, fun x Φ => Z63 x.1 x.2.1 x.2.2.1 fun y => Φ (y, ())⟩
def pl28 : List PE := []
def ct26 : Ct DD := ⟨26, [3], [4], [[false]], true, fun x Φ => Z64 x.1 fun y => Φ (y, ())⟩
def pl26 : List PE := []
def ct66 : Ct DD := ⟨66, [3], [54, 33], [[false, true], [false]], false, fun x Φ => bitmap_New_W x.1 fun y => Φ (y.1, y.2, ())⟩
def pl66 : List PE := [⟨[0, 1], [], [0], ⟨[.bool], [(0, .kp 1), (2, .kp 2), (9, .v .bool)], [], [], []⟩, true⟩]
def ct27 : Ct DD := ⟨27, [29], [41, 33], [[true], [false]], false, fun x Φ => Z66 x.1 fun y => Φ (y.1, y.2, ())⟩
def pl27 : List PE := [⟨[4, 1, 0, 1, 1], [], [], ⟨[.int, .lst 54], [(4, .own 0), (9, .kp 4), (10, .kp 5), (11, .v .int)], [], [54], []⟩, false⟩]
def sk67 : Sk DD := ⟨67, 92, 3, 83, true, inI, sortZ⟩
def ct8 : Ct DD := ⟨8, [29, 29, 3], [32, 33], [[true, true], [false]], false, fun x Φ => tracker_New_W x.1 x.2.1 x.2.2.1 fun y => Φ (y.1, y.2, ())⟩
def pl8 : List PE := [⟨[4, 1, 0, 1, 1, 1], [], [1], ⟨[.int], [(0, .kp 2), (1, .kp 3), (2, .kp 4), (6, .kp 5), (32, .kp 19), (33, .kp 20), (34, .v .int)], [(0, 32, [.kp 22,.kp 23])], [], []⟩, false⟩, ⟨[4, 1, 0, 1, 1, 1, 1, 1], [], [1], ⟨[.int, .mp 3 83], [(0, .kp 2), (2, .kp 4), (6, .kp 5), (12, .kp 28), (44, .kp 3), (45, .kp 29), (46, .v .int)], [(0, 32, [.kp 22,.kp 23])], [], [(24, .map 3 83 false true)]⟩, false⟩, ⟨[4, 1, 0, 1, 1, 13, 0, 1, 1, 1, 1, 1, 1, 1], [], [33, 32, 31, 0, 24, 1], ⟨[.int, .lst 83], [(0, .kp 28), (3, .own 0), (8, .kp 37), (9, .kp 38), (10, .v .int)], [], [83], []⟩, false⟩]
def ct95 : Ct DD := ⟨95, [54, 3], [4, 33], [[false], [false]], true, fun x Φ => Z70 x.1 x.2.1 fun y => Φ (y.1, y.2, ())⟩
def pl95 : List PE := []
def ct70 : Ct DD := ⟨70, [41, 29], [33], [[false]], true, fun x Φ => Z72 x.1 x.2.1 fun y => Φ (y, ())⟩
def pl70 : List PE := [⟨[4, 1, 0, 1, 1, 12, 0, 1, 1], [], [], ⟨[.int, .lst 4], [(0, .kp 0), (1, .kp 1), (2, .kp 2), (8, .own 0), (13, .kp 7), (14, .v .int)], [], [4], []⟩, false⟩]
def ct34 : Ct DD := ⟨34, [32], [33], [[false]], true, fun x Φ => Z74 x.1 fun y => Φ (y, ())⟩
def pl34 : List PE := [⟨[4, 1, 0, 1, 1, 1, 1], [], [1, 0], ⟨[.int, .int], [(1, .kp 3), (5, .v .int), (23, .kp 21), (24, .kp 22), (25, .v .int)], [], [], []⟩, false⟩]
def ct45 : Ct DD := ⟨45, [52], [52], [[true]], false, fun x Φ => Z75 x.1 fun y => Φ (y, ())⟩
def pl45 : List PE := []
def ct97 : Ct DD := ⟨97, [54], [54], [[false, true]], false, fun x Φ => tracker_own_W x.1 fun y => Φ (y, ())⟩
def pl97 : List PE := []
def ct73 : Ct DD := ⟨73, [41], [41], [[true]], false, fun x Φ => Z77 x.1 fun y => Φ (y, ())⟩
def pl73 : List PE := [⟨[4, 1, 0, 1, 1], [], [], ⟨[.int, .lst 54], [(3, .own 0), (6, .kp 3), (7, .kp 4), (8, .v .int)], [], [54], []⟩, false⟩]
def ct114 : Ct DD := ⟨114, [39, 3], [4], [[false]], true, fun x Φ => bitmap_fits_W x.1 x.2.1 fun y => Φ (y, ())⟩
def pl114 : List PE := []
def ct98 : Ct DD := ⟨98, [106, 106], [106], [[false]], true, fun x Φ => Z78 x.1 x.2.1 fun y => Φ (y, ())⟩
def pl98 : List PE := []
def ct74 : Ct DD := ⟨74, [54, 39], [54, 33], [[false, true], [false]], false, fun x Φ => bitmap_Set_W x.1 x.2.1 fun y => Φ (y.1, y.2, ())⟩
def pl74 : List PE := [⟨[4, 1, 0, 1, 1, 1, 1, 13, 0, 1], [], [6, 5, 4, 3, 2, 1, 0], ⟨[.int, .lst 106], [(3, .kp 11), (4, .kp 12), (5, .kp 13), (6, .kp 14), (9, .own 0), (27, .kp 31), (28, .v .int)], [], [106], []⟩, false⟩]
def ct12 : Ct DD := ⟨12, [32, 47], [32, 33], [[true, true], [false]], false, fun x Φ => Z83 x.1 x.2.1 fun y => Φ (y.1, y.2, ())⟩
def pl12 : List PE := [⟨[4, 1, 0, 1, 1, 11, 0, 1, 1, 1, 1, 1], [], [4, 3, 2, 1, 0], ⟨[.int, .dm 3 83 54], [(3, .kp 10), (8, .kp 12), (9, .kp 13), (10, .v .int)], [], [], [(5, .dmp 3 83 false true 2 54)]⟩, false⟩, ⟨[4, 1, 0, 1, 1, 1, 1, 1, 1], [], [4, 3, 1, 0], ⟨[.itr, .dm 3 83 54], [(2, .kp 27), (3, .kp 28), (4, .kp 29), (10, .kp 10), (39, .kp 53)], [(2, 32, [.kp 17,.kp 18])], [], [(24, .itr 5), (5, .dmp 3 83 false true 2 54)]⟩, false⟩, ⟨[4, 1, 0, 1, 1, 14, 0, 1, 12, 0, 1, 1, 1, 1, 1, 1, 1], [], [58, 57, 5, 56, 55, 54, 2, 24, 4, 3, 1, 0], ⟨[.int, .lst 83], [(0, .kp 10), (3, .own 0), (8, .kp 62), (9, .kp 63), (10, .v .int)], [], [83], []⟩, false⟩, ⟨[4, 1, 0, 1, 14, 0, 0, 1, 4, 1, 1, 5, 4, 1, 0, 1, 1, 1, 1, 1, 1], [], [56, 55, 24, 5, 2], ⟨[.int, .lst 54], [(0, .kp 57), (10, .kp 61), (11, .kp 62), (12, .v .int)], [], [], [(54, .row 54)]⟩, false⟩]
def ct41 : Ct DD := ⟨41, [3, 40], [54, 33], [[false, false], [false]], false, fun x Φ => Z85 x.1 x.2.1 fun y => Φ (y.1, y.2, ())⟩
def pl41 : List PE := [⟨[4, 1, 0, 1, 1, 1], [1], [1], ⟨[.int, .int, .lst 106], [(4, .kp 5), (6, .kp 12), (19, .kp 16), (20, .kp 17), (21, .v .int)], [(2, 54, [.v .int,.v (.lst 106)]), (0, 54, [.kp 21,.kp 22])], [], []⟩, false⟩]
def ct44 : Ct DD := ⟨44, [3, 54], [54], [[false, true]], false, fun x Φ => Z86 x.1 x.2.1 fun y => Φ (y, ())⟩
def pl44 : List PE := []
def ct13 : Ct DD := ⟨13, [32, 3, 3, 37], [32, 33], [[true, true], [false]], false, fun x Φ => Z93 x.1 x.2.1 x.2.2.1 x.2.2.2.1 fun y => Φ (y.1, y.2, ())⟩
def pl13 : List PE := [⟨[4, 1, 0, 1, 1, 1, 1, 1, 1], [], [20, 19, 2, 1, 0], ⟨[.int, .lst 54], [(2, .kp 5), (3, .kp 6), (4, .kp 7), (5, .kp 8), (8, .kp 9), (11, .kp 21), (12, .own 0), (13, .kp 26), (51, .kp 17), (52, .kp 41), (53, .v .int)], [], [54], []⟩, false⟩, ⟨[4, 1, 0, 1, 1, 1, 1, 1, 1, 1], [43], [43, 19, 2, 1, 0], ⟨[.int, .lst 83], [(2, .kp 5), (5, .kp 8), (8, .kp 9), (11, .kp 21), (12, .kp 44), (13, .kp 26), (92, .kp 18), (93, .kp 48), (94, .v .int)], [(20, 32, [.kp 32,.own 0])], [83], []⟩, false⟩, ⟨[4, 1, 0, 1, 1, 12, 3, 1, 0, 1, 4, 0, 1, 1, 5, 4, 1, 0, 1, 1, 1, 1, 1, 1, 1], [], [51, 20, 50], ⟨[.int, .lst 54], [(1, .kp 53), (5, .own 0), (8, .kp 56), (9, .kp 57), (10, .v .int)], [], [54], []⟩, false⟩, ⟨[3, 1, 3, 1, 4, 0, 1, 1, 1, 1, 1], [], [20, 19, 2, 1, 0], ⟨[.bool], [(2, .kp 5), (3, .kp 6), (4, .kp 7), (5, .kp 8), (8, .kp 9), (11, .kp 21), (12, .kp 22), (13, .kp 26), (36, .v .bool)], [], [], []⟩, true⟩, ⟨[1, 1], [], [2, 1, 0], ⟨[.int], [(2, .kp 5), (3, .kp 6), (4, .kp 7), (5, .kp 8), (8, .kp 9), (10, .kp 13), (11, .v .int)], [], [], []⟩, true⟩, ⟨[4, 1, 0, 1, 13, 0, 1, 1], [], [], ⟨[.int], [(0, .kp 18), (1, .kp 19), (7, .kp 21), (8, .v .int)], [], [], []⟩, false⟩]
def ct14 : Ct DD := ⟨14, [32, 3], [41, 3, 33], [[false], [false], [false]], false, fun x Φ => Z95 x.1 x.2.1 fun y => Φ (y.1, y.2.1, y.2.2, ())⟩
def pl14 : List PE := [⟨[4, 1, 0, 1, 1, 11, 0, 1, 1], [], [1, 0], ⟨[.int, .mp 3 83], [(3, .kp 7), (8, .kp 9), (9, .kp 10), (10, .v .int)], [], [], [(2, .map 3 83 false true)]⟩, false⟩]
def ct46 : Ct DD := ⟨46, [54, 54], [4], [[false]], true, fun x Φ => ref02_Same_W x.1 x.2.1 fun y => Φ (y, ())⟩
def pl46 : List PE := [⟨[4, 1, 0, 1, 1], [], [1, 0], ⟨[.int], [(2, .kp 4), (3, .kp 5), (5, .v .int)], [], [], []⟩, false⟩]
def ct15 : Ct DD := ⟨15, [41, 41], [4], [[false]], true, fun x Φ => Z97 x.1 x.2.1 fun y => Φ (y, ())⟩
def pl15 : List PE := [⟨[4, 1, 0, 1, 1], [], [], ⟨[.int], [(0, .kp 0), (1, .kp 1), (5, .v .int)], [], [], []⟩, false⟩]
def ct16 : Ct DD := ⟨16, [54, 3], [4], [[false]], true, fun x Φ => ref02_Get_W x.1 x.2.1 fun y => Φ (y, ())⟩
def pl16 : List PE := []
def ct3 : Ct DD := ⟨3, [5, 22, 22], [4], [[false]], true, fun x Φ => Z106 x.1 x.2.1 x.2.2.1 fun y => Φ (y, ())⟩
def pl3 : List PE := [⟨[4, 1, 0, 1, 1, 1, 1, 1, 1], [], [11, 9, 10, 8, 7, 6, 5, 4], ⟨[.int, .lst 40], [(7, .kp 14), (8, .kp 19), (9, .kp 20), (10, .kp 28), (11, .kp 29), (12, .own 0), (13, .v .int)], [], [40], []⟩, false⟩, ⟨[4, 1, 0, 1, 1, 1, 1, 1, 1, 1, 1], [9, 10], [40, 39, 36, 35, 34, 9, 10, 8, 7, 6, 5, 4], ⟨[.int, .int, .lst 3, .lst 83], [(8, .kp 19), (9, .kp 20), (10, .kp 28), (11, .v .int), (12, .kp 41), (14, .kp 52), (15, .v .int)], [(11, 32, [.v (.lst 3),.v (.lst 83)])], [], []⟩, false⟩, ⟨[4, 1, 0, 1, 1, 1, 1, 1, 1, 1, 1, 1, 1], [58, 59], [58, 59, 40, 39, 36, 35, 34, 9, 10, 8, 7, 6, 5, 4], ⟨[.int, .int, .lst 3, .lst 83], [(9, .kp 20), (10, .kp 28), (11, .kp 54), (14, .kp 52), (16, .v .int), (17, .v .int)], [(11, 32, [.v (.lst 3),.v (.lst 83)])], [], []⟩, false⟩, ⟨[4, 1, 0, 1, 1, 1, 1, 1, 1, 1, 1, 1, 1, 1, 1, 1, 1], [], [11, 58, 59, 40, 39, 36, 35, 34, 9, 10, 8, 7, 6, 5, 4], ⟨[.int], [(14, .kp 52), (18, .kp 81), (24, .v .int)], [], [], []⟩, false⟩, ⟨[4, 1, 4, 0, 1, 5, 4, 1, 0, 1, 1, 1, 1, 1, 1, 1, 1, 1, 1, 1, 1, 1, 1], [], [], ⟨[.int], [(14, .kp 52), (18, .kp 81), (24, .kp 125), (25, .v .int)], [], [], []⟩, false⟩, ⟨[0, 5, 4, 1, 0, 1, 1, 1, 1, 1, 1, 1, 1, 1, 1], [], [11], ⟨[.bool], [(9, .kp 20), (10, .kp 28), (11, .kp 54), (14, .kp 52), (16, .kp 70), (17, .kp 71), (102, .v .bool)], [], [], []⟩, true⟩, ⟨[0, 5, 4, 1, 0, 1, 1, 1, 1, 1, 1, 1, 1], [], [11], ⟨[.bool], [(8, .kp 19), (9, .kp 20), (10, .kp 28), (11, .kp 54), (12, .kp 41), (14, .kp 52), (15, .kp 55), (77, .v .bool)], [], [], []⟩, true⟩, ⟨[0, 1], [], [], ⟨[.bool], [(0, .kp 0), (1, .kp 1), (2, .kp 2), (33, .v .bool)], [], [], []⟩, true⟩]
theorem eq3 (x : TupD DD ct3.ps) (Φ : TupD DD ct3.rs → Prop) : ct3.W x Φ = topF ⟨Tryz.prog, tab, [ct4, ct5, ct6, ct7, ct8, ct9, ct10, ct11, ct12, ct13, ct14, ct15, ct16], pl3, [], gh, [], [], []⟩ 9 ct3.f ct3.ps ct3.rs ct3.own x Φ := by kernel_rfl
theorem eq70 (x : TupD DD ct70.ps) (Φ : TupD DD ct70.rs → Prop) : ct70.W x Φ = topF ⟨Tryz.prog, tab, [ct95], pl70, [], gh, [], [], []⟩ 9 ct70.f ct70.ps ct70.rs ct70.own x Φ := by kernel_rfl
theorem eq22 (x : TupD DD ct22.ps) (Φ : TupD DD ct22.rs → Prop) : ct22.W x Φ = topF ⟨Tryz.prog, tab, [ct59], pl22, [], gh, [], [], []⟩ 9 ct22.f ct22.ps ct22.rs ct22.own x Φ := by kernel_rfl
theorem eq33 (x : TupD DD ct33.ps) (Φ : TupD DD ct33.rs → Prop) : ct33.W x Φ = topF ⟨Tryz.prog, tab, [], pl33, [], gh, [], [], []⟩ 9 ct33.f ct33.ps ct33.rs ct33.own x Φ := by kernel_rfl
theorem eq93 (x : TupD DD ct93.ps) (Φ : TupD DD ct93.rs → Prop) : ct93.W x Φ = topF ⟨Tryz.prog, tab, [], pl93, [], gh, [], [], []⟩ 9 ct93.f ct93.ps ct93.rs ct93.own x Φ := by kernel_rfl
theorem eq6 (x : TupD DD ct6.ps) (Φ : TupD DD ct6.rs → Prop) : ct6.W x Φ = topF ⟨Tryz.prog, tab, [ct23], pl6, [], gh, [], [], []⟩ 9 ct6.f ct6.ps ct6.rs ct6.own x Φ := by kernel_rfl
theorem eq18 (x : TupD DD ct18.ps) (Φ : TupD DD ct18.rs → Prop) : ct18.W x Φ = topF ⟨Tryz.prog, tab, [], pl18, [], gh, [], [], []⟩ 9 ct18.f ct18.ps ct18.rs ct18.own x Φ := by kernel_rfl
theorem eq65 (x : TupD DD ct65.ps) (Φ : TupD DD ct65.rs → Prop) : ct65.W x Φ = topF ⟨Tryz.prog, tab, [], pl65, [], gh, [], [], []⟩ 9 ct65.f ct65.ps ct65.rs ct65.own x Φ := by kernel_rfl
theorem eq113 (x : TupD DD ct113.ps) (Φ : TupD DD ct113.rs → Prop) : ct113.W x Φ = topF ⟨Tryz.prog, tab, [], pl113, [], gh, [], [], []⟩ 9 ct113.f ct113.ps ct113.rs ct113.own x Φ := by kernel_rfl
theorem eq12 (x : TupD DD ct12.ps) (Φ : TupD DD ct12.rs → Prop) : ct12.W x Φ = topF ⟨Tryz.prog, tab, [ct25, ct29, ct34, ct35, ct73, ct74], pl12, [], gh, [], [([10, 0, 1, 11, 0, 1, 1, 1, 1, 1], 54002), ([10, 0, 4, 1, 1, 5, 4, 1, 0, 1, 1, 1, 1, 1, 1], 54002), ([10, 0, 11, 0, 0, 1, 1, 14, 0, 1, 12, 0, 1, 1, 1, 1, 1, 1, 1], 54002), ([11, 0, 0, 1, 1, 1, 1, 1, 1], 54002), ([13, 1, 1, 4, 1, 1, 5, 4, 1, 0, 1, 1, 1, 1, 1, 1], 54002), ([14, 1, 1, 4, 0, 1, 1, 5, 4, 1, 0, 1, 1, 11, 0, 1, 1, 1, 1, 1], 54002)], [sk67]⟩ 9 ct12.f ct12.ps ct12.rs ct12.own x Φ := by kernel_rfl
theorem eq14 (x : TupD DD ct14.ps) (Φ : TupD DD ct14.rs → Prop) : ct14.W x Φ = topF ⟨Tryz.prog, tab, [ct34, ct73], pl14, [], gh, [], [], []⟩ 9 ct14.f ct14.ps ct14.rs ct14.own x Φ := by kernel_rfl
theorem eq62 (x : TupD DD ct62.ps) (Φ : TupD DD ct62.rs → Prop) : ct62.W x Φ = topF ⟨Tryz.prog, tab, [], pl62, [], gh, [], [], []⟩ 9 ct62.f ct62.ps ct62.rs ct62.own x Φ := by kernel_rfl
theorem eq15 (x : TupD DD ct15.ps) (Φ : TupD DD ct15.rs → Prop) : ct15.W x Φ = topF ⟨Tryz.prog, tab, [ct46], pl15, [], gh, [], [], []⟩ 9 ct15.f ct15.ps ct15.rs ct15.own x Φ := by kernel_rfl
theorem eq11 (x : TupD DD ct11.ps) (Φ : TupD DD ct11.rs → Prop) : ct11.W x Φ = topF ⟨Tryz.prog, tab, [ct33], pl11, [], gh, [], [], []⟩ 9 ct11.f ct11.ps ct11.rs ct11.own x Φ := by kernel_rfl
theorem eq17 (x : TupD DD ct17.ps) (Φ : TupD DD ct17.rs → Prop) : ct17.W x Φ = topF ⟨Tryz.prog, tab, [ct9, ct10, ct11, ct49], pl17, [], gh, [], [], []⟩ 9 ct17.f ct17.ps ct17.rs ct17.own x Φ := by kernel_rfl
theorem eq35 (x : TupD DD ct35.ps) (Φ : TupD DD ct35.rs → Prop) : ct35.W x Φ = topF ⟨Tryz.prog, tab, [ct71, ct72], pl35, [], gh, [], [], []⟩ 9 ct35.f ct35.ps ct35.rs ct35.own x Φ := by kernel_rfl
theorem eq28 (x : TupD DD ct28.ps) (Φ : TupD DD ct28.rs → Prop) : ct28.W x Φ = topF ⟨Tryz.prog, tab, [], pl28, [], gh, [], [], []⟩ 9 ct28.f ct28.ps ct28.rs ct28.own x Φ := by kernel_rfl
theorem eq53 (x : TupD DD ct53.ps) (Φ : TupD DD ct53.rs → Prop) : ct53.W x Φ = topF ⟨Tryz.prog, tab, [ct54], pl53, [], gh, [], [], []⟩ 9 ct53.f ct53.ps ct53.rs ct53.own x Φ := by kernel_rfl
theorem eq13 (x : TupD DD ct13.ps) (Φ : TupD DD ct13.rs → Prop) : ct13.W x Φ = topS ⟨Tryz.prog, tab, [ct29, ct34, ct41, ct42, ct44], pl13, [], gh, [], [], []⟩ 9 ct13.f ct13.ps ct13.rs ct13.own x Φ := by kernel_rfl
theorem eq7 (x : TupD DD ct7.ps) (Φ : TupD DD ct7.rs → Prop) : ct7.W x Φ = topF ⟨Tryz.prog, tab, [ct24], pl7, [], gh, [], [], []⟩ 9 ct7.f ct7.ps ct7.rs ct7.own x Φ := by kernel_rfl
theorem eq80 (x : TupD DD ct80.ps) (Φ : TupD DD ct80.rs → Prop) : ct80.W x Φ = topF ⟨Tryz.prog, tab, [ct89], pl80, [], gh, [], [], []⟩ 9 ct80.f ct80.ps ct80.rs ct80.own x Φ := by kernel_rfl
theorem eq46 (x : TupD DD ct46.ps) (Φ : TupD DD ct46.rs → Prop) : ct46.W x Φ = topF ⟨Tryz.prog, tab, [], pl46, [], gh, [], [], []⟩ 9 ct46.f ct46.ps ct46.rs ct46.own x Φ := by kernel_rfl
theorem eq96 (x : TupD DD ct96.ps) (Φ : TupD DD ct96.rs → Prop) : ct96.W x Φ = topF ⟨Tryz.prog, tab, [ct113], pl96, [], gh, [], [], []⟩ 9 ct96.f ct96.ps ct96.rs ct96.own x Φ := by kernel_rfl
theorem eq16 (x : TupD DD ct16.ps) (Φ : TupD DD ct16.rs → Prop) : ct16.W x Φ = topF ⟨Tryz.prog, tab, [ct47, ct48], pl16, [], gh, [], [], []⟩ 9 ct16.f ct16.ps ct16.rs ct16.own x Φ := by kernel_rfl
theorem eq44 (x : TupD DD ct44.ps) (Φ : TupD DD ct44.rs → Prop) : ct44.W x Φ = topF ⟨Tryz.prog, tab, [ct45], pl44, [], gh, [], [], []⟩ 9 ct44.f ct44.ps ct44.rs ct44.own x Φ := by kernel_rfl
theorem eq20 (x : TupD DD ct20.ps) (Φ : TupD DD ct20.rs → Prop) : ct20.W x Φ = topF ⟨Tryz.prog, tab, [ct55], pl20, [], gh, [], [], []⟩ 9 ct20.f ct20.ps ct20.rs ct20.own x Φ := by kernel_rfl
theorem eq88 (x : TupD DD ct88.ps) (Φ : TupD DD ct88.rs → Prop) : ct88.W x Φ = topF ⟨Tryz.prog, tab, [], pl88, [], gh, [], [], []⟩ 9 ct88.f ct88.ps ct88.rs ct88.own x Φ := by kernel_rfl
theorem eq21 (x : TupD DD ct21.ps) (Φ : TupD DD ct21.rs → Prop) : ct21.W x Φ = topF ⟨Tryz.prog, tab, [ct29, ct51, ct55, ct56, ct57, ct58], pl21, [], gh, [], [], []⟩ 9 ct21.f ct21.ps ct21.rs ct21.own x Φ := by kernel_rfl
theorem eqi100 (x : TupD DD it100.cs) (l : List (TupD DD it100.ts)) : it100.W x l = iterF ⟨Tryz.prog, tab, [ct80, ct101, ct102], pl100, [], gh, [], [], []⟩ it100.f it100.cs it100.ts x l := by kernel_rfl
theorem eq74 (x : TupD DD ct74.ps) (Φ : TupD DD ct74.rs → Prop) : ct74.W x Φ = topF ⟨Tryz.prog, tab, [ct45, ct80, ct98, ct101, ct114], pl74, [], gh, [], [], []⟩ 9 ct74.f ct74.ps ct74.rs ct74.own x Φ := by kernel_rfl
theorem eq72 (x : TupD DD ct72.ps) (Φ : TupD DD ct72.rs → Prop) : ct72.W x Φ = topF ⟨Tryz.prog, tab, [], pl72, [], gh, [], [], []⟩ 9 ct72.f ct72.ps ct72.rs ct72.own x Φ := by kernel_rfl
theorem eq63 (x : TupD DD ct63.ps) (Φ : TupD DD ct63.rs → Prop) : ct63.W x Φ = topF ⟨Tryz.prog, tab, [ct88], pl63, [], gh, [], [], []⟩ 9 ct63.f ct63.ps ct63.rs ct63.own x Φ := by kernel_rfl
theorem eq59 (x : TupD DD ct59.ps) (Φ : TupD DD ct59.rs → Prop) : ct59.W x Φ = topF ⟨Tryz.prog, tab, [], pl59, [], gh, [], [], []⟩ 9 ct59.f ct59.ps ct59.rs ct59.own x Φ := by kernel_rfl
theorem eq114 (x : TupD DD ct114.ps) (Φ : TupD DD ct114.rs → Prop) : ct114.W x Φ = topF ⟨Tryz.prog, tab, [], pl114, [], gh, [], [], []⟩ 9 ct114.f ct114.ps ct114.rs ct114.own x Φ := by kernel_rfl
theorem eq95 (x : TupD DD ct95.ps) (Φ : TupD DD ct95.rs → Prop) : ct95.W x Φ = topF ⟨Tryz.prog, tab, [ct80], pl95, [], gh, [], [], []⟩ 9 ct95.f ct95.ps ct95.rs ct95.own x Φ := by kernel_rfl
theorem eq29 (x : TupD DD ct29.ps) (Φ : TupD DD ct29.rs → Prop) : ct29.W x Φ = topF ⟨Tryz.prog, tab, [], pl29, [], gh, [], [], []⟩ 9 ct29.f ct29.ps ct29.rs ct29.own x Φ := by kernel_rfl
theorem eq78 (x : TupD DD ct78.ps) (Φ : TupD DD ct78.rs → Prop) : ct78.W x Φ = topF ⟨Tryz.prog, tab, [], pl78, [], gh, [], [], []⟩ 9 ct78.f ct78.ps ct78.rs ct78.own x Φ := by kernel_rfl
theorem eq26 (x : TupD DD ct26.ps) (Φ : TupD DD ct26.rs → Prop) : ct26.W x Φ = topF ⟨Tryz.prog, tab, [ct28], pl26, [], gh, [], [], []⟩ 9 ct26.f ct26.ps ct26.rs ct26.own x Φ := by kernel_rfl
theorem eq8 (x : TupD DD ct8.ps) (Φ : TupD DD ct8.rs → Prop) : ct8.W x Φ = topF ⟨Tryz.prog, tab, [ct25, ct26, ct27, ct28, ct29], pl8, [], gh, [], [], [sk67]⟩ 9 ct8.f ct8.ps ct8.rs ct8.own x Φ := by kernel_rfl
theorem eq10 (x : TupD DD ct10.ps) (Φ : TupD DD ct10.rs → Prop) : ct10.W x Φ = topF ⟨Tryz.prog, tab, [ct31, ct32], pl10, [], gh, [], [], []⟩ 9 ct10.f ct10.ps ct10.rs ct10.own x Φ := by kernel_rfl
theorem eq101 (x : TupD DD ct101.ps) (Φ : TupD DD ct101.rs → Prop) : ct101.W x Φ = topF ⟨Tryz.prog, tab, [], pl101, [], gh, [], [], []⟩ 9 ct101.f ct101.ps ct101.rs ct101.own x Φ := by kernel_rfl
theorem eq58 (x : TupD DD ct58.ps) (Φ : TupD DD ct58.rs → Prop) : ct58.W x Φ = topF ⟨Tryz.prog, tab, [ct25, ct84, ct85, ct86], pl58, [], gh, [], [], []⟩ 9 ct58.f ct58.ps ct58.rs ct58.own x Φ := by kernel_rfl
theorem eq23 (x : TupD DD ct23.ps) (Φ : TupD DD ct23.rs → Prop) : ct23.W x Φ = topF ⟨Tryz.prog, tab, [ct60], pl23, [], gh, [], [], []⟩ 9 ct23.f ct23.ps ct23.rs ct23.own x Φ := by kernel_rfl
theorem eq82 (x : TupD DD ct82.ps) (Φ : TupD DD ct82.rs → Prop) : ct82.W x Φ = topF ⟨Tryz.prog, tab, [ct104], pl82, [], gh, [], [], []⟩ 9 ct82.f ct82.ps ct82.rs ct82.own x Φ := by kernel_rfl
theorem eq4 (x : TupD DD ct4.ps) (Φ : TupD DD ct4.rs → Prop) : ct4.W x Φ = topF ⟨Tryz.prog, tab, [], pl4, [], gh, [], [], []⟩ 9 ct4.f ct4.ps ct4.rs ct4.own x Φ := by kernel_rfl
theorem eq51 (x : TupD DD ct51.ps) (Φ : TupD DD ct51.rs → Prop) : ct51.W x Φ = topF ⟨Tryz.prog, tab, [], pl51, [], gh, [], [], []⟩ 9 ct51.f ct51.ps ct51.rs ct51.own x Φ := by kernel_rfl
theorem eq89 (x : TupD DD ct89.ps) (Φ : TupD DD ct89.rs → Prop) : ct89.W x Φ = topF ⟨Tryz.prog, tab, [], pl89, [], gh, [], [], []⟩ 9 ct89.f ct89.ps ct89.rs ct89.own x Φ := by kernel_rfl
theorem eq61 (x : TupD DD ct61.ps) (Φ : TupD DD ct61.rs → Prop) : ct61.W x Φ = topF ⟨Tryz.prog, tab, [ct9, ct60], pl61, [], gh, [], [], []⟩ 9 ct61.f ct61.ps ct61.rs ct61.own x Φ := by kernel_rfl
theorem eq76 (x : TupD DD ct76.ps) (Φ : TupD DD ct76.rs → Prop) : ct76.W x Φ = topF ⟨Tryz.prog, tab, [], pl76, [], gh, [], [], []⟩ 9 ct76.f ct76.ps ct76.rs ct76.own x Φ := by kernel_rfl
theorem eq5 (x : TupD DD ct5.ps) (Φ : TupD DD ct5.rs → Prop) : ct5.W x Φ = topF ⟨Tryz.prog, tab, [ct17, ct18, ct19, ct20, ct21, ct22], pl5, [], gh, [], [], []⟩ 9 ct5.f ct5.ps ct5.rs ct5.own x Φ := by kernel_rfl
theorem eq42 (x : TupD DD ct42.ps) (Φ : TupD DD ct42.rs → Prop) : ct42.W x Φ = topF ⟨Tryz.prog, tab, [ct76, ct80], pl42, [], gh, [], [], []⟩ 9 ct42.f ct42.ps ct42.rs ct42.own x Φ := by kernel_rfl
theorem eq19 (x : TupD DD ct19.ps) (Φ : TupD DD ct19.rs → Prop) : ct19.W x Φ = topF ⟨Tryz.prog, tab, [ct50, ct51, ct53], pl19, [], gh, [], [], []⟩ 9 ct19.f ct19.ps ct19.rs ct19.own x Φ := by kernel_rfl
theorem eq55 (x : TupD DD ct55.ps) (Φ : TupD DD ct55.rs → Prop) : ct55.W x Φ = topF ⟨Tryz.prog, tab, [ct50, ct82, ct83], pl55, [], gh, [], [], []⟩ 9 ct55.f ct55.ps ct55.rs ct55.own x Φ := by kernel_rfl
theorem eq25 (x : TupD DD ct25.ps) (Φ : TupD DD ct25.rs → Prop) : ct25.W x Φ = topF ⟨Tryz.prog, tab, [ct63, ct65], pl25, [], gh, [], [], []⟩ 9 ct25.f ct25.ps ct25.rs ct25.own x Φ := by kernel_rfl
theorem eq60 (x : TupD DD ct60.ps) (Φ : TupD DD ct60.rs → Prop) : ct60.W x Φ = topF ⟨Tryz.prog, tab, [], pl60, [], gh, [], [], []⟩ 9 ct60.f ct60.ps ct60.rs ct60.own x Φ := by kernel_rfl
theorem eq66 (x : TupD DD ct66.ps) (Φ : TupD DD ct66.rs → Prop) : ct66.W x Φ = topF ⟨Tryz.prog, tab, [ct89], pl66, [], gh, [], [], []⟩ 9 ct66.f ct66.ps ct66.rs ct66.own x Φ := by kernel_rfl
theorem eq45 (x : TupD DD ct45.ps) (Φ : TupD DD ct45.rs → Prop) : ct45.W x Φ = topF ⟨Tryz.prog, tab, [], pl45, [], gh, [], [], []⟩ 9 ct45.f ct45.ps ct45.rs ct45.own x Φ := by kernel_rfl
theorem eq31 (x : TupD DD ct31.ps) (Φ : TupD DD ct31.rs → Prop) : ct31.W x Φ = topF ⟨Tryz.prog, tab, [], pl31, [], gh, [], [], []⟩ 9 ct31.f ct31.ps ct31.rs ct31.own x Φ := by kernel_rfl
theorem eq71 (x : TupD DD ct71.ps) (Φ : TupD DD ct71.rs → Prop) : ct71.W x Φ = topF ⟨Tryz.prog, tab, [ct63, ct96], pl71, [], gh, [], [], []⟩ 9 ct71.f ct71.ps ct71.rs ct71.own x Φ := by kernel_rfl
theorem eq98 (x : TupD DD ct98.ps) (Φ : TupD DD ct98.rs → Prop) : ct98.W x Φ = topF ⟨Tryz.prog, tab, [], pl98, [], gh, [], [], []⟩ 9 ct98.f ct98.ps ct98.rs ct98.own x Φ := by kernel_rfl
theorem eq56 (x : TupD DD ct56.ps) (Φ : TupD DD ct56.rs → Prop) : ct56.W x Φ = topF ⟨Tryz.prog, tab, [ct79], pl56, [], gh, [], [], []⟩ 9 ct56.f ct56.ps ct56.rs ct56.own x Φ := by kernel_rfl
theorem eq86 (x : TupD DD ct86.ps) (Φ : TupD DD ct86.rs → Prop) : ct86.W x Φ = topF ⟨Tryz.prog, tab, [ct25, ct35], pl86, [], gh, [], [], []⟩ 9 ct86.f ct86.ps ct86.rs ct86.own x Φ := by kernel_rfl
theorem eq50 (x : TupD DD ct50.ps) (Φ : TupD DD ct50.rs → Prop) : ct50.W x Φ = topF ⟨Tryz.prog, tab, [ct71, ct78, ct79, ct80], pl50, [], gh, [], [], []⟩ 9 ct50.f ct50.ps ct50.rs ct50.own x Φ := by kernel_rfl
theorem eq83 (x : TupD DD ct83.ps) (Φ : TupD DD ct83.rs → Prop) : ct83.W x Φ = topF ⟨Tryz.prog, tab, [ct42, ct54], pl83, [], gh, [], [], []⟩ 9 ct83.f ct83.ps ct83.rs ct83.own x Φ := by kernel_rfl
theorem eq41 (x : TupD DD ct41.ps) (Φ : TupD DD ct41.rs → Prop) : ct41.W x Φ = topF ⟨Tryz.prog, tab, [ct66, ct74], pl41, [], gh, [], [], []⟩ 9 ct41.f ct41.ps ct41.rs ct41.own x Φ := by kernel_rfl
theorem eq27 (x : TupD DD ct27.ps) (Φ : TupD DD ct27.rs → Prop) : ct27.W x Φ = topF ⟨Tryz.prog, tab, [ct66], pl27, [], gh, [], [], []⟩ 9 ct27.f ct27.ps ct27.rs ct27.own x Φ := by kernel_rfl
theorem eq73 (x : TupD DD ct73.ps) (Φ : TupD DD ct73.rs → Prop) : ct73.W x Φ = topF ⟨Tryz.prog, tab, [ct97], pl73, [], gh, [], [], []⟩ 9 ct73.f ct73.ps ct73.rs ct73.own x Φ := by kernel_rfl
theorem eq48 (x : TupD DD ct48.ps) (Φ : TupD DD ct48.rs → Prop) : ct48.W x Φ = topF ⟨Tryz.prog, tab, [], pl48, [], gh, [], [], []⟩ 9 ct48.f ct48.ps ct48.rs ct48.own x Φ := by kernel_rfl
theorem eq57 (x : TupD DD ct57.ps) (Φ : TupD DD ct57.rs → Prop) : ct57.W x Φ = topF ⟨Tryz.prog, tab, [], pl57, [], gh, [], [], []⟩ 9 ct57.f ct57.ps ct57.rs ct57.own x Φ := by kernel_rfl
theorem eq84 (x : TupD DD ct84.ps) (Φ : TupD DD ct84.rs → Prop) : ct84.W x Φ = topF ⟨Tryz.prog, tab, [], pl84, [], gh, [], [], []⟩ 9 ct84.f ct84.ps ct84.rs ct84.own x Φ := by kernel_rfl
theorem eq105 (x : TupD DD ct105.ps) (Φ : TupD DD ct105.rs → Prop) : ct105.W x Φ = topF ⟨Tryz.prog, tab, [ct84], pl105, [], gh, [], [], []⟩ 9 ct105.f ct105.ps ct105.rs ct105.own x Φ := by kernel_rfl
theorem eq54 (x : TupD DD ct54.ps) (Φ : TupD DD ct54.rs → Prop) : ct54.W x Φ = topF ⟨Tryz.prog, tab, [], pl54, [it100], gh, [], [], []⟩ 9 ct54.f ct54.ps ct54.rs ct54.own x Φ := by kernel_rfl
theorem eq69 (x : TupD DD ct69.ps) (Φ : TupD DD ct69.rs → Prop) : ct69.W x Φ = topF ⟨Tryz.prog, tab, [ct31, ct47, ct93], pl69, [], gh, [], [], []⟩ 9 ct69.f ct69.ps ct69.rs ct69.own x Φ := by kernel_rfl
theorem eq34 (x : TupD DD ct34.ps) (Φ : TupD DD ct34.rs → Prop) : ct34.W x Φ = topF ⟨Tryz.prog, tab, [ct25, ct26, ct28, ct70], pl34, [], gh, [], [], []⟩ 9 ct34.f ct34.ps ct34.rs ct34.own x Φ := by kernel_rfl
theorem eq79 (x : TupD DD ct79.ps) (Φ : TupD DD ct79.rs → Prop) : ct79.W x Φ = topF ⟨Tryz.prog, tab, [ct78], pl79, [], gh, [], [], []⟩ 9 ct79.f ct79.ps ct79.rs ct79.own x Φ := by kernel_rfl
theorem eq47 (x : TupD DD ct47.ps) (Φ : TupD DD ct47.rs → Prop) : ct47.W x Φ = topF ⟨Tryz.prog, tab, [ct48], pl47, [], gh, [], [], []⟩ 9 ct47.f ct47.ps ct47.rs ct47.own x Φ := by kernel_rfl
theorem eq85 (x : TupD DD ct85.ps) (Φ : TupD DD ct85.rs → Prop) : ct85.W x Φ = topF ⟨Tryz.prog, tab, [ct84, ct105], pl85, [], gh, [], [], []⟩ 9 ct85.f ct85.ps ct85.rs ct85.own x Φ := by kernel_rfl
theorem eq9 (x : TupD DD ct9.ps) (Φ : TupD DD ct9.rs → Prop) : ct9.W x Φ = topF ⟨Tryz.prog, tab, [], pl9, [], gh, [], [], []⟩ 9 ct9.f ct9.ps ct9.rs ct9.own x Φ := by kernel_rfl
theorem eq24 (x : TupD DD ct24.ps) (Φ : TupD DD ct24.rs → Prop) : ct24.W x Φ = topF ⟨Tryz.prog, tab, [ct9, ct61, ct62], pl24, [], gh, [], [], []⟩ 9 ct24.f ct24.ps ct24.rs ct24.own x Φ := by kernel_rfl
theorem eq97 (x : TupD DD ct97.ps) (Φ : TupD DD ct97.rs → Prop) : ct97.W x Φ = topF ⟨Tryz.prog, tab, [ct45], pl97, [], gh, [], [], []⟩ 9 ct97.f ct97.ps ct97.rs ct97.own x Φ := by kernel_rfl
theorem eq32 (x : TupD DD ct32.ps) (Φ : TupD DD ct32.rs → Prop) : ct32.W x Φ = topF ⟨Tryz.prog, tab, [ct69], pl32, [], gh, [], [], []⟩ 9 ct32.f ct32.ps ct32.rs ct32.own x Φ := by kernel_rfl
theorem eq104 (x : TupD DD ct104.ps) (Φ : TupD DD ct104.rs → Prop) : ct104.W x Φ = topF ⟨Tryz.prog, tab, [], pl104, [], gh, [], [], []⟩ 9 ct104.f ct104.ps ct104.rs ct104.own x Φ := by kernel_rfl
end Go.Proofs.YtefiiimkacemiaaGreatDoor
namespace Go.Proofs.YtefiiimkacemiaaGreatDoor
open Go
def rwd {α : Type} : Result α → World
  | .ok _ w => w
  | .halt _ w => w
theorem ask_up {α : Type} (a : Ask α) : ∀ w : World, w.drawn ≤ (w.ask a).2.drawn := by
  induction a with
  | done a => intro w; exact Nat.le_refl _
  | ask what range k ih =>
    intro w
    simp only [World.ask]
    split
    · exact ih _ _
    · exact Nat.le_trans (Nat.le_succ _) (ih _ { w with drawn := w.drawn + 1 })
theorem sys_up (w : World) (c : Sys) : w.drawn ≤ (w.sys c).2.drawn := by
  have h := ask_up (Kernel.perform c w.os) w
  unfold World.sys
  generalize w.ask (Kernel.perform c w.os) = r at h
  obtain ⟨⟨r, os⟩, w'⟩ := r
  cases r <;> first | exact h | exact Nat.le_refl _
theorem viewStore_up {p : Program} {w w' : World} {a k : Addr} {u : TypeId} {v : Value} {b : Bool} {l : List Addr} (h : w.viewStore p a u k v b = .ok (w', l)) : w'.drawn = w.drawn := by
  unfold World.viewStore at h
  simp only [bind, Except.bind, pure, Except.pure] at h
  (repeat' split at h) <;> first | contradiction | (simp only [Except.ok.injEq, Prod.mk.injEq] at h; obtain ⟨rfl, _⟩ := h; rfl)
theorem farStore_up {p : Program} {w w' : World} {a : Addr} {v : Value} {b : Bool} {l : List Addr} (h : w.farStore p a v b = .ok (w', l)) : w'.drawn = w.drawn := by
  unfold World.farStore at h
  split at h
  · split at h
    · rename_i r hr
      simp only [Except.ok.injEq] at h
      subst h
      exact viewStore_up hr
    · contradiction
  · contradiction
theorem freeze_drawn (w : World) (a : Addr) (n : Nat) : (w.freeze a n).drawn = w.drawn := by
  unfold World.freeze; split <;> rfl
theorem run_up {α : Type} (p : Program) (s : Sem α) : ∀ w : World, w.drawn ≤ (rwd (s.run p w)).drawn := by
  induction s with
  | pure a => intro w; exact Nat.le_refl _
  | load m a k ih =>
    intro w
    simp only [Sem.run]
    split
    · exact ih _ _
    · split
      · exact ih _ _
      · exact Nat.le_refl _
  | store m a v k ih =>
    intro w
    have hk : w.drawn ≤ (rwd (match w.cell? a with
      | some _ => if w.frozen? a then Result.halt (.unsupported (.unsafePointer "a write to bytes that a string shares")) w else k.run p (w.setCell a v)
      | none => match w.farStore p a v (m == .atomic) with
        | .ok (w, _) => k.run p w
        | .error h => .halt h w)).drawn := by
      split
      · split
        · exact Nat.le_refl _
        · exact ih (w.setCell a _)
      · split
        · rename_i hf
          exact Nat.le_trans (Nat.le_of_eq (farStore_up hf).symm) (ih _)
        · exact Nat.le_refl _
    cases v <;> simp only [Sem.run] <;> first | exact hk | exact Nat.le_refl _
  | new o k ih => intro w; exact ih _ { w with heap := w.heap.push o }
  | shape r k ih => intro w; exact ih _ _
  | freeze a n k ih => intro w; exact Nat.le_trans (Nat.le_of_eq (freeze_drawn w a n).symm) (ih (w.freeze a n))
  | frozen a k ih => intro w; exact ih _ _
  | getObj r k ih =>
    intro w
    simp only [Sem.run]
    split
    · exact Nat.le_refl _
    · exact ih _ _
    · exact Nat.le_refl _
  | setObj r o k ih =>
    intro w
    simp only [Sem.run]
    split
    · exact Nat.le_refl _
    · exact ih { w with heap := w.heap.setIfInBounds r o }
    · exact Nat.le_refl _
  | choose q k ih =>
    intro w
    simp only [Sem.run]
    split
    · exact ih _ _
    · exact Nat.le_trans (Nat.le_succ _) (ih _ { w with drawn := w.drawn + 1 })
  | sys c k ih => intro w; exact Nat.le_trans (sys_up w c) (ih _ _)
  | program k ih => intro w; exact ih _ _
  | mark m k ih => intro w; exact ih _
  | halt h => intro w; exact Nat.le_refl _
theorem run_ok {α : Type} {p : Program} {s : Sem α} {w w' : World} {a : α} (h : s.run p w = .ok a w') : w.drawn ≤ w'.drawn := by
  have := run_up p s w
  rw [h] at this
  exact this
theorem run_halt {α : Type} {p : Program} {s : Sem α} {w w' : World} {x : Halt} (h : s.run p w = .halt x w') : w.drawn ≤ w'.drawn := by
  have := run_up p s w
  rw [h] at this
  exact this
def gw : GStep → World
  | .go _ w _ => w
  | .comm _ _ _ _ w _ => w
  | .spawn _ _ w _ => w
  | .count _ w _ => w
  | .timer _ _ w _ => w
  | .alone _ _ w _ => w
  | .newcoro _ _ _ w _ => w
  | .coroswitch _ _ _ w _ => w
  | .collect _ w _ => w
  | .watch _ w _ => w
  | .ended _ w _ => w
theorem gw_after (es : Array Event) (s : GStep) : gw (s.after es) = gw s := by cases s <;> rfl
theorem gw_go (g : Goroutine) (w : World) (es : Array Event) : gw (.go g w es) = w := rfl
theorem gw_comm (g : Goroutine) (c : Array CommCase) (b : Bool) (s : CommShape) (w : World) (es : Array Event) : gw (.comm g c b s w es) = w := rfl
theorem gw_spawn (g c : Goroutine) (w : World) (es : Array Event) : gw (.spawn g c w es) = w := rfl
theorem gw_count (g : Goroutine) (w : World) (es : Array Event) : gw (.count g w es) = w := rfl
theorem gw_timer (g : Goroutine) (o : TimerOp) (w : World) (es : Array Event) : gw (.timer g o w es) = w := rfl
theorem gw_alone (g : Goroutine) (o : Bool) (w : World) (es : Array Event) : gw (.alone g o w es) = w := rfl
theorem gw_newcoro (g : Goroutine) (c : Nat) (d : Deferred) (w : World) (es : Array Event) : gw (.newcoro g c d w es) = w := rfl
theorem gw_coroswitch (g : Goroutine) (c : Nat) (x : Bool) (w : World) (es : Array Event) : gw (.coroswitch g c x w es) = w := rfl
theorem gw_collect (g : Goroutine) (w : World) (es : Array Event) : gw (.collect g w es) = w := rfl
theorem gw_watch (g : Goroutine) (w : World) (es : Array Event) : gw (.watch g w es) = w := rfl
theorem gw_ended (o : Outcome) (w : World) (es : Array Event) : gw (.ended o w es) = w := rfl
theorem endThrow_gw (fr : Frame) (m : String) (w : World) : gw (endThrow fr m w) = w := rfl
theorem endWith_up (w : World) (fd : Nat) (t : ByteArray) (o : Outcome) : w.drawn ≤ (gw (endWith w fd t o)).drawn := by
  have h := sys_up w (.write fd t)
  unfold endWith
  generalize w.sys (.write fd t) = r at h
  obtain ⟨r, w'⟩ := r
  cases r <;> simp only <;> (try split) <;> exact h
theorem endPrinting_gw (p : Program) (fr : Frame) (v : Value) (w : World) : gw (endPrinting p fr v w) = w := by
  unfold endPrinting
  simp only
  split <;> rfl
theorem endFatal_up (p : Program) (fr : Frame) (cs : List Frame) (d : Option Dying) (m : String) (w : World) : w.drawn ≤ (gw (endFatal p fr cs d m w)).drawn := by
  unfold endFatal
  extract_lets chain raw shown
  clear_value shown
  split <;> (repeat (first | rw [gw_after] | rw [gw_go] | rw [gw_comm] | rw [gw_spawn] | rw [gw_count] | rw [gw_timer] | rw [gw_alone] | rw [gw_newcoro] | rw [gw_coroswitch] | rw [gw_collect] | rw [gw_watch] | rw [gw_ended])) <;> (first | exact Nat.le_refl _ | exact run_ok (by assumption) | exact run_halt (by assumption))
theorem writeOn_up (p : Program) (fr : Frame) (d : Dying) (f : Fatal) (w : World) : w.drawn ≤ (gw (writeOn p fr d f w)).drawn := by
  unfold writeOn
  extract_lets on
  split
  · exact Nat.le_refl _
  · extract_lets write
    clear_value write
    simp only [Sem.runT_eq]
    split <;> rename_i h <;> simp only [Prod.mk.injEq] at h <;> (try simp only [on]) <;> (repeat (first | rw [gw_after] | rw [gw_go] | rw [gw_comm] | rw [gw_spawn] | rw [gw_count] | rw [gw_timer] | rw [gw_alone] | rw [gw_newcoro] | rw [gw_coroswitch] | rw [gw_collect] | rw [gw_watch] | rw [gw_ended])) <;> first | exact run_ok h.1 | exact run_halt h.1
theorem die_up (p : Program) (fr : Frame) (d : Dying) (w : World) : w.drawn ≤ (gw (die p fr d w)).drawn := by
  unfold die
  split
  · exact writeOn_up _ _ _ _ _
  · split
    · split
      · exact Nat.le_refl _
      · exact endWith_up _ _ _ _
    · simp only [Sem.runT_eq]
      (repeat' split) <;> (repeat (first | rw [gw_after] | rw [gw_go] | rw [gw_comm] | rw [gw_spawn] | rw [gw_count] | rw [gw_timer] | rw [gw_alone] | rw [gw_newcoro] | rw [gw_coroswitch] | rw [gw_collect] | rw [gw_watch] | rw [gw_ended])) <;> (try simp only [endPrinting_gw]) <;> (first | exact Nat.le_refl _ | exact run_ok (by assumption) | exact run_halt (by assumption))
theorem doReturn_gw (p : Program) (main : Bool) (fr : Frame) (cs : List Frame) (d : Option Dying) (v : Value) (w : World) : gw (doReturn p main fr cs d v w) = w := by
  unfold doReturn
  (repeat' split) <;> rfl
theorem callDeferred_up (p : Program) (fr : Frame) (cs : List Frame) (dy : Option Dying) (d : Deferred) (w : World) : w.drawn ≤ (gw (callDeferred p fr cs dy d w)).drawn := by
  unfold callDeferred
  simp only [Sem.runT_eq]
  (repeat' split) <;> (repeat (first | rw [gw_after] | rw [gw_go] | rw [gw_comm] | rw [gw_spawn] | rw [gw_count] | rw [gw_timer] | rw [gw_alone] | rw [gw_newcoro] | rw [gw_coroswitch] | rw [gw_collect] | rw [gw_watch] | rw [gw_ended])) <;> (try simp only [endThrow_gw]) <;> first | (first | exact Nat.le_refl _ | exact run_ok (by assumption) | exact run_halt (by assumption)) | exact Nat.le_trans (run_halt (by assumption)) (endFatal_up _ _ _ _ _ _)
theorem unwind_up (p : Program) (main : Bool) (fr : Frame) (cs : List Frame) (dy : Option Dying) (w : World) : w.drawn ≤ (gw (unwind p main fr cs dy w)).drawn := by
  unfold unwind
  simp only [Sem.runT_eq]
  (repeat' split) <;> (repeat (first | rw [gw_after] | rw [gw_go] | rw [gw_comm] | rw [gw_spawn] | rw [gw_count] | rw [gw_timer] | rw [gw_alone] | rw [gw_newcoro] | rw [gw_coroswitch] | rw [gw_collect] | rw [gw_watch] | rw [gw_ended])) <;> (try simp only [doReturn_gw, endPrinting_gw]) <;> first | (first | exact Nat.le_refl _ | exact run_ok (by assumption) | exact run_halt (by assumption)) | exact callDeferred_up _ _ _ _ _ _
theorem early_up (p : Program) (fr : Frame) (cs : List Frame) (dy : Option Dying) (g : Nat) (w : World) : w.drawn ≤ (gw (early p fr cs dy g w)).drawn := by
  unfold early
  extract_lets refuse notYet
  have hn : ∀ w', w.drawn ≤ w'.drawn → w.drawn ≤ (gw (notYet w')).drawn := fun w' h => by
    simp only [notYet]
    (repeat' split) <;> (repeat (first | rw [gw_after] | rw [gw_go] | rw [gw_comm] | rw [gw_spawn] | rw [gw_count] | rw [gw_timer] | rw [gw_alone] | rw [gw_newcoro] | rw [gw_coroswitch] | rw [gw_collect] | rw [gw_watch] | rw [gw_ended])) <;> exact h
  have hr : w.drawn ≤ (gw refuse).drawn := Nat.le_refl _
  clear_value refuse notYet
  (repeat' split) <;> (repeat (first | rw [gw_after] | rw [gw_go] | rw [gw_comm] | rw [gw_spawn] | rw [gw_count] | rw [gw_timer] | rw [gw_alone] | rw [gw_newcoro] | rw [gw_coroswitch] | rw [gw_collect] | rw [gw_watch] | rw [gw_ended])) <;> first | exact hr | exact hn _ (Nat.le_refl _) | exact hn _ (run_ok (by assumption)) | (first | exact Nat.le_refl _ | exact run_ok (by assumption) | exact run_halt (by assumption))
theorem apply_up (p : Program) (l : Bool) (fr : Frame) (cs : List Frame) (dy : Option Dying) (s : Sem Next) (w : World) : w.drawn ≤ (gw (stepG.apply p l fr cs dy s w)).drawn := by
  unfold stepG.apply
  have hs : (if l = true then s.runT p w #[] else (s.run p w, #[])).1 = s.run p w := by
    cases l <;> simp [Sem.runT_eq]
  generalize (if l = true then s.runT p w #[] else (s.run p w, #[])) = r at hs
  obtain ⟨r, es⟩ := r
  simp only at hs
  subst hs
  simp only [gw_after]
  (repeat' split) <;> (repeat (first | rw [gw_after] | rw [gw_go] | rw [gw_comm] | rw [gw_spawn] | rw [gw_count] | rw [gw_timer] | rw [gw_alone] | rw [gw_newcoro] | rw [gw_coroswitch] | rw [gw_collect] | rw [gw_watch] | rw [gw_ended])) <;> (try simp only [endThrow_gw]) <;> first | (first | exact Nat.le_refl _ | exact run_ok (by assumption) | exact run_halt (by assumption)) | exact Nat.le_trans (run_halt (by assumption)) (endFatal_up _ _ _ _ _ _) | exact Nat.le_trans (run_halt (by assumption)) (early_up _ _ _ _ _ _)
theorem oper_up (p : Program) (l : Bool) (fr : Frame) (cs : List Frame) (dy : Option Dying) (w : World) : w.drawn ≤ (gw (stepG.oper p l fr cs dy w)).drawn := by
  unfold stepG.oper
  (repeat' split) <;> (repeat (first | rw [gw_after] | rw [gw_go] | rw [gw_comm] | rw [gw_spawn] | rw [gw_count] | rw [gw_timer] | rw [gw_alone] | rw [gw_newcoro] | rw [gw_coroswitch] | rw [gw_collect] | rw [gw_watch] | rw [gw_ended])) <;> first | (first | exact Nat.le_refl _ | exact run_ok (by assumption) | exact run_halt (by assumption)) | exact apply_up _ _ _ _ _ _ _
theorem elim_up {α : Type} (d : Nat) (o : Option α) (x : GStep) (f : α → GStep) (hx : d ≤ (gw x).drawn) (hf : ∀ a, d ≤ (gw (f a)).drawn) : d ≤ (gw (o.elim x f)).drawn := by
  cases o
  · exact hx
  · exact hf _
theorem exec_up (p : Program) (main l : Bool) (fr : Frame) (cs : List Frame) (dy : Option Dying) (w : World) : w.drawn ≤ (gw (stepG.exec p main l fr cs dy w)).drawn := by
  unfold stepG.exec
  extract_lets go to lost leave
  have hgo : ∀ fr w', w.drawn ≤ w'.drawn → w.drawn ≤ (gw (go fr w')).drawn := fun _ _ h => h
  have hto : ∀ k, w.drawn ≤ (gw (to k)).drawn := fun _ => Nat.le_refl _
  have hlost : ∀ s, w.drawn ≤ (gw (lost s)).drawn := fun _ => Nat.le_refl _
  have hleave : ∀ j, w.drawn ≤ (gw (leave j)).drawn := fun j => by
    simp only [leave]
    clear_value go to lost leave
    split
    · split <;> first | exact hgo _ _ (Nat.le_refl _) | exact hlost _ | (split <;> first | exact hgo _ _ (Nat.le_refl _) | exact hlost _)
    · simp only [Sem.runT_eq, gw_after]
      split
      · rw [doReturn_gw]; (first | exact Nat.le_refl _ | exact run_ok (by assumption) | exact run_halt (by assumption))
      · (repeat (first | rw [gw_after] | rw [gw_go] | rw [gw_comm] | rw [gw_spawn] | rw [gw_count] | rw [gw_timer] | rw [gw_alone] | rw [gw_newcoro] | rw [gw_coroswitch] | rw [gw_collect] | rw [gw_watch] | rw [gw_ended])) <;> (first | exact Nat.le_refl _ | exact run_ok (by assumption) | exact run_halt (by assumption))
  clear_value go to lost leave
  simp only [Sem.runT_eq]
  split
  all_goals first
    | exact hleave _
    | exact hto _
    | exact hlost _
    | exact oper_up _ _ _ _ _ _
    | exact apply_up _ _ _ _ _ _ _
    | exact elim_up _ _ _ _ (hleave _) hto
    | exact elim_up _ _ _ _ (hlost _) fun _ => apply_up _ _ _ _ _ _ _
    | ((repeat' split) <;> (repeat (first | rw [gw_after] | rw [gw_go] | rw [gw_comm] | rw [gw_spawn] | rw [gw_count] | rw [gw_timer] | rw [gw_alone] | rw [gw_newcoro] | rw [gw_coroswitch] | rw [gw_collect] | rw [gw_watch] | rw [gw_ended])) <;> (repeat' split) <;> (repeat (first | rw [gw_after] | rw [gw_go] | rw [gw_comm] | rw [gw_spawn] | rw [gw_count] | rw [gw_timer] | rw [gw_alone] | rw [gw_newcoro] | rw [gw_coroswitch] | rw [gw_collect] | rw [gw_watch] | rw [gw_ended])) <;> first
        | exact hleave _
        | exact hto _
        | exact hlost _
        | (first | exact Nat.le_refl _ | exact run_ok (by assumption) | exact run_halt (by assumption))
        | exact oper_up _ _ _ _ _ _
        | exact hgo _ _ (Nat.le_refl _)
        | exact hgo _ _ (run_ok (by assumption))
        | exact hgo _ _ (run_halt (by assumption))
        | exact Nat.le_trans (run_ok (by assumption)) (apply_up _ _ _ _ _ _ _))
theorem stepG_up (p : Program) (main : Bool) (g : Goroutine) (w : World) (l : Bool) : w.drawn ≤ (gw (stepG p main g w l)).drawn := by
  unfold stepG
  obtain ⟨fr, cs, st, dy, of⟩ := g
  simp only
  split
  · exact die_up _ _ _ _
  · exact exec_up _ _ _ _ _ _ _
  · exact unwind_up _ _ _ _ _ _
def upS (d : Nat) : Stepped → Prop
  | .next m => d ≤ m.world.drawn
  | .ended _ _ => True
theorem upS_next {d : Nat} {m : Machine} (h : d ≤ m.world.drawn) : upS d (.next m) := h
theorem upS_ended {d : Nat} {o : Outcome} {w : World} : upS d (.ended o w) := trivial
theorem upS_le {d d' : Nat} {s : Stepped} (h : d ≤ d') (hs : upS d' s) : upS d s := by
  cases s with
  | next m => exact Nat.le_trans h hs
  | ended o w => trivial
theorem look_up (p : Program) (gs : Array Goroutine) (rest : Rest) (w : World) : upS w.drawn (look p gs rest w) := by
  unfold look
  split
  · split
    extract_lets set
    split
    split
    · exact upS_ended
    · split
      · exact upS_ended
      · extract_lets pick
        clear_value pick
        split
        · rename_i h
          exact upS_next (run_ok h : w.drawn ≤ _)
        · exact upS_ended
        · exact upS_ended
  · exact upS_ended
theorem waitingAt_drawn {rest : Rest} {cs : Array CommCase} {w w' : World} (h : waitingAt rest cs w = some w') : w'.drawn = w.drawn := by
  unfold waitingAt at h
  split at h
  · split at h
    · simp only [Option.some.injEq] at h; subst h; rfl
    · contradiction
  · simp only [Option.some.injEq] at h; subst h; rfl
theorem communicate_up (p : Program) (rest : Rest) (gs : Array Goroutine) (i : Nat) (g : Goroutine) (cs : Array CommCase) (b : Bool) (s : CommShape) (w : World) :
    upS w.drawn (communicate p rest gs i g cs b s w).1 := by
  unfold communicate
  extract_lets put illMade me other ready pick
  have hput : ∀ g gs w' ops, w.drawn ≤ w'.drawn → upS w.drawn (put g gs w' ops).1 := fun _ _ _ _ h => h
  clear_value put illMade me other ready pick
  split
  · exact upS_ended
  · split
    · split
      · split
        · rename_i h
          exact upS_next (Nat.le_of_eq (waitingAt_drawn h).symm)
        · exact upS_ended
      · exact hput _ _ _ _ (Nat.le_refl _)
    · split
      · exact upS_ended
      · rename_i h1
        have hl := run_ok h1
        clear h1
        simp only
        (repeat' split) <;> first
          | exact upS_ended
          | exact hput _ _ _ _ hl
          | (refine hput _ _ _ _ (Nat.le_trans hl ?_); (try dsimp only); exact run_ok (by assumption))
          | (refine hput _ _ _ _ (Nat.le_trans hl ?_); (try dsimp only); exact run_halt (by assumption))
theorem drain_drawn (w : World) (c : Nat) : (drain w c).2.drawn = w.drawn := by
  unfold drain
  split <;> rfl
theorem retime_drawn (m : Machine) (k : Nat) (t : Timer) (a b : Nat) : (retime m k t a b).2.world.drawn = m.world.drawn := by
  unfold retime
  cases t.chan with
  | none => rfl
  | some c => exact drain_drawn m.world c
theorem timerOp_drawn {m m' : Machine} {op : TimerOp} {v : Value} (h : timerOp m op = .ok (v, m')) : m'.world.drawn = m.world.drawn := by
  have hn : ∀ (n : Machine) var f, (∀ k t, (f k t).2.world.drawn = n.world.drawn) → timerOp.named m var f = .ok (v, m') → m'.world.drawn = n.world.drawn := fun n var f hf h => by
    unfold timerOp.named at h
    split at h
    · simp only [Except.ok.injEq] at h
      rw [← hf, h]
    · contradiction
  unfold timerOp at h
  split at h
  · split at h
    · simp only [Except.ok.injEq, Prod.mk.injEq] at h
      obtain ⟨_, rfl⟩ := h
      rfl
    · split at h
      · split at h
        · contradiction
        · simp only [Except.ok.injEq, Prod.mk.injEq] at h
          obtain ⟨_, rfl⟩ := h
          rfl
      · contradiction
  · exact hn m _ _ (fun k t => retime_drawn _ _ _ _ _) h
  · split at h
    · rename_i m2 ho
      have h2 := hn m2 _ _ (fun k t => retime_drawn _ _ _ _ _) h
      rw [h2]
      unfold timerOp.opened at ho
      (repeat' split at ho) <;> first | contradiction | (simp only [Option.some.injEq] at ho; subst ho; rfl)
    · contradiction
  · simp only [Except.ok.injEq, Prod.mk.injEq] at h
    obtain ⟨_, rfl⟩ := h
    rfl
theorem serve_up (p : Program) (m : Machine) (k : Nat) : upS m.world.drawn (serve p m k) := by
  unfold serve
  split
  · exact upS_ended
  · exact upS_next (Nat.le_refl _)
  · simp only
    split
    · exact upS_ended
    · exact upS_next (Nat.le_refl _)
def upM (d : Nat) : Move → Prop
  | .goroutine m _ => d ≤ m.world.drawn
  | .machine s _ => upS d s
theorem upM_go {d : Nat} {m : Machine} {i : Nat} (h : d ≤ m.world.drawn) : upM d (.goroutine m i) := h
theorem upM_st {d : Nat} {s : Stepped} {o : Array MemOp} (h : upS d s) : upM d (.machine s o) := h
theorem askOn_up (p : Program) (m : Machine) : upM m.world.drawn (askOn p m) := by
  unfold askOn
  extract_lets mono rs ds pick
  have hp : ∀ m' : Machine, upM m'.world.drawn (pick m') := fun m' => by
    simp only [pick]
    split
    · exact upM_st upS_ended
    · rename_i h1
      have h1 := run_ok h1
      split
      · exact upM_go h1
      · split
        · exact upM_st upS_ended
        · rename_i h2
          exact upM_go (Nat.le_trans h1 (run_ok h2))
  have hp' : ∀ m' : Machine, m.world.drawn ≤ m'.world.drawn → upM m.world.drawn (pick m') := fun m' h => by
    have := hp m'
    generalize pick m' = r at this
    cases r with
    | goroutine m i => exact Nat.le_trans h this
    | machine s o => exact upS_le h this
  clear_value pick
  clear hp
  clear_value rs ds mono
  split
  · exact upM_st upS_ended
  · rename_i h1
    have hl := run_ok h1
    clear h1
    simp only
    split
    · exact upM_st (upS_le hl (serve_up _ _ _))
    · split
      · split
        · exact upM_st (upS_next hl)
        · split
          · exact upM_st (upS_next hl)
          · split
            · exact upM_st upS_ended
            · exact upM_st upS_ended
      · split
        · exact hp' _ hl
        · split
          · exact upM_st upS_ended
          · rename_i h2
            have h2 := run_ok h2
            exact hp' _ (Nat.le_trans hl h2)
          · rename_i h2
            have h2 := run_ok h2
            exact upM_st (upS_next (Nat.le_trans hl h2))
          · rename_i h2
            have h2 := run_ok h2
            exact hp' _ (Nat.le_trans hl h2)
theorem upM_le {d d' : Nat} {s : Move} (h : d ≤ d') (hs : upM d' s) : upM d s := by
  cases s with
  | goroutine m i => exact Nat.le_trans h hs
  | machine s o => exact upS_le h hs
theorem ask_upM (p : Program) (m : Machine) : upM m.world.drawn (ask p m) := by
  unfold ask
  split
  · split
    · exact upM_st upS_ended
    · rename_i h1
      have h1 := run_ok h1
      split
      · rename_i w' _ _ m' h2
        have h3 := look_up p m.gs m.rest w'
        rw [h2] at h3
        exact upM_le (Nat.le_trans h1 h3) (askOn_up _ _)
      · rename_i w' _ _ _
        exact upM_st (upS_le h1 (look_up _ _ _ _))
    · rename_i h1
      have h1 := run_ok h1
      exact upM_le h1 (askOn_up _ _)
  · exact askOn_up _ _
theorem move_up (p : Program) (m : Machine) : upM m.world.drawn (move p m) := by
  unfold move
  split
  · split
    · exact upM_go (Nat.le_refl _)
    · exact upM_st upS_ended
  · split
    · split
      · exact upM_go (Nat.le_refl _)
      · exact ask_upM _ _
    · exact ask_upM _ _
theorem runT_up (p : Program) (m : Machine) (i : Nat) (l : Bool) : upS m.world.drawn (runT p m i l).1 := by
  unfold runT
  extract_lets rest world
  split
  extract_lets wake fn pos s ops done
  have hs : m.world.drawn ≤ (gw s).drawn := stepG_up _ _ _ _ _
  clear_value s
  cases s <;> simp only [done] <;> simp only [gw] at hs
  case ended => exact upS_ended
  case comm => exact upS_le hs (communicate_up _ _ _ _ _ _ _ _ _)
  case go => exact upS_next hs
  case spawn => exact upS_next hs
  case count =>
    split
    · exact upS_ended
    · exact upS_next hs
  case alone => exact upS_next hs
  case collect => exact upS_le hs (look_up _ _ _ _)
  case watch => exact upS_next hs
  case newcoro => exact upS_next hs
  case coroswitch =>
    split
    · exact upS_next hs
    · split
      · rename_i g w es he
        have h := congrArg gw he
        rw [endThrow_gw] at h
        simp only [gw] at h
        exact upS_next (h ▸ hs)
      · exact upS_ended
    · exact upS_ended
  case timer =>
    split
    · rename_i ht
      exact upS_next (Nat.le_trans hs (Nat.le_of_eq (timerOp_drawn ht).symm))
    · split
      · rename_i g w es he
        have h := congrArg gw he
        rw [endThrow_gw] at h
        simp only [gw] at h
        exact upS_next (h ▸ hs)
      · exact upS_ended
    · exact upS_ended
    · exact upS_ended
theorem step_up (p : Program) (m : Machine) : upS m.world.drawn (step p m) := by
  unfold step stepT
  have h := move_up p m
  generalize move p m = r at h
  cases r with
  | goroutine m' i => exact upS_le h (runT_up _ _ _ _)
  | machine s o => exact h
theorem step_le {P : Program} {m m' : Machine} (h : step P m = .next m') : m.world.drawn ≤ m'.world.drawn := by
  have h1 := step_up P m
  rw [h] at h1
  exact h1
theorem steps_up {P : Program} {m m' : Machine} (h : Steps P m m') : m.world.drawn ≤ m'.world.drawn := by
  have h2 := StepsIn.of_steps h
  clear h
  induction h2 with
  | refl => exact Nat.le_refl _
  | head _ hs _ ih => exact Nat.le_trans (step_le hs) ih
theorem Calls.grows {P : Program} {f : FuncId} {args : Array Value} {w : World} {R : Ending → World → Prop} (h : Calls P f args w R) (ho : ∀ w', ¬ R .outgrown w') :
    Calls P f args w fun e w' => R e w' ∧ w.drawn ≤ w'.drawn := fun cs => by
  obtain ⟨e, w', fr, hR, hc, hf, hl⟩ := h cs
  refine ⟨e, w', fr, ⟨hR, ?_⟩, hc, hf, hl⟩
  cases e with
  | returned v => exact steps_up hc
  | panicked c => exact steps_up hc
  | outgrown => exact absurd hR (ho w')
end Go.Proofs.YtefiiimkacemiaaGreatDoor
namespace Go.Proofs.YtefiiimkacemiaaGreatDoor
open Go.RowKit
def R0 (_ : Value) : Option (DataW Unit × List MemPlace) := some (.nil, [])
theorem EsR.keysZ {ν : Type} [Dt ν] {H : Hp} {va : Bool} : ∀ {l : List (Int × ν)} {i : Nat} {es : List MapEntry}, EsR (κ := Int) (ν := ν) H false va i es l → (es.map fun x => x.key) = l.map fun p => Value.int .i64 p.1
  | [], _, _, h => by
    have h : _ = [] := h
    rw [h]; rfl
  | p :: l, _, _, ⟨e, r, h1, h2, ⟨ss, f, h3, h4⟩, h5, h6⟩ => by
    cases h3
    rw [h1, List.map_cons, List.map_cons, EsR.keysZ h6, h4]
    rfl
theorem wfZ {a : Int} (h : inI a) : (Lit.int .i64 a).wf = true := by
  obtain ⟨h1, h2⟩ := h
  simp only [Lit.wf, Bool.and_eq_true, decide_eq_true_eq]
  exact ⟨h1, h2⟩
theorem owns_of {P : Program} {K : TypeId} (hK : P.underlying K = some (.int .i64)) {ν : Type} [Dt ν] {H : Hp} {va : Bool} {w : World} {m : Nat} {es : List MapEntry} {l : List (Int × ν)} (hm : w.heap[m]? = some (.map es.toArray es.length)) (he : EsR (κ := Int) (ν := ν) H false va 0 es l) (hnd : (l.map fun p => p.1).Nodup) (hok : ∀ p, p ∈ l → inI p.1) (hlen : l.length ≤ maxLen) :
    ∃ D : DataW Unit, w.ownsMap P K R0 m l.length D ∧ Maps.size D = l.length ∧ (intKeys D).Perm (l.map fun p => p.1) := by
  have hk := he.keysZ
  have hl := he.len
  have hb := he.born
  have hrd : ∀ x ∈ es, ∃ a, inI a ∧ x.key = .int .i64 a := fun x hx => by
    have : x.key ∈ l.map fun p => Value.int .i64 p.1 := by rw [← hk]; exact List.mem_map_of_mem hx
    obtain ⟨p, hp, e⟩ := List.mem_map.1 this
    exact ⟨p.1, hok p hp, e.symm⟩
  have hrg : (es.map (Go.WideElems.rg P K R0)).map (fun p => Go.intOf p.1) = l.map fun p => p.1 := by
    have h1 : (es.map (Go.WideElems.rg P K R0)).map (fun p => Go.intOf p.1) = (es.map fun x => x.key).map fun v => match v with | .int _ a => a | _ => 0 := by
      rw [List.map_map, List.map_map]
      refine List.map_congr_left fun x hx => ?_
      obtain ⟨a, h1, h2⟩ := hrd x hx
      have h3 : Go.WideElems.rd P K R0 x = some (.int .i64 a, (.nil : DataW Unit)) := Go.WideElems.rd_mk (key := x.key) (val := x.val) (born := x.born) (yv := (.nil, [])) (by rw [h2]; exact Maps.keyOf_int_mk hK (wfZ h1)) rfl
      have h4 : Go.WideElems.rg P K R0 x = (.int .i64 a, .nil) := Go.WideElems.rg_of h3
      simp only [Function.comp, h4, h2, Go.intOf]
    rw [h1, hk, List.map_map]
    rfl
  refine ⟨_, ⟨es.toArray, es.length, hm, ⟨by simpa [hl] using hlen, ⟨fun x hx => ?_, ?_, ?_⟩, fun x hx => ?_⟩, by simp [hl], rfl⟩, ?_, ?_⟩
  · have : x.born ∈ es.map (·.born) := List.mem_map_of_mem (by simpa using hx)
    rw [hb, List.mem_range'_1] at this
    omega
  · show (es.map (·.born)).Nodup
    rw [hb]; exact List.nodup_range'
  · show (es.map fun x => x.key).Nodup
    rw [hk]
    have : (l.map fun p => Value.int .i64 p.1) = (l.map fun p => p.1).map fun a => Value.int .i64 a := by rw [List.map_map]; rfl
    rw [this]
    exact List.pairwise_map.2 (hnd.imp fun h e => h (by cases e; rfl))
  · obtain ⟨a, h1, h2⟩ := hrd x (by simpa using hx)
    exact ⟨_, Go.WideElems.rd_mk (key := x.key) (val := x.val) (born := x.born) (by rw [h2]; exact Maps.keyOf_int_mk hK (wfZ h1)) rfl⟩
  · show (((es.map (Go.WideElems.rg P K R0)).foldr DataW.insert []).length) = l.length
    rw [(Go.WideShapes.sorted_perm _).length_eq, List.length_map, hl]
  · show (((es.map (Go.WideElems.rg P K R0)).foldr DataW.insert []).map fun p => Go.intOf p.1).Perm _
    rw [← hrg]
    exact (Go.WideShapes.sorted_perm _).map _
theorem sortZ_perm {l l' : List Int} (h : l.Perm l') : l.mergeSort (fun x y => decide (x ≤ y)) = sortZ l' := by
  refine List.Perm.eq_of_pairwise (le := fun a b => a ≤ b) (fun a b _ _ h1 h2 => Int.le_antisymm h1 h2) ?_ (sortZ_sorted l') (((List.mergeSort_perm l _).trans h).trans (sortZ_self l').symm)
  have := List.pairwise_mergeSort (le := fun x y : Int => decide (x ≤ y)) (fun a b c h1 h2 => by simp only [decide_eq_true_eq] at *; exact Int.le_trans h1 h2) (fun a b => by simp only [Bool.or_eq_true, decide_eq_true_eq]; exact Int.le_total a b) l
  exact this.imp fun h => by simpa using h
theorem DtL.ofZ {H : Hp} : ∀ l : List Int, DtL (α := Int) H (l.map encZ) l
  | [] => rfl
  | x :: l => ⟨[encZ x], l.map encZ, rfl, rfl, DtL.ofZ l⟩
end Go.Proofs.YtefiiimkacemiaaGreatDoor
namespace Go.Proofs.YtefiiimkacemiaaGreatDoor
open Go.RowKit Go.Maps Go.Sort Go.Shelf
def Tryz.keysA67_ren : Go.Shelf.Ren := ⟨fun | 7 => 68 | 10 => 92 | n => n, fun | 23 => 81 | 26 => 3 | 3 => 83 | 28 => 131 | 0 => 0 | 27 => 130 | 33 => 79 | 4 => 4 | n => n, fun | n => n⟩
theorem Tryz.keysA67 : Go.Proofs.SlLaysZI.n7 Tryz.prog Tryz.keysA67_ren := {
  mixed := by kernel_rfl
  f7 := ⟨Tryz.f68.name, by decide, Tryz.func68.trans (congrArg some (by kernel_rfl))⟩
  f10 := ⟨Tryz.f92.name, by decide, Tryz.func92.trans (congrArg some (by kernel_rfl))⟩
  t0 := Tryz.underlying0
  a0 := Tryz.isAgg0
  z0 := Tryz.sizeOf0
  v0 := Tryz.zeroValue0
  t4 := Tryz.underlying4
  a4 := Tryz.isAgg4
  z4 := Tryz.sizeOf4
  v4 := Tryz.zeroValue4
  t23 := Tryz.underlying81
  a23 := Tryz.isAgg81
  z23 := Tryz.sizeOf81
  v23 := Tryz.zeroValue81
  t26 := Tryz.underlying3
  a26 := Tryz.isAgg3
  z26 := Tryz.sizeOf3
  v26 := Tryz.zeroValue3
  t27 := Tryz.underlying130
  a27 := Tryz.isAgg130
  z27 := Tryz.sizeOf130
  v27 := Tryz.zeroValue130
  t28 := Tryz.underlying131
  a28 := Tryz.isAgg131
  z28 := Tryz.sizeOf131
  v28 := Tryz.zeroValue131
  t33 := Tryz.underlying79
  a33 := Tryz.isAgg79
  z33 := Tryz.sizeOf79
  v33 := Tryz.zeroValue79 }
def Tryz.sortedA67_ren : Go.Shelf.Ren := ⟨fun | 6 => 67 | 8 => 90 | 9 => 91 | 11 => 109 | 13 => 111 | 12 => 110 | 23 => 124 | 24 => 125 | 14 => 115 | 15 => 116 | 16 => 117 | 17 => 118 | 18 => 119 | 19 => 120 | 20 => 121 | 21 => 122 | 22 => 123 | 25 => 126 | 26 => 127 | 27 => 128 | 28 => 129 | 29 => 130 | 30 => 131 | 31 => 132 | n => n, fun | 26 => 3 | 28 => 131 | 24 => 29 | 0 => 0 | 3 => 3 | 37 => 140 | 48 => 184 | 50 => 106 | 4 => 4 | 40 => 177 | 39 => 176 | 45 => 181 | 5 => 5 | 9 => 9 | 51 => 185 | 55 => 189 | 57 => 191 | 58 => 117 | 33 => 79 | n => n, fun | n => n⟩
theorem Tryz.sortedA67 : Go.Proofs.SlLaysZI.n6 Tryz.prog Tryz.sortedA67_ren := {
  mixed := by kernel_rfl
  f6 := ⟨Tryz.f67.name, by decide, Tryz.func67.trans (congrArg some (by kernel_rfl))⟩
  f8 := ⟨Tryz.f90.name, by decide, Tryz.func90.trans (congrArg some (by kernel_rfl))⟩
  f11 := ⟨Tryz.f109.name, by decide, Tryz.func109.trans (congrArg some (by kernel_rfl))⟩
  t0 := Tryz.underlying0
  a0 := Tryz.isAgg0
  z0 := Tryz.sizeOf0
  v0 := Tryz.zeroValue0
  t24 := Tryz.underlying29
  a24 := Tryz.isAgg29
  z24 := Tryz.sizeOf29
  v24 := Tryz.zeroValue29
  t26 := Tryz.underlying3
  a26 := Tryz.isAgg3
  z26 := Tryz.sizeOf3
  v26 := Tryz.zeroValue3
  t28 := Tryz.underlying131
  a28 := Tryz.isAgg131
  z28 := Tryz.sizeOf131
  v28 := Tryz.zeroValue131
  i26 := by kernel_rfl }
def Tryz.sortA67_ren : Go.Shelf.Ren := ⟨fun | 5 => 91 | 8 => 111 | 7 => 110 | 19 => 124 | 20 => 125 | 10 => 115 | 11 => 116 | 12 => 117 | 13 => 118 | 14 => 119 | 15 => 120 | 16 => 121 | 17 => 122 | 18 => 123 | 30 => 126 | 31 => 127 | 32 => 128 | 33 => 129 | 34 => 130 | 35 => 131 | 40 => 132 | n => n, fun | 23 => 29 | 25 => 3 | 3 => 3 | 32 => 140 | 22 => 29 | 0 => 0 | 44 => 184 | 46 => 106 | 4 => 4 | 36 => 177 | 35 => 176 | 41 => 181 | 5 => 5 | 9 => 9 | 53 => 185 | 57 => 189 | 63 => 191 | 64 => 117 | n => n, fun | n => n⟩
theorem Tryz.sortA67 : Go.Proofs.SlLaysM.n5 Tryz.prog Tryz.sortA67_ren := {
  mixed := by kernel_rfl
  f5 := ⟨Tryz.f91.name, by decide, Tryz.func91.trans (congrArg some (by kernel_rfl))⟩
  f7 := ⟨Tryz.f110.name, by decide, Tryz.func110.trans (congrArg some (by kernel_rfl))⟩
  f8 := Tryz.func111.trans (congrArg some (by kernel_rfl))
  f10 := ⟨Tryz.f115.name, by decide, Tryz.func115.trans (congrArg some (by kernel_rfl))⟩
  f11 := ⟨Tryz.f116.name, by decide, Tryz.func116.trans (congrArg some (by kernel_rfl))⟩
  f12 := ⟨Tryz.f117.name, by decide, Tryz.func117.trans (congrArg some (by kernel_rfl))⟩
  f13 := ⟨Tryz.f118.name, by decide, Tryz.func118.trans (congrArg some (by kernel_rfl))⟩
  f14 := ⟨Tryz.f119.name, by decide, Tryz.func119.trans (congrArg some (by kernel_rfl))⟩
  f15 := ⟨Tryz.f120.name, by decide, Tryz.func120.trans (congrArg some (by kernel_rfl))⟩
  f16 := ⟨Tryz.f121.name, by decide, Tryz.func121.trans (congrArg some (by kernel_rfl))⟩
  f17 := ⟨Tryz.f122.name, by decide, Tryz.func122.trans (congrArg some (by kernel_rfl))⟩
  f18 := ⟨Tryz.f123.name, by decide, Tryz.func123.trans (congrArg some (by kernel_rfl))⟩
  f19 := Tryz.func124.trans (congrArg some (by kernel_rfl))
  f20 := Tryz.func125.trans (congrArg some (by kernel_rfl))
  f30 := ⟨Tryz.f126.name, by decide, Tryz.func126.trans (congrArg some (by kernel_rfl))⟩
  f31 := Tryz.func127.trans (congrArg some (by kernel_rfl))
  f32 := Tryz.func128.trans (congrArg some (by kernel_rfl))
  f33 := ⟨Tryz.f129.name, by decide, Tryz.func129.trans (congrArg some (by kernel_rfl))⟩
  f34 := ⟨Tryz.f130.name, by decide, Tryz.func130.trans (congrArg some (by kernel_rfl))⟩
  f35 := ⟨Tryz.f131.name, by decide, Tryz.func131.trans (congrArg some (by kernel_rfl))⟩
  f40 := ⟨Tryz.f132.name, by decide, Tryz.func132.trans (congrArg some (by kernel_rfl))⟩
  t0 := Tryz.underlying0
  a0 := Tryz.isAgg0
  z0 := Tryz.sizeOf0
  v0 := Tryz.zeroValue0
  t3 := Tryz.underlying3
  a3 := Tryz.isAgg3
  z3 := Tryz.sizeOf3
  v3 := Tryz.zeroValue3
  t4 := Tryz.underlying4
  a4 := Tryz.isAgg4
  z4 := Tryz.sizeOf4
  v4 := Tryz.zeroValue4
  t5 := Tryz.underlying5
  a5 := Tryz.isAgg5
  z5 := Tryz.sizeOf5
  v5 := Tryz.zeroValue5
  t9 := Tryz.underlying9
  a9 := Tryz.isAgg9
  z9 := Tryz.sizeOf9
  v9 := Tryz.zeroValue9
  t22 := Tryz.underlying29
  a22 := Tryz.isAgg29
  z22 := Tryz.sizeOf29
  v22 := Tryz.zeroValue29
  t23 := Tryz.underlying29
  a23 := Tryz.isAgg29
  z23 := Tryz.sizeOf29
  v23 := Tryz.zeroValue29
  t25 := Tryz.underlying3
  a25 := Tryz.isAgg3
  z25 := Tryz.sizeOf3
  v25 := Tryz.zeroValue3
  t32 := Tryz.underlying140
  a32 := Tryz.isAgg140
  z32 := Tryz.sizeOf140
  v32 := Tryz.zeroValue140
  t35 := Tryz.underlying176
  a35 := Tryz.isAgg176
  z35 := Tryz.sizeOf176
  v35 := Tryz.zeroValue176
  t36 := Tryz.underlying177
  a36 := Tryz.isAgg177
  z36 := Tryz.sizeOf177
  v36 := Tryz.zeroValue177
  t41 := Tryz.underlying181
  a41 := Tryz.isAgg181
  z41 := Tryz.sizeOf181
  v41 := Tryz.zeroValue181
  t44 := Tryz.underlying184
  a44 := Tryz.isAgg184
  z44 := Tryz.sizeOf184
  v44 := Tryz.zeroValue184
  t46 := Tryz.underlying106
  a46 := Tryz.isAgg106
  z46 := Tryz.sizeOf106
  v46 := Tryz.zeroValue106
  t53 := Tryz.underlying185
  a53 := Tryz.isAgg185
  z53 := Tryz.sizeOf185
  v53 := Tryz.zeroValue185
  t57 := Tryz.underlying189
  a57 := Tryz.isAgg189
  z57 := Tryz.sizeOf189
  v57 := Tryz.zeroValue189
  t63 := Tryz.underlying191
  a63 := Tryz.isAgg191
  z63 := Tryz.sizeOf191
  v63 := Tryz.zeroValue191
  t64 := Tryz.underlying117
  a64 := Tryz.isAgg117
  z64 := Tryz.sizeOf117
  v64 := Tryz.zeroValue117 }
theorem sorts67 (m : Nat) : AnyZI.SortsIn Tryz.prog Tryz.sortedA67_ren Fence.wide m :=
  ⟨fun blk off cap ss W hH hblk hsz => callsIn_wide.2 (AnyM.slices_Sort_int Tryz.sortA67 blk off cap ss W hH hblk hsz), fun p cap W => callsIn_wide.2 (AnyM.slices_Sort_int_none Tryz.sortA67 p cap W)⟩
theorem skh67 {ν : Type} [Dt ν] {H : Hp} {va : Bool} {w : World} {bx m T : Nat} {es : List MapEntry} {l : List (Int × ν)} (hbx : w.heap[bx]? = some (.cells #[.map (some m)] T (0, 0))) (hm : w.heap[m]? = some (.map es.toArray es.length)) (he : EsR (κ := Int) (ν := ν) H false va 0 es l) (hnd : (l.map fun p => p.1).Nodup) (hok : ∀ p, p ∈ l → inI p.1) (hlen : lenOk l.length 8) :
    Calls Tryz.prog 67 #[.func (.func 92) #[] #[.pointer (some ⟨bx, 0, none⟩)]] w fun e w' => ∃ v s, e = .returned v ∧ Below w.heap.size w w' ∧ w'.ownsRow w.heap.size 3 1 v (sortZ (l.map fun p => p.1)).length s ∧ DtL (α := Int) H s (sortZ (l.map fun p => p.1)) := by
  obtain ⟨D0, hown, hsz, hperm⟩ := owns_of (P := Tryz.prog) (K := 3) (by kernel_rfl) hm he hnd hok hlen.2
  have hcell : w.cell? ⟨bx, 0, none⟩ = some (.map (some m)) := by simp [World.cell?, hbx]
  have hseq : SeqGives Fence.wide 2 Tryz.prog 92 #[.pointer (some ⟨bx, 0, none⟩)] encZ (fun ss => ss.Perm (intKeys D0)) (Maps.size D0) w :=
    AnyZI.keys_gives (ρ := Tryz.keysA67_ren) { Tryz.keysA67 with } Fence.wide _ trivial rfl (by omega) bx m l.length D0 _ (lt_of_heap hbx) hcell hown
  have cS := AnyZI.sorted_in Tryz.sortedA67 Fence.wide 5 trivial trivial trivial trivial rfl (by omega) (sorts67 _) (enters_of Tryz.func91 (by kernel_rfl) rfl) 92 #[.pointer (some ⟨bx, 0, none⟩)] trivial (enters_of Tryz.func92 (by kernel_rfl) rfl) _ _ (by rw [hsz]; exact hlen.2) (by rw [hsz]; exact hlen.1) _ hseq
  change CallsIn _ _ Tryz.prog 67 _ _ _ at cS
  have cG := Calls.grows (callsIn_wide.1 cS) fun w' ⟨_, _, h, _⟩ => by cases h
  refine cG.mono fun e w' ⟨⟨v, ss, h1, h2, h3, h4, h5⟩, hd⟩ => ?_
  have hs := sortZ_perm (h2.trans hperm)
  have hn : ss.length = (sortZ (l.map fun p => p.1)).length := by rw [← hs, List.length_mergeSort]
  rw [hs, hn] at h3
  exact ⟨v, _, h1, ⟨h5, hd⟩, h3, DtL.ofZ _⟩
theorem skok67 : sk67.Ok Tryz.prog := fun _ _ _ _ _ _ _ hbx hm he hnd hok hlen => skh67 hbx hm he hnd hok hlen
end Go.Proofs.YtefiiimkacemiaaGreatDoor
