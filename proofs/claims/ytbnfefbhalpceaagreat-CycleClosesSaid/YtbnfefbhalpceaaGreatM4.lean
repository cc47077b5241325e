/- Part 4 of the proof of the statement CycleClosesSaid: lemmas. No condition of its own. -/
import Derived.Lib.TrailingZeros
import Derived.Shelf.SlSortCmp.NoneTotal
import Derived.ProofKit
import Derived.Test.YtbnfefbhalpceaaGreatRows
import Derived.Test.YtbnfefbhalpceaaGreatM3
namespace Go.Proofs.YtbnfefbhalpceaaGreat
open Go.RowKit
section
section
variable {F : Fence} {n : Nat} {P : Program} {ops : Array Oper} {Q : Exit → Act → World → Prop}
def wpAnyG (F : Fence) (n : Nat) (P : Program) (ops : Array Oper) (Q : Exit → Act → World → Prop) (G : World → Prop) : Nat → Array Bool → Act → World → Prop
  | 0, ls, a, w => Region.ready .any ops ls = [] ∧ Q .normal a w
  | f + 1, ls, a, w => (Region.ready .any ops ls = [] → Q .normal a w) ∧ ∀ i ∈ Region.ready .any ops ls, wpOpIn F n P ops Q i (fun a' w' => G w' ∧ wpAnyG F n P ops Q G f (ls.setIfInBounds i true) a' w') a w
theorem wpAnyG.any {G : World → Prop} : ∀ {f : Nat} {ls : Array Bool} {a : Act} {w : World}, wpAnyG F n P ops Q G f ls a w → wpAnyIn F n P .any ops Q f ls a w
  | 0, _, _, _, h => h
  | _ + 1, _, _, _, h => ⟨h.1, fun i hi => wpOpIn_mono (fun _ _ k => k.2.any) (h.2 i hi)⟩
theorem wpAnyG.mono {G G' : World → Prop} (hG : ∀ w, G w → G' w) : ∀ {f : Nat} {ls : Array Bool} {a : Act} {w : World}, wpAnyG F n P ops Q G f ls a w → wpAnyG F n P ops Q G' f ls a w
  | 0, _, _, _, h => h
  | _ + 1, _, _, _, h => ⟨h.1, fun i hi => wpOpIn_mono (fun _ _ k => ⟨hG _ k.1, k.2.mono hG⟩) (h.2 i hi)⟩
def YG (G : World → Prop) (P : Program) (ops : Array Oper) (o : Oper) (v : Value) (a : Act) : Prop :=
  ((Region.wanted o (yielded ops a.tmps) = true ∧ ∀ w, G w → (execOp a.eval o).run P w = .ok (.value v) w) ∨ (Region.wanted o (yielded ops a.tmps) = false ∧ v = undef)) ∧ ∀ w, o.about P w a.eval = none
theorem YG.of_same {G : World → Prop} {o : Oper} {v : Value} {a a' : Act} (hy : YG G P ops o v a) (he : execOp a'.eval o = execOp a.eval o)
    (hw : Region.wanted o (yielded ops a'.tmps) = Region.wanted o (yielded ops a.tmps)) (hb : ∀ w, o.about P w a'.eval = o.about P w a.eval) : YG G P ops o v a' := by
  unfold YG at *
  rw [he, hw]
  exact ⟨hy.1, fun w => by rw [hb w]; exact hy.2 w⟩
theorem YG.wpOpIn {G : World → Prop} {i : Nat} {o : Oper} {v : Value} {a : Act} (hro : F.round = none) (hi : ops[i]? = some o) (hy : YG G P ops o v a) {K : Act → World → Prop} {w : World} (hG : G w) (h : K (a.put o.dst v) w) : wpOpIn F n P ops Q i K a w := by
  unfold Go.wpOpIn
  simp only [hi]
  have hab : ∀ f, o.about P w a.eval = some f → F.fn f := fun f hf => by rw [hy.2 w] at hf; cases hf
  rcases hy.1 with ⟨hw, hv⟩ | ⟨hw, rfl⟩
  · simp only [hw, if_true, Oper.wpIn, hro, Oper.semAt_none, hv w hG, Oper.uponIn]; exact ⟨hab, h⟩
  · simp only [hw, Bool.false_eq_true, if_false]; exact ⟨hab, h⟩
theorem wpOpIn_putG {G : World → Prop} {j : Nat} {oi oj : Oper} {v : Value} (hro : F.round = none) (hj : ops[j]? = some oj) (hap : oi.apart ops oj = true)
    (hsi : ∀ cs b, oi.op ≠ .select cs b) (hsj : ∀ cs b, oj.op ≠ .select cs b)
    (hQ : ∀ c a w, Q (.panic c) (a.put oi.dst v) w → Q (.panic c) a w) {K : Act → World → Prop} {a : Act} {w : World}
    (hy : YG G P ops oi v a) (h : wpOpIn F n P ops Q j K (a.put oi.dst v) w) :
    wpOpIn F n P ops Q j (fun a' w' => YG G P ops oi v a' ∧ K (a'.put oi.dst v) w') a w := by
  obtain ⟨h1, h2, h3⟩ := Oper.apart_spec hap
  have keep : ∀ (a : Act), YG G P ops oi v a → ∀ u, YG G P ops oi v (a.put oj.dst u) := fun a hy u =>
    hy.of_same (execOp_put oi hsi a oj.dst u h3) (wanted_put oi a oj.dst u h3) (fun w => about_put oi w a oj.dst u h3)
  have keepD : ∀ d, YG G P ops oi v { a with defers := d :: a.defers } := fun d => hy.of_same rfl rfl (fun _ => rfl)
  unfold wpOpIn at *
  simp only [hj] at *
  rw [wanted_put oj a oi.dst v h1, about_put oj w a oi.dst v h1] at h
  split
  · rename_i hw
    simp only [hw, if_true] at h
    unfold Oper.wpIn at *
    rw [about_put oj w a oi.dst v h1] at h
    refine ⟨h.1, ?_⟩
    have h := h.2
    rw [hro, Oper.semAt_none, execOp_put oj hsj a oi.dst v h1] at h
    rw [hro, Oper.semAt_none]
    generalize (execOp a.eval oj).run P w = r at *
    cases r with
    | ok x w' =>
      cases x <;> simp only [Oper.uponIn] at h ⊢
      case value u => exact ⟨keep a hy u, by rw [← Act.put_comm a v u h2]; exact h⟩
      case skip => exact ⟨keep a hy _, by rw [← Act.put_comm a v undef h2]; exact h⟩
      case defer d =>
        refine ⟨keep _ (keepD d) _, ?_⟩
        rw [← Act.put_comm _ v undef h2, ← Act.put_defers]
        exact h
      case enter f args =>
        refine ⟨h.1, CallsIn.mono h.2 fun e w'' he => ?_⟩
        cases e with
        | returned u => exact ⟨keep a hy u, by rw [← Act.put_comm a v u h2]; exact he⟩
        | panicked c => exact hQ _ _ _ he
        | outgrown => exact he
      case row row args => exact ⟨h.1, RowsIn.mono h.2 fun u w'' he => ⟨keep a hy u, by rw [← Act.put_comm a v u h2]; exact he⟩⟩
      case round l f tmps assign body =>
        refine ⟨h.1, RoundIn.mono h.2 fun e w'' he => ?_⟩
        cases e with
        | returned u => exact ⟨keep a hy u, by rw [← Act.put_comm a v u h2]; exact he⟩
        | panicked c => exact hQ _ _ _ he
        | outgrown => exact he
    | halt x w' =>
      cases x <;> simp only [Oper.uponIn] at h ⊢
      case panic u => exact hQ _ _ _ h
  · rename_i hw
    simp only [hw] at h
    exact ⟨h.1, keep a hy _, by rw [← Act.put_comm a v undef h2]; exact h.2⟩
theorem wpAnyG_first {G : World → Prop} {i : Nat} {oi : Oper} {v : Value} (hro : F.round = none) (hi : ops[i]? = some oi) (hsel : ∀ (j : Nat) (o : Oper) cs b, ops[j]? = some o → o.op ≠ .select cs b)
    (hQ : ∀ c a w, Q (.panic c) (a.put oi.dst v) w → Q (.panic c) a w) :
    ∀ (fuel : Nat) (listed : Array Bool) (a : Act) (w : World), G w →
      (∀ j oj, ops[j]? = some oj → j ≠ i → listed.getD j true = false → (∀ e ∈ oj.after, Region.binds .any e = true → e.on ≠ i) → oi.apart ops oj = true) →
      i ∈ Region.ready .any ops listed → YG G P ops oi v a →
      wpAnyG F n P ops Q G fuel (listed.setIfInBounds i true) (a.put oi.dst v) w → wpAnyG F n P ops Q G (fuel + 1) listed a w := by
  intro fuel
  induction fuel with
  | zero =>
    intro listed a w hG _ hr hy H
    refine ⟨fun h => (by rw [h] at hr; cases hr), fun j hj => ?_⟩
    by_cases hji : j = i
    · subst hji; exact hy.wpOpIn hro hi hG ⟨hG, H⟩
    · have := ready_mono hj hji
      rw [H.1] at this
      cases this
  | succ fuel ih =>
    intro listed a w hG hfree hr hy H
    refine ⟨fun h => (by rw [h] at hr; cases hr), fun j hj => ?_⟩
    by_cases hji : j = i
    · subst hji; exact hy.wpOpIn hro hi hG ⟨hG, H⟩
    · have h1 := H.2 j (ready_mono hj hji)
      obtain ⟨hjun, oj, hoj, hall⟩ := Go.mem_ready.1 hj
      have hnot : ∀ e ∈ oj.after, Region.binds .any e = true → e.on ≠ i := fun e he hb heq => by
        have h1 := hall e he hb
        have h0 := (Go.mem_ready.1 hr).1
        rw [heq] at h1
        rcases Nat.lt_or_ge i listed.size with h' | h'
        · simp [h'] at h0 h1; rw [h0] at h1; cases h1
        · simp [Array.getElem?_eq_none h'] at h1
      have h2 := wpOpIn_putG hro hoj (hfree j oj hoj hji hjun hnot) (fun cs b => hsel i oi cs b hi) (fun cs b => hsel j oj cs b hoj) hQ hy h1
      have hfree' : ∀ k ok, ops[k]? = some ok → k ≠ i → (listed.setIfInBounds j true).getD k true = false →
          (∀ e ∈ ok.after, Region.binds .any e = true → e.on ≠ i) → oi.apart ops ok = true := fun k ok hk hki hun hno => by
        refine hfree k ok hk hki ?_ hno
        by_cases hjk : j = k
        · subst hjk; exact hjun
        · rw [getD_set_ne true hjk] at hun; exact hun
      refine wpOpIn_mono (fun a' w' h3 => ⟨h3.2.1, ih (listed.setIfInBounds j true) a' w' h3.2.1 hfree' (ready_mono hr (Ne.symm hji)) h3.1 ?_⟩) h2
      rw [Array.setIfInBounds_comm _ _ hji]
      exact h3.2.2
theorem Oper.wpIn_QK {o : Oper} {a : Act} {w : World} {K K' : Act → World → Prop} {Q Q' : Exit → Act → World → Prop} (hK : ∀ a w, K a w → K' a w) (hQ : ∀ e a w, e ≠ .normal → Q e a w → Q' e a w) (hh : o.wpIn F n P a w K Q) : o.wpIn F n P a w K' Q' := by
  unfold Oper.wpIn at *
  refine ⟨hh.1, ?_⟩
  have hh := hh.2
  have hl : LetsOut Q → LetsOut Q' := fun ⟨a, w, h⟩ => ⟨a, w, hQ _ _ _ (by simp) h⟩
  generalize (o.semAt F.round a.eval).run P w = r at *
  cases r with
  | ok x w' =>
    cases x <;> simp only [Oper.uponIn] at hh ⊢
    case value u => exact hK _ _ hh
    case skip => exact hK _ _ hh
    case defer d => exact hK _ _ hh
    case enter f args =>
      refine ⟨hh.1, CallsIn.mono hh.2 fun e w'' he => ?_⟩
      cases e with
      | returned u => exact hK _ _ he
      | panicked c => exact hQ _ _ _ (by simp) he
      | outgrown => exact hl he
    case row row args => exact ⟨hh.1, RowsIn.mono hh.2 fun u w'' he => hK _ _ he⟩
    case round l f tmps assign body =>
      refine ⟨hh.1, RoundIn.mono hh.2 fun e w'' he => ?_⟩
      cases e with
      | returned u => exact hK _ _ he
      | panicked c => exact hQ _ _ _ (by simp) he
      | outgrown => exact hl he
  | halt x w' =>
    cases x <;> simp only [Oper.uponIn] at hh ⊢
    case panic u => exact hQ _ _ _ (by simp) hh
end
def isQuiet (o : Oper) : Bool := match o.op with
  | .move _ => true
  | .load _ _ => true
  | _ => false
def flB (ops : Array Oper) (fl : List Nat) : List Nat → Array Bool → Bool
  | [], ls => (Region.ready .any ops ls).isEmpty
  | i :: g, ls => (Region.ready .any ops ls).contains i && (bif fl.any (Nat.beq i) then (match ops[i]? with | some o => isQuiet o | none => false) && Region.free .any ops ls i else eqL (Region.ready .any ops ls) [i]) && flB ops fl g (ls.setIfInBounds i true)
theorem eqL_ok : ∀ {l m : List Nat}, eqL l m = true → l = m
  | [], [], _ => rfl
  | [], _ :: _, h => by cases h
  | _ :: _, [], h => by cases h
  | a :: l, b :: m, h => by
    have h : (Nat.beq a b && eqL l m) = true := h
    rw [Bool.and_eq_true] at h
    rw [Nat.eq_of_beq_eq_true h.1, eqL_ok h.2]
theorem isQuiet_about {P : Program} {o : Oper} (h : isQuiet o = true) (a : Act) (w : World) : o.about P w a.eval = none := by
  unfold isQuiet at h
  split at h
  · rename_i x hop; unfold Oper.about; rw [hop]
  · rename_i T x hop; unfold Oper.about; rw [hop]
  · cases h
section
variable {D : Nat → Type} [∀ t, Dt (D t)]
def quietE (E : Env D) (fr : List (Nat × Blk D)) (o : Oper) (st : St D) : Option (SV D) := match o.op with
  | .move x => evO st.sl x
  | .load T x => match (evO st.sl x).map (res st.kn) with
    | some (.ptr id off) => match st.lk fr id with
      | some (.fbx _ _) => ldE E.P E.tb (st.lk fr) (.ptr id off) T
      | _ => none
    | _ => none
  | _ => none
def panK (kp : Exit → St D → Prop) (e : Exit) (st : St D) : Prop := match e with
  | .panic c => kp (.panic c) st
  | _ => False
def dstB (ops : Array Oper) (t : Nat) : Bool := ops.toList.any fun o => match o.dst with
  | some d => Nat.beq d t
  | none => false
def cutS (ops : Array Oper) : List (Nat × SV D) → List (Nat × SV D)
  | [] => []
  | p :: r => bif dstB ops p.1 then cutS ops r else p :: cutS ops r
omit [∀ t, Dt (D t)] in
theorem cutS_ok {ops : Array Oper} {t : Nat} {v : SV D} : ∀ {l : List (Nat × SV D)}, getS (cutS ops l) t = some v → (∃ u, getS l t = some u ∧ (dstB ops t = false → u = v)) ∧ dstB ops t = false
  | [], h => by cases h
  | (s, u) :: r, h => by
    unfold cutS at h
    cases hd : dstB ops s with
    | true =>
      rw [hd, cond_true] at h
      obtain ⟨⟨x, h1, h2⟩, h3⟩ := cutS_ok h
      refine ⟨⟨x, ?_, h2⟩, h3⟩
      unfold getS
      cases hb : Nat.beq t s with
      | true =>
        obtain rfl := Nat.eq_of_beq_eq_true hb
        rw [hd] at h3; cases h3
      | false => exact h1
    | false =>
      rw [hd, cond_false] at h
      unfold getS at h ⊢
      cases hb : Nat.beq t s with
      | true =>
        rw [hb, cond_true] at h
        cases h
        obtain rfl := Nat.eq_of_beq_eq_true hb
        exact ⟨⟨_, rfl, fun _ => rfl⟩, hd⟩
      | false =>
        rw [hb, cond_false] at h
        exact cutS_ok h
omit [∀ t, Dt (D t)] in
theorem put_defers (a : Act) (d : Option Nat) (v : Value) : (a.put d v).defers = a.defers := by cases d <;> rfl
omit [∀ t, Dt (D t)] in
theorem put_size (a : Act) (d : Option Nat) (v : Value) : (a.put d v).tmps.size = a.tmps.size := by
  cases d with
  | none => rfl
  | some d => simp [Act.put]
omit [∀ t, Dt (D t)] in
theorem put_get {ops : Array Oper} {i t : Nat} {o : Oper} (a : Act) (hi : ops[i]? = some o) (ht : dstB ops t = false) (v : Value) : (a.put o.dst v).tmps.getD t undef = a.tmps.getD t undef := by
  cases hd : o.dst with
  | none => rfl
  | some d =>
    have hne : d ≠ t := fun e => by
      subst e
      have : dstB ops d = true := by
        unfold dstB
        refine List.any_eq_true.2 ⟨o, ?_, by rw [hd]; exact Nat.beq_refl d⟩
        exact List.mem_of_getElem? (by rw [Array.getElem?_toList]; exact hi)
      rw [this] at ht; cases ht
    simp only [Act.put, Array.getD_eq_getD_getElem?, Array.getElem?_setIfInBounds, hne, if_false]
def stepF (E : Env D) (cI : CallI D) (fr : List (Nat × Blk D)) (pos : List Nat) (q : Bool) (o : Oper) (st : St D) (K : St D → Prop) (kp : Exit → St D → Prop) : Prop := match q with
  | true => match quietE E fr o st with
    | some v => K (st.put o.dst v)
    | none => False
  | false => stepE E cI fr pos o st K (panK kp)
def runFl (E : Env D) (cI : CallI D) (N : Nat) (fr : List (Nat × Blk D)) (pos : List Nat) (ops : Array Oper) (fl : List Nat) : List Nat → St D → (St D → Prop) → (Exit → St D → Prop) → Prop
  | [], st, K, _ => K st
  | i :: g, st, K, kp => match ops[i]? with
    | none => False
    | some o => cdP (dstOk o.dst N) (match gdE ops st o.guard with
      | .yes => stepF E cI fr ((10 + i) :: pos) (fl.any (Nat.beq i)) o st (fun st' => runFl E cI N fr pos ops fl g st' K kp) kp
      | .no => runFl E cI N fr pos ops fl g (st.put o.dst (.c undef)) K kp
      | .ask t v want => askF v
          (cdP want (stepF E cI fr ((10 + i) :: pos) (fl.any (Nat.beq i)) o (st.know (.tmp t) true) (fun st' => runFl E cI N fr pos ops fl g st' K kp) kp) (runFl E cI N fr pos ops fl g ((st.know (.tmp t) true).put o.dst (.c undef)) K kp))
          (cdP want (runFl E cI N fr pos ops fl g ((st.know (.tmp t) false).put o.dst (.c undef)) K kp) (stepF E cI fr ((10 + i) :: pos) (fl.any (Nat.beq i)) o (st.know (.tmp t) false) (fun st' => runFl E cI N fr pos ops fl g st' K kp) kp))
      | .bad => False) False
variable {E : Env D} {cI : CallI D} {fr : List (Nat × Blk D)} {F : List Ent} {w0 w : World} {H0 H : Hp} {R : List Ent} {ρ : RM} {L : List Ent} {st : St D} {σ : Nat → Value}
def AgH (H : Hp) (w : World) : Prop := ∀ b o, H b = some o → w.heap[b]? = some o
theorem AgH.le {H H' : Hp} (h : H.le H') {w : World} (k : AgH H' w) : AgH H w := fun b o e => k b o (h b o e)
theorem quietE_ok (hs : Sat fr F w0 H0 R H ρ L st σ w) {o : Oper} {v : SV D} (h : quietE E fr o st = some v) : (∃ x, Rv H ρ x v ∧ ∀ w', AgH H w' → Ex E.P σ o.op o.type w' x w') ∧ ∀ (a : Act) w, o.about E.P w a.eval = none := by
  unfold quietE at h
  split at h
  · rename_i x hop
    exact ⟨⟨_, evO_ok hs.sl h, fun w' _ => by rw [hop]; exact Ex.move _ rfl⟩, fun a w => by unfold Oper.about; rw [hop]⟩
  · rename_i T x hop
    refine ⟨?_, fun a w => by unfold Oper.about; rw [hop]⟩
    split at h
    · rename_i id off hx
      obtain ⟨v0, hv0, hv1⟩ := Option.map_eq_some_iff.1 hx
      have hv2 := hs.res (evO_ok hs.sl hv0)
      rw [hv1] at hv2
      obtain ⟨b, e1, e2⟩ := hv2
      split at h
      · rename_i T' cs hl
        obtain ⟨L1, S, L2, ⟨rfl, b', vs, f1, f2, f3⟩, _⟩ := hs.read hl
        rw [e1] at f1; cases f1
        have M : ∀ {w' : World}, AgH H w' → Mem w' H w' H [] := fun ha => Mem.start ha
        unfold ldE at h
        split at h
        · rename_i n hn
          have e3 : ldC E.tb (st.lk fr) (.ptr id off) n = some (part cs off n) := by unfold ldC; simp only [hl]
          rw [e3] at h
          obtain ⟨h1, h2⟩ := cif h
          cases h2
          have hu := (f3.drop off).take n
          refine ⟨_, ⟨_, rfl, hu⟩, fun w' ha => by rw [hop]; exact Ex.loadHA (M ha) (Hp.le.refl _) f2 _ (agOf_ok hn) e2 (by rw [RvL.length hu]; exact Nat.eq_of_beq_eq_true h1) rfl⟩
        · obtain ⟨h1, h⟩ := cif h
          have e3 : ldC E.tb (st.lk fr) (.ptr id off) 1 = some (part cs off 1) := by unfold ldC; simp only [hl]
          rw [e3] at h
          split at h
          · rename_i v' hp
            cases h
            have hu := (f3.drop off).take 1
            have hp : part cs off 1 = [v] := Option.some.inj hp
            unfold part at hp
            rw [hp] at hu
            obtain ⟨u, q, e4, h3, h4⟩ := hu
            obtain rfl : q = [] := h4
            exact ⟨u, h3, fun w' ha => by rw [hop]; exact Ex.loadH (M ha) (Hp.le.refl _) f2 (tyOne_of h1) e2 (drop_take1 e4)⟩
          · cases h
      · cases h
    · cases h
  · cases h
theorem runFl_ok (hE : E.Ok) (h0 : E.G H0) (hI : CallOk E.P E.G cI) {pos : List Nat} {md N : Nat} {ops : Array Oper} {fl : List Nat} {Dd : List Deferred} {K : St D → Prop} {kp : Exit → St D → Prop} {Q : Exit → Act → World → Prop} (hQ : ∀ (i : Nat) (o : Oper) (v : Value) c a w, ops[i]? = some o → Q (.panic c) (a.put o.dst v) w → Q (.panic c) a w) (hsel : Region.noSelect ops = true) : ∀ {g : List Nat} {ls : Array Bool} {st : St D} {H : Hp} {ρ : RM} {L : List Ent} {σ : Nat → Value} {w : World} {a : Act},
    Rep N Dd σ a → Sat fr F w0 H0 R H ρ L st σ w → runFl E cI N fr pos ops fl g st K kp → flB ops fl g ls = true → Goes fr F w0 H0 R H ρ K (fun σ' w' => ∀ a', Rep N Dd σ' a' → Q .normal a' w') → (∀ c, Goes fr F w0 H0 R H ρ (kp (.panic c)) fun σ' w' => ∀ a', Rep N Dd σ' a' → Q (.panic c) a' w') → wpAnyG (FR none) md E.P ops Q (AgH H) g.length ls a w
  | [], ls, st, H, ρ, L, σ, w, a, ha, hs, h, hf, k, _ => ⟨List.isEmpty_iff.1 hf, k.go h hs a ha⟩
  | i :: g, ls, st, H, ρ, L, σ, w, a, ha, hs, h, hf, k, kq => by
    unfold runFl at h
    unfold flB at hf
    rw [Bool.and_eq_true, Bool.and_eq_true] at hf
    obtain ⟨⟨hr, hfr⟩, hf⟩ := hf
    have hr : i ∈ Region.ready .any ops ls := by simpa using hr
    cases ho : ops[i]? with
    | none => simp only [ho] at h
    | some o =>
      simp only [ho] at h
      obtain ⟨hd, h⟩ := cifP h
      have ag : AgH H w := hs.mem.agree
      have hwt : Region.wanted o (yielded ops a.tmps) = gdOk ops σ o.guard := wanted_of ha
      have rest : ∀ {st' : St D} {σ' : Nat → Value} {w' : World} {H' : Hp} {ρ' : RM} {L' : List Ent} {a' : Act}, Rep N Dd σ' a' → runFl E cI N fr pos ops fl g st' K kp → H.le H' → RM.le ρ ρ' → Sat fr F w0 H0 R H' ρ' L' st' σ' w' → wpAnyG (FR none) md E.P ops Q (AgH H) g.length (ls.setIfInBounds i true) a' w' := fun h1 h2 h3 h4 h5 => (runFl_ok hE h0 hI hQ hsel h1 h5 h2 hf (k.mono h3 h4) fun c => (kq c).mono h3 h4).mono fun w hw => hw.le h3
      have quiet : fl.any (Nat.beq i) = true → isQuiet o = true := fun hq => by
        rw [hq, cond_true, ho, Bool.and_eq_true] at hfr
        exact hfr.1
      have first : ∀ {v : Value}, fl.any (Nat.beq i) = true → YG (AgH H) E.P ops o v a → wpAnyG (FR none) md E.P ops Q (AgH H) g.length (ls.setIfInBounds i true) (a.put o.dst v) w → wpAnyG (FR none) md E.P ops Q (AgH H) (g.length + 1) ls a w := fun hq hy hw => by
        rw [hq, cond_true, Bool.and_eq_true] at hfr
        exact wpAnyG_first rfl ho (Region.noSelect_spec hsel) (fun c a w hc => hQ _ _ _ c a w ho hc) g.length ls a w ag (Region.free_spec ho hfr.2) hr hy hw
      have only : fl.any (Nat.beq i) = false → wpOpIn (FR none) md E.P ops Q i (fun a' w' => AgH H w' ∧ wpAnyG (FR none) md E.P ops Q (AgH H) g.length (ls.setIfInBounds i true) a' w') a w → wpAnyG (FR none) md E.P ops Q (AgH H) (g.length + 1) ls a w := fun hq hw => by
        rw [hq, cond_false] at hfr
        have e : Region.ready .any ops ls = [i] := eqL_ok hfr
        refine ⟨fun h => (by rw [e] at h; cases h), fun j hj => ?_⟩
        rw [e, List.mem_singleton] at hj
        subst hj; exact hw
      have noAbout : ∀ f, o.about E.P w a.eval = some f → (FR none).fn f := fun f _ => FR_fn _ f
      have pass : ∀ {st : St D}, Sat fr F w0 H0 R H ρ L st σ w → gdOk ops σ o.guard = false → runFl E cI N fr pos ops fl g (st.put o.dst (.c undef)) K kp → wpAnyG (FR none) md E.P ops Q (AgH H) (g.length + 1) ls a w := fun hs hg h => by
        have hw := rest (ha.put hd undef) h (Hp.le.refl _) (RM.le.refl _) (hs.putU o.dst)
        cases hq : fl.any (Nat.beq i) with
        | false =>
          refine only hq ?_
          unfold wpOpIn
          rw [ho]
          simp only
          rw [hwt, hg]
          exact ⟨noAbout, ag, hw⟩
        | true => exact first hq ⟨.inr ⟨hwt.trans hg, rfl⟩, fun w => isQuiet_about (quiet hq) a w⟩ hw
      have step : ∀ {st : St D}, Sat fr F w0 H0 R H ρ L st σ w → gdOk ops σ o.guard = true → stepF E cI fr ((10 + i) :: pos) (fl.any (Nat.beq i)) o st (fun st' => runFl E cI N fr pos ops fl g st' K kp) kp → wpAnyG (FR none) md E.P ops Q (AgH H) (g.length + 1) ls a w := fun {st} hs hg h => by
        unfold stepF at h
        cases hq : fl.any (Nat.beq i) with
        | true =>
          rw [hq] at h
          simp only at h
          split at h
          · rename_i v hv
            obtain ⟨⟨x, h1, h2⟩, h3⟩ := quietE_ok hs hv
            refine first hq ⟨.inl ⟨hwt.trans hg, fun w' hw' => ?_⟩, fun w => h3 a w⟩ (rest (ha.put hd x) h (Hp.le.refl _) (RM.le.refl _) (hs.put h1 o.dst))
            rw [ha.eval]
            exact h2 w' hw' _ _ _ _
          · exact h.elim
        | false =>
          rw [hq] at h
          simp only at h
          refine only hq ?_
          let Q1 : Exit → List Deferred → (Nat → Value) → World → Prop := fun e D' σ' w' => match e with
            | .normal => D' = Dd ∧ AgH H w' ∧ ∀ a', Rep N Dd σ' a' → wpAnyG (FR none) md E.P ops Q (AgH H) g.length (ls.setIfInBounds i true) a' w'
            | .panic c => D' = Dd ∧ ∀ a', Rep N Dd σ' a' → Q (.panic c) a' w'
            | _ => False
          have h1 : RW none md E.P N ops [o] Q1 Dd σ w := stepE_ok hE h0 hI hs h hg hd (kq := fun e st' σ' w' H' ρ' L' hkp g2 g3 g4 => by
            cases e with
            | panic c => exact ⟨rfl, fun a' ha' => kq c _ _ _ _ _ _ hkp g2 g3 g4 a' ha'⟩
            | _ => exact hkp.elim) fun st' σ' w' H' ρ' L' g1 g2 g3 g4 => RW.nil ⟨rfl, AgH.le g2 g4.mem.agree, fun a' ha' => rest ha' g1 g2 g3 g4⟩
          have h2 := h1 a ha
          unfold wpListIn at h2
          unfold wpOpIn
          rw [ho]
          simp only
          rw [hwt, hg] at h2 ⊢
          simp only [if_true] at h2 ⊢
          refine Oper.wpIn_QK (fun a' w' hk => ?_) (fun e a' w' hne hk => ?_) h2
          · obtain ⟨D', σ', g1, g2, g3, g4⟩ := (show lift N Q1 .normal a' w' from hk)
            subst g2
            exact ⟨g3, g4 a' g1⟩
          · obtain ⟨D', σ', g1, g2⟩ := hk
            cases e with
            | normal => exact absurd rfl hne
            | panic c =>
              obtain ⟨g3, g4⟩ := g2
              subst g3
              exact g4 a' g1
            | _ => exact g2.elim
      have gok : ∀ {j want d} {x : Bool}, o.guard = some (j, want) → (ops[j]?).bind (·.dst) = some d → σ d = .bool x → gdOk ops σ o.guard = (x == want) := fun h1 h2 h3 => by
        unfold gdOk
        rw [h1]
        simp only [h2, h3]
      unfold gdE at h
      cases hgd : o.guard with
      | none =>
        simp only [hgd] at h
        exact step hs (by rw [hgd]; rfl) h
      | some jw =>
        obtain ⟨j, want⟩ := jw
        simp only [hgd] at h
        cases hj : (ops[j]?).bind (·.dst) with
        | none =>
          simp only [hj] at h
          refine pass hs ?_ h
          unfold gdOk
          rw [hgd]
          simp only [hj]
        | some d =>
          simp only [hj] at h
          cases hsl : (getS st.sl d).map (res st.kn) with
          | none => simp only [hsl] at h
          | some s =>
            obtain ⟨v0, hv0, hv1⟩ := Option.map_eq_some_iff.1 hsl
            have hv2 := hs.res (hs.sl _ _ hv0)
            rw [hv1] at hv2
            simp only [hsl] at h
            have ask : ∀ {v : SV D}, Rv H ρ (σ d) v → askF v (cdP want (stepF E cI fr ((10 + i) :: pos) (fl.any (Nat.beq i)) o (st.know (.tmp d) true) (fun st' => runFl E cI N fr pos ops fl g st' K kp) kp) (runFl E cI N fr pos ops fl g ((st.know (.tmp d) true).put o.dst (.c undef)) K kp))
                (cdP want (runFl E cI N fr pos ops fl g ((st.know (.tmp d) false).put o.dst (.c undef)) K kp) (stepF E cI fr ((10 + i) :: pos) (fl.any (Nat.beq i)) o (st.know (.tmp d) false) (fun st' => runFl E cI N fr pos ops fl g st' K kp) kp)) → wpAnyG (FR none) md E.P ops Q (AgH H) (g.length + 1) ls a w := fun hv h => by
              rcases askF_ok hv h with ⟨e, h⟩ | ⟨e, h⟩
              · have hk := hs.know (c := .tmp d) (b := true) e
                have hgg := gok hgd hj e
                cases want with
                | true => exact step hk hgg h
                | false => exact pass hk hgg h
              · have hk := hs.know (c := .tmp d) (b := false) e
                have hgg := gok hgd hj e
                cases want with
                | true => exact pass hk hgg h
                | false => exact step hk hgg h
            cases s with
            | k b =>
              simp only at h
              have hgg := gok hgd hj (show σ d = .bool b from hv2)
              cases hb : b == want with
              | true => rw [hb] at h; exact step hs (hgg.trans hb) h
              | false => rw [hb] at h; exact pass hs (hgg.trans hb) h
            | c v =>
              simp only at h
              cases hb : isBoolV v with
              | true => rw [hb] at h; exact h.elim
              | false =>
                rw [hb] at h
                refine pass hs ?_ h
                unfold gdOk
                rw [hgd]
                simp only [hj, show σ d = v from hv2]
                cases v <;> first | rfl | cases hb
            | b x => exact ask hv2 h
            | p p i => exact ask hv2 h
            | _ => exact h.elim
def flF (E : Env D) (cI : CallI D) (N : Nat) (fr : List (Nat × Blk D)) (pos : List Nat) (ops : Array Oper) (fl g : List Nat) (st : St D) (K : St D → Prop) (kp : Exit → St D → Prop) : Prop :=
  cdP (Region.noSelect ops && (Nat.beq g.length ops.size && flB ops fl g (Array.replicate ops.size false))) (runFl E cI N fr pos ops fl g st K fun e st' => kp e ⟨cutS ops st'.sl, st'.bk, st'.kn, st'.nx⟩) False
theorem flF_ok (hE : E.Ok) (h0 : E.G H0) (hI : CallOk E.P E.G cI) {pos : List Nat} {md N id : Nat} {ops : Array Oper} {fl g : List Nat} {Dd : List Deferred} {K : St D → Prop} {kp : Exit → St D → Prop} {Q : Exit → List Deferred → (Nat → Value) → World → Prop} (hs : Sat fr F w0 H0 R H ρ L st σ w) (h : flF E cI N fr pos ops fl g st K kp)
    (k : Goes fr F w0 H0 R H ρ K fun σ' w' => Q .normal Dd σ' w') (kq : ∀ e, Goes fr F w0 H0 R H ρ (kp e) fun σ' w' => Q e Dd σ' w') : CW none md E.P N (.region id ops true) Q Dd σ w := fun a ha => by
  obtain ⟨hc, h⟩ := cifP h
  rw [Bool.and_eq_true, Bool.and_eq_true] at hc
  obtain ⟨hc1, hc2, hc3⟩ := hc
  let Q1 : Exit → Act → World → Prop := fun e a w => match e with
    | .normal => lift N Q .normal a w
    | .panic c => ∀ a' : Act, a'.defers = a.defers → a'.tmps.size = a.tmps.size → (∀ t, dstB ops t = false → a'.tmps.getD t undef = a.tmps.getD t undef) → lift N Q (.panic c) a' w
    | _ => False
  have hs' : Sat fr F w0 H0 R H ρ L st σ { w with drawn := w.drawn + 1 } := ⟨hs.mem.drew, hs.sl, hs.bk, hs.fr, hs.kn, hs.nx⟩
  have h1 := runFl_ok (Q := Q1) (md := md) (Dd := Dd) hE h0 hI (fun i o v c a w hi hq a' q1 q2 q3 => hq a' (q1.trans (put_defers a o.dst v).symm) (q2.trans (put_size a o.dst v).symm) fun t ht => (q3 t ht).trans (put_get a hi ht v).symm) hc1 ha hs' h hc3 (fun st' σ' w' H' ρ' L' g1 g2 g3 g4 a' ha' => ⟨Dd, σ', ha', k _ _ _ _ _ _ g1 g2 g3 g4⟩) fun c st' σ' w' H' ρ' L' g1 g2 g3 g4 a' ha' => by
    intro a'' q1 q2 q3
    refine ⟨Dd, fun t => a''.tmps.getD t undef, ⟨q1.trans ha'.1, q2.trans ha'.2.1, fun _ => rfl⟩, kq _ _ _ _ _ _ _ g1 g2 g3 ⟨g4.mem, fun t v hv => ?_, g4.bk, g4.fr, g4.kn, g4.nx⟩⟩
    obtain ⟨⟨u, e1, e2⟩, e3⟩ := cutS_ok hv
    have := g4.sl t u e1
    rw [e2 e3] at this
    show Rv H' ρ' (a''.tmps.getD t undef) v
    rw [q3 t e3, ha'.2.2 t]
    exact this
  rw [Nat.eq_of_beq_eq_true hc2] at h1
  refine wpIn_mono (wpIn_region_any hE.mo h1.any) fun e a' w' hq => ?_
  cases e with
  | normal => exact hq
  | panic c => exact hq a' rfl rfl fun _ _ => rfl
  | _ => exact hq.elim
end
end
section
section
variable {r : Option Nat} {m : Nat} {P : Program} {N : Nat} {Q : Exit → List Deferred → (Nat → Value) → World → Prop} {D : List Deferred} {σ : Nat → Value} {w : World}
theorem CW.loopD {c : Code} {β : Type} (Inv : β → List Deferred → (Nat → Value) → World → Prop) (μ : β → Nat) (b : β) (h0 : Inv b D σ w)
    (hr : ∀ b D σ w, Inv b D σ w → CW r m P N c (thenQ (fun D' σ' w' => ∃ b', Inv b' D' σ' w' ∧ μ b' < μ b) Q) D σ w) : CW r m P N (.loop c) Q D σ w := by
  intro a ha
  have hmin : ∀ (a : Act) (w : World), (∃ b D σ, Rep N D σ a ∧ Inv b D σ w) → ∃ k, (∃ b D σ, Rep N D σ a ∧ Inv b D σ w ∧ μ b = k) ∧ ∀ j, (∃ b D σ, Rep N D σ a ∧ Inv b D σ w ∧ μ b = j) → k ≤ j := by
    intro a w ⟨b, D, σ, h1, h2⟩
    exact least_of (fun k => ∃ b D σ, Rep N D σ a ∧ Inv b D σ w ∧ μ b = k) (μ b) ⟨b, D, σ, h1, h2, rfl⟩
  let M : Act → World → Nat := fun a w => by
    classical
    exact if h : ∃ b D σ, Rep N D σ a ∧ Inv b D σ w then Classical.choose (hmin a w h) else 0
  have hM : ∀ a w (h : ∃ b D σ, Rep N D σ a ∧ Inv b D σ w), (∃ b D σ, Rep N D σ a ∧ Inv b D σ w ∧ μ b = M a w) ∧ ∀ j, (∃ b D σ, Rep N D σ a ∧ Inv b D σ w ∧ μ b = j) → M a w ≤ j := by
    intro a w h
    have := Classical.choose_spec (hmin a w h)
    have e : M a w = Classical.choose (hmin a w h) := dif_pos h
    rw [e]
    exact this
  refine wpIn_loop (fun a w => ∃ b D σ, Rep N D σ a ∧ Inv b D σ w) M ⟨b, D, σ, ha, h0⟩ ?_
  intro a w hI
  obtain ⟨b, D, σ, h1, h2, h3⟩ := (hM a w hI).1
  refine wpIn_mono (hr b D σ w h2 a h1) ?_
  rintro e a' w' ⟨D', σ', h4, h5⟩
  cases e with
  | normal =>
    obtain ⟨b', h6, h7⟩ := h5
    have hI' : ∃ b D σ, Rep N D σ a' ∧ Inv b D σ w' := ⟨b', D', σ', h4, h6⟩
    refine ⟨hI', Nat.lt_of_le_of_lt ((hM a' w' hI').2 _ ⟨b', D', σ', h4, h6, rfl⟩) ?_⟩
    rw [← h3]
    exact h7
  | _ => exact ⟨D', σ', h4, h5⟩
end
def mkD (ms : List Nat) : List Deferred := ms.map mark
def mkO (ms : List Nat) : List Ent := ms.map fun b => .obj b ddO
theorem Iter.congr {P : Program} {g : FuncId} {lb : List Value} {H : Hp} {n : Nat} {args args' : Nat → List Value} (h : Iter P g lb H n args) (he : ∀ k, k < n → args k = args' k) : Iter P g lb H n args' := by
  intro l J Jx W h1 h2 h3 h4 h5
  exact h l J Jx W h1 h2 h3 (fun k A hk hJ hA => by rw [he k hk]; exact h4 k A hk hJ hA) h5
def Join {S : Type} (b : S → Prop) (r : (S → Prop) → Prop) : Prop := r b
section
variable {D : Nat → Type} [∀ t, Dt (D t)] {H : Hp} {ρ : RM}
def PksR (P : Program) : List Nat → List Value → List (List Value) → Prop
  | [], vs, cs => vs = [] ∧ cs = []
  | t :: r, vs, cs => ∃ v q c d, vs = v :: q ∧ cs = c :: d ∧ PkR P t v c ∧ PksR P r q d
def RvLL (H : Hp) (ρ : RM) : List (List Value) → List (List (SV D)) → Prop
  | us, [] => us = []
  | us, l :: m => ∃ u r, us = u :: r ∧ RvL H ρ u l ∧ RvLL H ρ r m
theorem argsC_cells {P : Program} : ∀ {ts : List Nat} {vs : List (SV D)} {xs : List Value} {ls : List (List (SV D))}, RvL H ρ xs vs → argsC P ts vs = some ls → ∃ cs, PksR P ts xs cs ∧ RvLL H ρ cs ls
  | [], [], xs, ls, hv, h => by cases h; exact ⟨[], ⟨hv, rfl⟩, rfl⟩
  | [], _ :: _, _, _, _, h => by cases h
  | _ :: _, [], _, _, _, h => by cases h
  | t :: r, v :: vs, xs, ls, ⟨y, q, e, h1, h2⟩, h => by
    rw [argsC] at h
    cases hl : argC P t v with
    | none => simp only [hl] at h; cases h
    | some l =>
      cases hm : argsC P r vs with
      | none => simp only [hl, hm] at h; cases h
      | some m =>
        simp only [hl, hm] at h
        cases h
        obtain ⟨c, g1, g2⟩ := argC_ok h1 hl
        obtain ⟨d, g3, g4⟩ := argsC_cells h2 hm
        exact ⟨c :: d, ⟨y, q, c, d, e, rfl, g1, g3⟩, c, d, rfl, g2, g4⟩
theorem packs_ok {P : Program} : ∀ {ts : List Nat} {ls : List (List (SV D))} {vs : List (SV D)} {xs : List Value} {cs : List (List Value)}, PksR P ts xs cs → RvLL H ρ cs ls → packs P ts ls = some vs → RvL H ρ xs vs
  | [], [], vs, xs, cs, ⟨h1, _⟩, _, h => by cases h; exact h1
  | [], _ :: _, _, _, _, _, _, h => by cases h
  | _ :: _, [], _, _, _, _, _, h => by cases h
  | t :: r, l :: m, vs, xs, cs, ⟨v, q, c, d, e1, e2, h1, h2⟩, ⟨u, s, e3, h3, h4⟩, h => by
    subst e2
    cases e3
    rw [packs] at h
    cases ha : packT P t l with
    | none => simp only [ha] at h; cases h
    | some a =>
      cases hb : packs P r m with
      | none => simp only [ha, hb] at h; cases h
      | some b =>
        simp only [ha, hb] at h
        cases h
        exact ⟨v, q, e1, packT_ok h1 h3 ha, packs_ok h2 h4 hb⟩
theorem argsR_cells {P : Program} {tb : Tb D} (htb : TbOk tb) : ∀ {ts : List Nat} {x : TupD D ts} {xs : List Value} {ls : List (List (SV D))}, ArgsR P H ts x xs → tupC tb ts x = some ls → ∃ cs, PksR P ts xs cs ∧ RvLL H ρ cs ls
  | [], x, xs, ls, h, hl => by cases hl; exact ⟨[], ⟨h, rfl⟩, rfl⟩
  | t :: r, x, xs, ls, ⟨v, cs, q, e, h1, h2, h3⟩, hl => by
    rw [tupC] at hl
    cases ha : toC tb t x.1 with
    | none => simp only [ha] at hl; cases hl
    | some a =>
      cases hb : tupC tb r x.2 with
      | none => simp only [ha, hb] at hl; cases hl
      | some b =>
        simp only [ha, hb] at hl
        cases hl
        obtain ⟨d, g1, g2⟩ := argsR_cells htb h3 hb
        exact ⟨cs :: d, ⟨v, q, cs, d, e, rfl, h1, g1⟩, cs, d, rfl, toC_ok htb ha h2, g2⟩
theorem argsR_len {P : Program} : ∀ {ts : List Nat} {x : TupD D ts} {xs : List Value}, ArgsR P H ts x xs → xs.length = ts.length
  | [], _, _, h => by rw [show _ = ([] : List Value) from h]; rfl
  | _ :: r, _, _, ⟨v, cs, q, e, _, _, h⟩ => by rw [e, List.length_cons, argsR_len h, List.length_cons]
def parS : List Nat → List (SV D) → List (Nat × SV D) → List (Nat × SV D)
  | p :: ps, v :: vs, l => parS ps vs (setS l p v)
  | _, _, l => l
theorem parS_ok : ∀ {ps : List Nat} {vs : List (SV D)} {xs : List Value} {l : List (Nat × SV D)} {σ : Nat → Value}, SlR H ρ l σ → RvL H ρ xs vs → SlR H ρ (parS ps vs l) (slp ps xs σ)
  | [], _, _, _, _, h, _ => by simpa [parS, slp] using h
  | _ :: _, [], xs, _, _, h, hv => by
    rw [show xs = ([] : List Value) from hv]
    simpa [parS, slp] using h
  | p :: ps, v :: vs, _, l, σ, h, ⟨x, q, e, h1, h2⟩ => by
    subst e
    exact parS_ok (ps := ps) (h.put h1 (some p)) h2
variable {fr : List (Nat × Blk D)} {F : List Ent} {w0 w : World} {H0 : Hp} {R L : List Ent} {st : St D} {σ : Nat → Value}
theorem mapRs_ok (hs : Sat fr F w0 H0 R H ρ L st σ w) : ∀ {l : List (SV D)} {vs : List Value}, RvL H ρ vs l → RvL H ρ vs (l.map fun v => rsD (st.lk fr) (resD st.kn v))
  | [], _, h => h
  | _ :: _, _, ⟨v, r, h1, h2, h3⟩ => ⟨v, r, h1, rsD_ok hs (resD_ok hs h2), mapRs_ok hs h3⟩
def capE (tb : Tb D) (st : St D) (fr : List (Nat × Blk D)) (t : Nat) (v : SV D) : Option (D t) := match v with
  | .ptr id 0 => match st.lk fr id with
    | some (.fbx T us) => bif Nat.beq T t then ofC tb t (us.map fun v => rsD (st.lk fr) (resD st.kn v)) else none
    | _ => none
  | _ => none
def capsE (tb : Tb D) (st : St D) (fr : List (Nat × Blk D)) : (cs : List Nat) → List (SV D) → Option (TupD D cs)
  | [], [] => some ()
  | [], _ :: _ => none
  | _ :: _, [] => none
  | t :: r, v :: q => match capE tb st fr t v, capsE tb st fr r q with
    | some x, some y => some (x, y)
    | _, _ => none
theorem capE_ok {tb : Tb D} (htb : TbOk tb) (hs : Sat fr F w0 H0 R H ρ L st σ w) {t : Nat} {v : SV D} {y : Value} {x : D t} (hv : Rv H ρ y v) (h : capE tb st fr t v = some x) : ∃ b us, y = .pointer (some ⟨b, 0, none⟩) ∧ H b = some (.cells (us : List Value).toArray t (0, 0)) ∧ Dt.rd (α := D t) H us x := by
  unfold capE at h
  split at h
  · rename_i id
    split at h
    · rename_i T us hl
      have hT := cif h
      clear h
      obtain ⟨hT, h⟩ := hT
      obtain rfl := Nat.eq_of_beq_eq_true hT
      obtain ⟨L1, S, L2, ⟨_, c, vs, g1, g2, g3⟩, _⟩ := hs.read hl
      obtain ⟨c', g4, g5⟩ := hv
      rw [g1] at g4; cases g4
      exact ⟨c, vs, g5, g2, ofC_ok htb h (mapRs_ok hs g3)⟩
    · cases h
  · cases h
theorem capsE_ok {tb : Tb D} (htb : TbOk tb) (hs : Sat fr F w0 H0 R H ρ L st σ w) : ∀ {cs : List Nat} {l : List (SV D)} {lb : List Value} {x : TupD D cs}, RvL H ρ lb l → capsE tb st fr cs l = some x → CapsR H cs x lb
  | [], [], _, _, hv, _ => hv
  | [], _ :: _, _, _, _, h => by cases h
  | _ :: _, [], _, _, _, h => by cases h
  | t :: r, v :: q, lb, x, ⟨y, p, e, h1, h2⟩, h => by
    rw [capsE] at h
    cases ha : capE tb st fr t v with
    | none => simp only [ha] at h; cases h
    | some a =>
      cases hb : capsE tb st fr r q with
      | none => simp only [ha, hb] at h; cases h
      | some b =>
        simp only [ha, hb] at h
        cases h
        obtain ⟨c, us, g1, g2, g3⟩ := capE_ok htb hs h1 ha
        exact ⟨c, us, p, by rw [e, g1], g2, g3, capsE_ok htb hs h2 hb⟩
end
section
variable {D : Nat → Type} [∀ t, Dt (D t)]
def partB (ids : List Nat) : List (Nat × Blk D) → List (Nat × Blk D) × List (Nat × Blk D)
  | [] => ([], [])
  | q :: r => match partB ids r with
    | (a, b) => bif ids.any (Nat.beq q.1) then (q :: a, b) else (a, q :: b)
theorem partB_ok {ids : List Nat} {H : Hp} {ρ : RM} : ∀ {bk a b : List (Nat × Blk D)} {L : List Ent}, BkR H ρ bk L → partB ids bk = (a, b) → ∃ La Lb, L.Perm (Lb ++ La) ∧ BkR H ρ a La ∧ BkR H ρ b Lb
  | [], a, b, L, h, hp => by
    cases hp
    exact ⟨[], [], by rw [show L = [] from h]; exact List.Perm.refl _, rfl, rfl⟩
  | (id, q) :: r, a, b, L, ⟨S, L', h1, h2, h3⟩, hp => by
    rcases hr : partB ids r with ⟨a', b'⟩
    obtain ⟨La, Lb, g1, g2, g3⟩ := partB_ok h3 hr
    unfold partB at hp
    rw [hr] at hp
    cases hb : ids.any (Nat.beq id) with
    | true =>
      simp only [hb, cond_true] at hp
      cases hp
      refine ⟨S ++ La, Lb, ?_, ⟨S, La, rfl, h2, g2⟩, g3⟩
      rw [h1]
      refine (List.Perm.append_left S g1).trans ?_
      rw [← List.append_assoc, ← List.append_assoc]
      exact List.Perm.append_right La List.perm_append_comm
    | false =>
      simp only [hb, cond_false] at hp
      cases hp
      refine ⟨La, S ++ Lb, ?_, g2, S, Lb, rfl, h2, g3⟩
      rw [h1, List.append_assoc]
      exact List.Perm.append_left S g1
def findP (pos : List Nat) : List PE → Option PE
  | [] => none
  | p :: r => bif eqL p.pos pos then some p else findP pos r
def unrN (pos : List Nat) (l : List PE) : Nat := match findP (8 :: pos) l with
  | some pe => match pe.tp.rw with
    | [n] => n
    | _ => 0
  | none => 0
def rounds {S : Type} (f : S → (S → Prop) → Prop) : Nat → S → Prop
  | 0, _ => False
  | n + 1, st => f st (rounds f n)
def findL (pos : List Nat) (ok : PE → Bool) : List PE → Option PE
  | [] => none
  | p :: r => bif eqL p.pos pos then (match findP pos r with
    | none => some p
    | some _ => bif ok p then some p else findL pos ok r) else findL pos ok r
def findJ (pos : List Nat) (ok : PE → Bool) : List PE → Option PE
  | [] => none
  | p :: r => bif eqL p.pos pos && ok p then some p else findJ pos ok r
def okJ (st : St D) (pe : PE) : Bool := bif pe.sure then true else match (st.frzL pe.fz).tag with
  | ⟨sl, bk, _, _⟩ => (pe.kp.all fun i => (gtB bk i).isSome) && pe.tp.sl.all fun p => match p.2 with
    | .kp n => match getS sl p.1 with
      | some (.kp m) => Nat.beq m n
      | _ => false
    | _ => true
def splitE (pe : PE) (st : St D) : List (Nat × Blk D) × St D := match (st.frzL pe.fz).tag with
  | ⟨sl, bk, kn, nx⟩ => match partB pe.kp bk with
    | (k, v) => (k, ⟨sl, v, kn, nx⟩)
def fillE (tp : Tp) (nx : Nat) (st : St D) (fr : List (Nat × Blk D)) : Option (TupV D tp.vts) := match insT tp nx st fr with
  | some cs => tyL tp.vts cs
  | none => none
def makeE (tp : Tp) (nx : Nat) (kn : List (Nat × SV D)) (s : TupV D tp.vts) : Option (St D) := mkT tp nx kn (cvL tp.vts s)
def St.back (st : St D) (kept : List (Nat × Blk D)) : St D := ⟨st.sl, st.bk ++ kept, st.kn, st.nx⟩
def fitE (st : St D) (fr : List (Nat × Blk D)) (pe : PE) : Bool := match splitE pe st with
  | (kept, st1) => (fillE pe.tp st1.nx st1 (kept ++ fr)).isSome
def St.withSl (st : St D) (l : List (Nat × SV D)) : St D := ⟨l, st.bk, st.kn, st.nx⟩
def runC (E : Env D) (cI : CallI D) (N : Nat) (rd : Bool) : Code → List Nat → List (Nat × Blk D) → St D → (Exit → St D → Prop) → Prop
  | .skip, _, _, st, K => K .normal st
  | .ret, _, _, st, K => K .ret st
  | .exit id, _, _, st, K => K (.exit id) st
  | .region _ ops false, pos, fr, st, K => runR E cI N fr pos ops 0 ops.toList st (K .normal) K
  | .region _ ops true, pos, fr, st, K => match findP pos E.plan with
    | none => drawF E N fr ops st (K .normal)
    | some pe => match splitE pe st with
      | (kept, st1) => match pe.tp.rw with
        | [] => drawF E N (kept ++ fr) ops st1 fun st' => K .normal (st'.back kept)
        | [c] => cdP (tailB ops c) (drawF E N (kept ++ fr) (ops.extract 0 c) st1 fun st' => runR E cI N (kept ++ fr) pos ops c (ops.toList.drop c) st' (fun st'' => K .normal (st''.back kept)) fun e st'' => K e (st''.back kept)) False
        | _ :: _ :: g => match rd with
          | true => False
          | false => flF E cI N (kept ++ fr) pos ops (pe.tp.sl.map Prod.fst) g st1 (fun st' => K .normal (st'.back kept)) fun e st' => K e (st'.back kept)
  | .cond c a b, pos, fr, st, K => match (evO st.sl c).map (res st.kn) with
    | some (.k true) => runC E cI N rd a (2 :: pos) fr st K
    | some (.k false) => runC E cI N rd b (3 :: pos) fr st K
    | some s => askF s (runC E cI N rd a (2 :: pos) fr (st.know c true) K) (runC E cI N rd b (3 :: pos) fr (st.know c false) K)
    | none => False
  | .block id c, pos, fr, st, K => runC E cI N rd c (4 :: pos) fr st fun e st' => match e with
    | .exit id' => cdP (Nat.beq id' id) (K .normal st') (K (.exit id') st')
    | e => K e st'
  | .seq a b, pos, fr, st, K => match findJ pos (okJ st) E.plan with
    | none => runC E cI N rd a (0 :: pos) fr st fun e st' => match e with
      | .normal => runC E cI N rd b (1 :: pos) fr st' K
      | e => K e st'
    | some pe => match splitE pe st with
      | (kept, st1) => Join (fun s => match makeE pe.tp st1.nx st1.kn s with
        | some st2 => runC E cI N rd b (1 :: pos) fr (st2.back kept) K
        | none => False) fun J => runC E cI N rd a (0 :: pos) (kept ++ fr) st1 fun e st' => match e with
        | .normal => match fillE pe.tp st1.nx st' (kept ++ fr) with
          | some s => J s
          | none => False
        | e => K e (st'.back kept)
  | .loop c, pos, fr, st, K => match unrN pos E.plan with
    | n + 1 => rounds (fun st rec => runC E cI N rd c (5 :: pos) fr st fun e st' => match e with
      | .normal => rec st'
      | e => K e st') (n + 1) st
    | 0 => match findL pos (fitE st fr) E.plan with
      | none => False
      | some pe => match splitE pe st with
        | (kept, st1) => match fillE pe.tp st1.nx st1 (kept ++ fr) with
          | some s0 => LoopW (fun s rec => match makeE pe.tp st1.nx st1.kn s with
            | some st2 => runC E cI N rd c (5 :: pos) (kept ++ fr) st2 fun e st' => match e with
              | .normal => match fillE pe.tp st1.nx st' (kept ++ fr) with
                | some s' => rec s'
                | none => False
              | e => K e (st'.back kept)
            | none => False) s0
          | none => False
  | .rangeFunc g ps assign body, pos, fr, st, K => match rd with
    | true => False
    | false => match (evO st.sl g).map (res st.kn) with
      | some (.fn gf caps) => match findL pos (fitE st fr) E.plan with
        | some pe => match findI gf E.its with
          | some it => cdP (entB E.P gf && ((ps.toList.all fun p => Nat.blt p N) && Nat.beq ps.size it.ts.length)) (match splitE pe st with
            | (kept, st1) => match capsE E.tb st1 (kept ++ fr) it.cs caps with
              | some cx => match fillE pe.tp st1.nx st1 (kept ++ fr) with
                | some s0 => ∃ l, it.W cx l ∧ LoopW (fun (q : List (TupD D it.ts) × TupV D pe.tp.vts) rec => match makeE pe.tp st1.nx st1.kn q.2 with
                  | some st2 => match q.1 with
                    | [] => K .normal ((st2.withSl st1.sl).back kept)
                    | x :: r => match tupC E.tb it.ts x with
                      | some ls => match packs E.P it.ts ls with
                        | some vs => runC E cI N true assign (6 :: pos) (kept ++ fr) (st2.withSl (parS ps.toList vs st1.sl)) fun e st3 => match e with
                          | .normal => runC E cI N true body (7 :: pos) (kept ++ fr) st3 fun e st4 => match e with
                            | .normal => match fillE pe.tp st1.nx st4 (kept ++ fr) with
                              | some s' => rec (r, s')
                              | none => False
                            | .ret => K .ret ((st4.withSl st1.sl).back kept)
                            | .exit id => K (.exit id) ((st4.withSl st1.sl).back kept)
                            | _ => False
                          | _ => False
                        | none => False
                      | none => False
                  | none => False) (l, s0)
                | none => False
              | none => False) False
          | none => False
        | none => False
      | _ => False
  | _, _, _, _, _ => False
variable {E : Env D} {cI : CallI D} {fr : List (Nat × Blk D)} {F : List Ent} {w0 w : World} {H0 H : Hp} {R : List Ent} {ρ : RM} {L : List Ent} {st : St D} {σ : Nat → Value}
theorem splitE_ok {pe : PE} {kept : List (Nat × Blk D)} {st1 : St D} (hs : Sat fr F w0 H0 R H ρ L st σ w) (h : splitE pe st = (kept, st1)) : ∃ H1 ρ1 Lk Lv, H.le H1 ∧ RM.le ρ ρ1 ∧ BkR H1 ρ1 kept Lk ∧ BkR H1 ρ1 fr F ∧ Sat (kept ++ fr) (Lk ++ F) w0 H0 R H1 ρ1 Lv st1 σ w := by
  obtain ⟨H1, L1, h1, hs1⟩ := hs.frzL pe.fz
  obtain ⟨ρ1, h2, hs2⟩ := hs1.tag
  unfold splitE at h
  generalize (st.frzL pe.fz).tag = st2 at h hs2
  obtain ⟨sl, bk, kn, nx⟩ := st2
  rcases hp : partB pe.kp bk with ⟨k, v⟩
  simp only [hp] at h
  cases h
  obtain ⟨La, Lb, g1, g2, g3⟩ := partB_ok hs2.bk hp
  refine ⟨H1, ρ1, La, Lb, h1, h2, g2, hs2.fr, ?_, hs2.sl, g3, g2.append hs2.fr, hs2.kn, hs2.nx⟩
  refine hs2.mem.perm ?_
  have := g1.append_right (F ++ R)
  rwa [List.append_assoc, ← List.append_assoc La] at this
theorem Sat.back {kept : List (Nat × Blk D)} {Lk : List Ent} (hs : Sat (kept ++ fr) (Lk ++ F) w0 H0 R H ρ L st σ w) (hk : BkR H ρ kept Lk) (hf : BkR H ρ fr F) : Sat fr F w0 H0 R H ρ (L ++ Lk) (st.back kept) σ w :=
  ⟨by have := hs.mem; rwa [List.append_assoc Lk, ← List.append_assoc] at this, hs.sl, hs.bk.append hk, hf, hs.kn, hs.nx⟩
theorem le_low {ρ1 ρ ρ' : RM} {nx : Nat} (h1 : ∀ id, nx ≤ id → ρ1 id = none) (h2 : RM.le ρ1 ρ) (h3 : ∀ n, n < nx → ρ' n = ρ n) : RM.le ρ1 ρ' := fun id q hq => by
  have : id < nx := by
    rcases Nat.lt_or_ge id nx with h | h
    · exact h
    · rw [h1 id h] at hq; cases hq
  rw [h3 id this]
  exact h2 id q hq
theorem fillE_ok {tp : Tp} {nx : Nat} {kn : List (Nat × SV D)} {s : TupV D tp.vts} {H1 : Hp} {ρ1 : RM} (h1 : ∀ id, nx ≤ id → ρ1 id = none) (hH : H1.le H) (hρ : RM.le ρ1 ρ) (hkn : KnR H1 ρ1 kn) (hfr : BkR H1 ρ1 fr F) (hs : Sat fr F w0 H0 R H ρ L st σ w) (h : fillE tp nx st fr = some s) : ∃ ρ' L' st', makeE tp nx kn s = some st' ∧ RM.le ρ1 ρ' ∧ Sat fr F w0 H0 R H ρ' L' st' σ w := by
  unfold fillE at h
  split at h
  · rename_i cs hcs
    obtain ⟨ρ', L', st', h2, h3, h4⟩ := insT_ok (kn := kn) hs (fun ρ' hl => hkn.mono hH (le_low h1 hρ hl)) (fun ρ' hl => hfr.mono hH (le_low h1 hρ hl)) hcs
    refine ⟨ρ', L', st', ?_, le_low h1 hρ h3, h4⟩
    unfold makeE
    rw [tyL_ok h]
    exact h2
  · cases h
def GoesM (rd : Bool) (ms : List Nat) (fr : List (Nat × Blk D)) (F : List Ent) (w0 : World) (H0 : Hp) (R : List Ent) (H : Hp) (ρ : RM) (K : St D → Prop) (T : List Nat → (Nat → Value) → World → Prop) : Prop := ∀ ms' st' σ' w' H' ρ' L', K st' → (rd = true → ms' = ms) → H.le H' → RM.le ρ ρ' → Sat fr F w0 H0 (mkO ms' ++ R) H' ρ' L' st' σ' w' → T ms' σ' w'
theorem GoesM.mono {rd : Bool} {ms ms1 : List Nat} {H' : Hp} {ρ' : RM} {K : St D → Prop} {T : List Nat → (Nat → Value) → World → Prop} (h : GoesM rd ms fr F w0 H0 R H ρ K T) (hm : rd = true → ms1 = ms) (hH : H.le H') (hρ : RM.le ρ ρ') : GoesM rd ms1 fr F w0 H0 R H' ρ' K T := fun ms' st σ w H2 ρ2 L hk hm' h1 h2 hs => h ms' st σ w H2 ρ2 L hk (fun e => (hm' e).trans (hm e)) (hH.trans h1) (hρ.trans h2) hs
theorem GoesM.go {rd : Bool} {ms : List Nat} {K : St D → Prop} {T : List Nat → (Nat → Value) → World → Prop} (h : GoesM rd ms fr F w0 H0 R H ρ K T) (hk : K st) (hs : Sat fr F w0 H0 (mkO ms ++ R) H ρ L st σ w) : T ms σ w := h _ _ _ _ _ _ _ hk (fun _ => rfl) (Hp.le.refl _) (RM.le.refl _) hs
theorem GoesM.goes {rd : Bool} {ms : List Nat} {K : St D → Prop} {T : List Nat → (Nat → Value) → World → Prop} (h : GoesM rd ms fr F w0 H0 R H ρ K T) : Goes fr F w0 H0 (mkO ms ++ R) H ρ K (T ms) := fun st σ w H2 ρ2 L hk h1 h2 hs => h ms st σ w H2 ρ2 L hk (fun _ => rfl) h1 h2 hs
theorem Sat.withSl (hs : Sat fr F w0 H0 R H ρ L st σ w) {l : List (Nat × SV D)} {σ' : Nat → Value} (h : SlR H ρ l σ') : Sat fr F w0 H0 R H ρ L (st.withSl l) σ' w := ⟨hs.mem, h, hs.bk, hs.fr, hs.kn, hs.nx⟩
theorem Sat.reR {R' : List Ent} {w' : World} (hs : Sat fr F w0 H0 R H ρ L st σ w) (h : Mem w0 H0 w' H (L ++ (F ++ R'))) : Sat fr F w0 H0 R' H ρ L st σ w' := ⟨h, hs.sl, hs.bk, hs.fr, hs.kn, hs.nx⟩
theorem perm_end (A B C : List Ent) (x : Ent) (R : List Ent) : (A ++ (B ++ (C ++ R)) ++ [x]).Perm (A ++ (B ++ (x :: C ++ R))) := by
  rw [List.append_assoc, List.append_assoc]
  refine List.Perm.append_left A (List.Perm.append_left B ?_)
  exact List.perm_append_comm
theorem runC_ok (hE : E.Ok) (h0 : E.G H0) (hI : CallOk E.P E.G cI) {N : Nat} : ∀ (c : Code) {rd : Bool} {ms : List Nat} {B : List Deferred} {R : List Ent} {pos : List Nat} {fr : List (Nat × Blk D)} {F : List Ent} {H : Hp} {ρ : RM} {L : List Ent} {st : St D} {σ : Nat → Value} {w : World} {K : Exit → St D → Prop} {Q : Exit → List Deferred → (Nat → Value) → World → Prop} {r : Option Nat} {md : Nat},
    (rd = false → r = none ∧ md = 0) → Sat fr F w0 H0 (mkO ms ++ R) H ρ L st σ w → runC E cI N rd c pos fr st K → (∀ e, GoesM rd ms fr F w0 H0 R H ρ (K e) fun ms' σ' w' => Q e (mkD ms' ++ B) σ' w') → CW r md E.P N c Q (mkD ms ++ B) σ w := by
  intro c
  induction c with
  | skip => intro rd ms B R pos fr F H ρ L st σ w K Q r md hr hs h hk; exact CW.skip ((hk _).go h hs)
  | ret => intro rd ms B R pos fr F H ρ L st σ w K Q r md hr hs h hk; exact CW.ret ((hk _).go h hs)
  | exit id => intro rd ms B R pos fr F H ρ L st σ w K Q r md hr hs h hk; exact CW.exit ((hk _).go h hs)
  | region id ops draw =>
    intro rd ms B R pos fr F H ρ L st σ w K Q r md hr hs h hk
    cases draw with
    | false =>
      obtain ⟨l⟩ := ops
      exact CW.region (runR_ok hE h0 hI hs h (hk .normal).goes fun e => (hk e).goes)
    | true =>
      unfold runC at h
      split at h
      · exact drawF_ok hE hE.mo h0 hs h (hk .normal).goes
      · rename_i pe hpe
        rcases hsp : splitE pe st with ⟨kept, st1⟩
        simp only [hsp] at h
        obtain ⟨H1, ρ1, Lk, Lv, g1, g2, g3, g4, g5⟩ := splitE_ok hs hsp
        have finE : ∀ e, Goes (kept ++ fr) (Lk ++ F) w0 H0 (mkO ms ++ R) H1 ρ1 (fun st' => K e (st'.back kept)) fun σ' w' => Q e (mkD ms ++ B) σ' w' := fun e st' σ' w' H' ρ' L' hk' h1 h2 hs' => (hk e).goes _ _ _ _ _ _ hk' (g1.trans h1) (g2.trans h2) (hs'.back (g3.mono h1 h2) (g4.mono h1 h2))
        have fin := finE .normal
        split at h
        · exact drawF_ok hE hE.mo h0 g5 h fin
        · rename_i c _
          obtain ⟨ht, h⟩ := cifP h
          exact drawT_ok hE hE.mo h0 g5 ht h fun st' σ' w' H' ρ' L' hk' h1 h2 hs' => runR_ok hE h0 hI hs' hk' (fin.mono h1 h2) fun e => (finE e).mono h1 h2
        · cases rd with
          | true => exact h.elim
          | false =>
            obtain ⟨rfl, rfl⟩ := hr rfl
            exact flF_ok hE h0 hI g5 h fin finE
  | cond c a b iha ihb =>
    intro rd ms B R pos fr F H ρ L st σ w K Q r md hr hs h hk
    unfold runC at h
    cases hc : (evO st.sl c).map (res st.kn) with
    | none => simp only [hc] at h
    | some s =>
      obtain ⟨v0, hv0, hv1⟩ := Option.map_eq_some_iff.1 hc
      have hv2 := hs.res (evO_ok hs.sl hv0)
      rw [hv1] at hv2
      simp only [hc] at h
      have ask : askF s (runC E cI N rd a (2 :: pos) fr (st.know c true) K) (runC E cI N rd b (3 :: pos) fr (st.know c false) K) → CW r md E.P N (.cond c a b) Q (mkD ms ++ B) σ w := fun h => by
        rcases askF_ok hv2 h with ⟨e, h⟩ | ⟨e, h⟩
        · exact CW.cond_true e (iha hr (hs.know e) h hk)
        · exact CW.cond_false e (ihb hr (hs.know e) h hk)
      cases s with
      | k x =>
        cases x with
        | true => exact CW.cond_true hv2 (iha hr hs h hk)
        | false => exact CW.cond_false hv2 (ihb hr hs h hk)
      | _ => exact ask h
  | block id c ih =>
    intro rd ms B R pos fr F H ρ L st σ w K Q r md hr hs h hk
    refine CW.block (ih hr hs h fun e => ?_)
    intro ms' st' σ' w' H' ρ' L' h1 hm h2 h3 h4
    cases e with
    | exit id' =>
      show bif Nat.beq id' id then Q .normal _ σ' w' else Q (.exit id') _ σ' w'
      have h1 : cdP (Nat.beq id' id) (K .normal st') (K (.exit id') st') := h1
      cases hb : Nat.beq id' id with
      | true => rw [hb] at h1; exact hk _ _ _ _ _ _ _ _ h1 hm h2 h3 h4
      | false => rw [hb] at h1; exact hk _ _ _ _ _ _ _ _ h1 hm h2 h3 h4
    | _ => exact hk _ _ _ _ _ _ _ _ h1 hm h2 h3 h4
  | seq a b iha ihb =>
    intro rd ms B R pos fr F H ρ L st σ w K Q r md hr hs h hk
    unfold runC at h
    split at h
    · refine CW.seq (iha hr hs h fun e => ?_)
      intro ms' st' σ' w' H' ρ' L' h1 hm h2 h3 h4
      cases e with
      | normal => exact ihb hr h4 h1 fun e => (hk e).mono hm h2 h3
      | _ => exact hk _ _ _ _ _ _ _ _ h1 hm h2 h3 h4
    · rename_i pe hpe
      rcases hsp : splitE pe st with ⟨kept, st1⟩
      simp only [hsp, Join] at h
      obtain ⟨H1, ρ1, Lk, Lv, g1, g2, g3, g4, g5⟩ := splitE_ok hs hsp
      refine CW.seq (iha hr g5 h fun e => ?_)
      intro ms' st' σ' w' H' ρ' L' h1 hm h2 h3 h4
      cases e with
      | normal =>
        show CW r md E.P N b Q _ σ' w'
        simp only at h1
        split at h1
        · rename_i s hfill
          obtain ⟨ρ2, L2, st2, e1, e2, e3⟩ := fillE_ok (kn := st1.kn) g5.nx h2 h3 g5.kn g5.fr h4 hfill
          simp only [e1] at h1
          exact ihb hr (e3.back (g3.mono h2 e2) (g4.mono h2 e2)) h1 fun e => (hk e).mono hm (g1.trans h2) (g2.trans e2)
        · exact h1.elim
      | _ => exact hk _ _ _ _ _ _ _ _ h1 hm (g1.trans h2) (g2.trans h3) (h4.back (g3.mono h2 h3) (g4.mono h2 h3))
  | loop c ih =>
    intro rd ms B R pos fr F H ρ L st σ w K Q r md hr hs h hk
    unfold runC at h
    split at h
    · rename_i n hn
      clear hn
      generalize hstep : (fun (st : St D) (rec : St D → Prop) => _) = step at h
      refine CW.loopD (β := Nat) (fun n D σ w => ∃ ms' H' ρ' L' st', D = mkD ms' ++ B ∧ (rd = true → ms' = ms) ∧ H.le H' ∧ RM.le ρ ρ' ∧ Sat fr F w0 H0 (mkO ms' ++ R) H' ρ' L' st' σ w ∧ rounds step n st') (fun n => n) (n + 1) ⟨ms, H, ρ, L, st, rfl, fun _ => rfl, Hp.le.refl _, RM.le.refl _, hs, h⟩ ?_
      rintro n D' σ w ⟨ms', H', ρ', L', st', rfl, hm', f1, f2, f4, f5⟩
      cases n with
      | zero => exact f5.elim
      | succ n =>
        have f5 : step st' (rounds step n) := f5
        rw [← hstep] at f5
        refine ih hr f4 f5 fun e => ?_
        intro ms3 st3 σ3 w3 H3 ρ3 L3 h1 hm3 h2 h3 h4
        cases e with
        | normal =>
          simp only at h1
          exact ⟨n, ⟨ms3, H3, ρ3, L3, st3, rfl, fun e => (hm3 e).trans (hm' e), f1.trans h2, f2.trans h3, h4, by rw [hstep] at h1; exact h1⟩, Nat.lt_succ_self _⟩
        | _ => exact hk _ _ _ _ _ _ _ _ h1 (fun e => (hm3 e).trans (hm' e)) (f1.trans h2) (f2.trans h3) h4
    · split at h
      · exact h.elim
      · rename_i pe hpe
        rcases hsp : splitE pe st with ⟨kept, st1⟩
        simp only [hsp] at h
        obtain ⟨H1, ρ1, Lk, Lv, g1, g2, g3, g4, g5⟩ := splitE_ok hs hsp
        split at h
        · rename_i s0 hs0
          obtain ⟨m, hm⟩ := h
          generalize hstep : (fun (s : TupV D pe.tp.vts) (rec : TupV D pe.tp.vts → Prop) => _) = step at hm
          obtain ⟨ρ2, L2, st2, e1, e2, e3⟩ := fillE_ok (kn := st1.kn) g5.nx (Hp.le.refl _) (RM.le.refl _) g5.kn g5.fr g5 hs0
          refine CW.loopD (β := Nat) (fun n D σ w => ∃ ms' s H' ρ' L' st', D = mkD ms' ++ B ∧ (rd = true → ms' = ms) ∧ H1.le H' ∧ RM.le ρ1 ρ' ∧ makeE pe.tp st1.nx st1.kn s = some st' ∧ Sat (kept ++ fr) (Lk ++ F) w0 H0 (mkO ms' ++ R) H' ρ' L' st' σ w ∧ LoopN step n s) (fun n => n) m ⟨ms, s0, H1, ρ2, L2, st2, rfl, fun _ => rfl, Hp.le.refl _, e2, e1, e3, hm⟩ ?_
          rintro n D' σ w ⟨ms', s, H', ρ', L', st', rfl, hm', f1, f2, f3, f4, f5⟩
          cases n with
          | zero => exact f5.elim
          | succ n =>
            have f5 : step s (LoopN step n) := f5
            rw [← hstep] at f5
            simp only [f3] at f5
            refine ih hr f4 f5 fun e => ?_
            intro ms3 st3 σ3 w3 H3 ρ3 L3 h1 hm3 h2 h3 h4
            cases e with
            | normal =>
              simp only at h1
              split at h1
              · rename_i s' hfill
                obtain ⟨ρ4, L4, st4, i1, i2, i3⟩ := fillE_ok (kn := st1.kn) g5.nx (f1.trans h2) (f2.trans h3) g5.kn g5.fr h4 hfill
                exact ⟨n, ⟨ms3, s', H3, ρ4, L4, st4, rfl, fun e => (hm3 e).trans (hm' e), f1.trans h2, i2, i1, i3, by rw [hstep] at h1; exact h1⟩, Nat.lt_succ_self _⟩
              · exact h1.elim
            | _ => exact hk _ _ _ _ _ _ _ _ h1 (fun e => (hm3 e).trans (hm' e)) ((g1.trans f1).trans h2) ((g2.trans f2).trans h3) (h4.back (g3.mono (f1.trans h2) (f2.trans h3)) (g4.mono (f1.trans h2) (f2.trans h3)))
        · exact h.elim
  | rangeFunc g ps assign body iha ihb =>
    intro rd ms B R pos fr F H ρ L st σ w K Q r md hr hs h hk
    unfold runC at h
    cases rd with
    | true => exact h.elim
    | false =>
      obtain ⟨rfl, rfl⟩ := hr rfl
      simp only at h
      split at h
      · rename_i gf caps hg
        split at h
        · rename_i pe hpe
          split at h
          · rename_i it hit
            have hq := cifP h
            clear h
            obtain ⟨hb, h⟩ := hq
            simp only [Bool.and_eq_true] at hb
            obtain ⟨hen, hpN, hps⟩ := hb
            rcases hsp : splitE pe st with ⟨kept, st1⟩
            simp only [hsp] at h
            obtain ⟨H1, ρ1, Lk, Lv, g1, g2, g3, g4, g5⟩ := splitE_ok hs hsp
            split at h
            · rename_i cx hcx
              split at h
              · rename_i s0 hs0
                obtain ⟨hok, hf⟩ := findI_ok hE.its hit
                subst hf
                obtain ⟨v0, hv0, hv1⟩ := Option.map_eq_some_iff.1 hg
                have hv2 := hs.res (evO_ok hs.sl hv0)
                rw [hv1] at hv2
                obtain ⟨lb, e1, e2⟩ := hv2
                obtain ⟨l, hW, h⟩ := h
                have hiter := hok cx l hW H1 lb (hE.gm _ _ h0 g5.mem.old) (capsE_ok hE.tb g5 (RvL.mono g1 g2 _ e2) hcx)
                have hlen : ∀ (k : Nat) (vs : List Value), (∃ y : TupD D it.ts, l[k]? = some y ∧ ArgsR E.P H1 it.ts y vs) → vs.length = ps.size := fun k vs ⟨y, _, hy⟩ => (argsR_len hy).trans (Nat.eq_of_beq_eq_true hps).symm
                obtain ⟨m, hm⟩ := h
                generalize hstep : (fun (q : List (TupD D it.ts) × TupV D pe.tp.vts) (rec : List (TupD D it.ts) × TupV D pe.tp.vts → Prop) => _) = step at hm
                obtain ⟨ρ2, L2, st2, f1, f2, f3⟩ := fillE_ok (kn := st1.kn) g5.nx (Hp.le.refl _) (RM.le.refl _) g5.kn g5.fr g5 hs0
                have satOf : ∀ {H' : Hp} {ρ' : RM} {st' : St D} {Lx R' : List Ent} {W : World} {l' : List (Nat × SV D)} {σ' : Nat → Value}, H1.le H' → RM.le ρ1 ρ' → BkR H' ρ' st'.bk Lx → KnR H' ρ' st'.kn → (∀ id, st'.nx ≤ id → ρ' id = none) → SlR H' ρ' l' σ' → Mem w0 H0 W H' (Lx ++ ((Lk ++ F) ++ R')) → Sat (kept ++ fr) (Lk ++ F) w0 H0 R' H' ρ' Lx (st'.withSl l') σ' W := fun b1 b2 b3 b4 b5 b6 b7 => ⟨b7, b6, b3, g5.fr.mono b1 b2, b4, b5⟩
                refine CW.rangeR (H := H1) (H1 := H1) (L := L2 ++ ((Lk ++ F) ++ (mkO ms ++ R))) (fun k H' L' => ∃ m s ρ' st' Lx, RM.le ρ1 ρ' ∧ makeE pe.tp st1.nx st1.kn s = some st' ∧ L' = Lx ++ ((Lk ++ F) ++ (mkO ms ++ R)) ∧ BkR H' ρ' st'.bk Lx ∧ KnR H' ρ' st'.kn ∧ (∀ id, st'.nx ≤ id → ρ' id = none) ∧ LoopN step m (l.drop k, s)) f3.mem e1 (entB_ok hen) (Hp.le.refl _) hiter hlen hpN ⟨m, s0, ρ2, st2, L2, f2, f1, rfl, f3.bk, f3.kn, f3.nx, hm⟩ ?_ ?_
                · rintro l0 D0 rdy bsy k av H' L' W hkl ⟨ay, hay, hargs⟩ hle ⟨m, s, ρ', st', Lx, a1, a2, rfl, a3, a4, a5, a6⟩ hM
                  cases m with
                  | zero => exact a6.elim
                  | succ m =>
                    have a6 : step (l.drop k, s) (LoopN step m) := a6
                    rw [← hstep] at a6
                    obtain rfl : l[k] = ay := by rw [List.getElem?_eq_getElem hkl] at hay; exact Option.some.inj hay
                    simp only [a2, List.drop_eq_getElem_cons hkl] at a6
                    split at a6
                    · rename_i ls hls
                      split at a6
                      · rename_i vs hvs
                        obtain ⟨cs, b1, b2⟩ := argsR_cells (ρ := ρ1) hE.tb hargs hls
                        have b3 := packs_ok b1 b2 hvs
                        have b4 : SlR H' ρ' (parS ps.toList vs st1.sl) (slp ps.toList av σ) := parS_ok (g5.sl.mono hle a1) (RvL.mono hle a1 _ b3)
                        refine iha (rd := true) (ms := []) (B := []) (R := (mkO ms ++ R) ++ [.obj l0 rdy, .obj D0 ddO]) (fun h => by cases h) (satOf hle a1 a3 a4 a5 b4 (by simpa [mkO] using hM)) a6 fun e => ?_
                        intro ms' st3 σ3 W3 H3 ρ3 L3 h1 hm3 h2 h3 h4
                        obtain rfl := hm3 rfl
                        cases e with
                        | normal =>
                          refine ⟨rfl, H3, L3 ++ ((Lk ++ F) ++ (mkO ms ++ R)), hle.trans h2, by simpa [mkO] using h4.mem, fun W4 hW4 => ?_⟩
                          refine ihb (rd := true) (ms := []) (B := []) (R := (mkO ms ++ R) ++ [.obj l0 bsy, .obj D0 ddO]) (fun h => by cases h) (h4.reR (by simpa [mkO] using hW4)) h1 fun e => ?_
                          intro ms' st4 σ4 W5 H4 ρ4 L4 k1 km k2 k3 k4
                          obtain rfl := km rfl
                          have kM : Mem w0 H0 W5 H4 ((L4 ++ ((Lk ++ F) ++ (mkO ms ++ R))) ++ [.obj l0 bsy, .obj D0 ddO]) := by simpa [mkO] using k4.mem
                          have kle := hle.trans (h2.trans k2)
                          have kρ := a1.trans (h3.trans k3)
                          have leave : ∀ {W6 : World}, Mem w0 H0 W6 H4 ((L4 ++ ((Lk ++ F) ++ (mkO ms ++ R))) ++ [.obj D0 ddO]) → Sat fr F w0 H0 (mkO (D0 :: ms) ++ R) H4 ρ4 (L4 ++ Lk) ((st4.withSl st1.sl).back kept) σ W6 := fun hW6 =>
                            Sat.back (satOf kle kρ k4.bk k4.kn k4.nx (g5.sl.mono kle kρ) (hW6.perm (perm_end _ _ _ _ _))) (g3.mono kle kρ) (g4.mono kle kρ)
                          cases e with
                          | normal =>
                            simp only at k1
                            split at k1
                            · rename_i s' hfill
                              obtain ⟨ρ5, L5, st5, i1, i2, i3⟩ := fillE_ok (kn := st1.kn) g5.nx kle kρ g5.kn g5.fr k4 hfill
                              refine ⟨rfl, H4, L5 ++ ((Lk ++ F) ++ (mkO ms ++ R)), kle, by simpa [mkO] using i3.mem, m, s', ρ5, st5, L5, i2, i1, rfl, i3.bk, i3.kn, i3.nx, by rw [hstep] at k1; exact k1⟩
                            · exact k1.elim
                          | ret => exact ⟨rfl, H4, _, kle, kM, fun W6 hW6 => hk .ret (D0 :: ms) _ σ W6 H4 ρ4 _ k1 (fun h => by cases h) (g1.trans kle) (g2.trans kρ) (leave hW6)⟩
                          | exit id => exact ⟨rfl, H4, _, kle, kM, fun W6 hW6 => hk (.exit id) (D0 :: ms) _ σ W6 H4 ρ4 _ k1 (fun h => by cases h) (g1.trans kle) (g2.trans kρ) (leave hW6)⟩
                          | goto t => exact k1.elim
                          | panic c => exact k1.elim
                          | outgrown => exact k1.elim
                        | exit id => exact h1.elim
                        | goto t => exact h1.elim
                        | ret => exact h1.elim
                        | panic c => exact h1.elim
                        | outgrown => exact h1.elim
                      · exact a6.elim
                    · exact a6.elim
                · rintro D0 H' L' W hle ⟨m, s, ρ', st', Lx, a1, a2, rfl, a3, a4, a5, a6⟩ hM
                  cases m with
                  | zero => exact a6.elim
                  | succ m =>
                    have a6 : step (l.drop l.length, s) (LoopN step m) := a6
                    rw [← hstep] at a6
                    simp only [a2, List.drop_length] at a6
                    exact hk .normal (D0 :: ms) _ σ W H' ρ' _ a6 (fun h => by cases h) (g1.trans hle) (g2.trans a1) (Sat.back (satOf hle a1 a3 a4 a5 (g5.sl.mono hle a1) (hM.perm (perm_end _ _ _ _ _))) (g3.mono hle a1) (g4.mono hle a1))
              · exact h.elim
            · exact h.elim
          · exact h.elim
        · exact h.elim
      · exact h.elim
  | scope c _ => intro rd ms B R pos fr F H ρ L st σ w K Q r md hr hs h hk; exact h.elim
  | label l => intro rd ms B R pos fr F H ρ L st σ w K Q r md hr hs h hk; exact h.elim
  | goto l => intro rd ms B R pos fr F H ρ L st σ w K Q r md hr hs h hk; exact h.elim
  | refuse s => intro rd ms B R pos fr F H ρ L st σ w K Q r md hr hs h hk; exact h.elim
end
end
section
section
variable {D : Nat → Type} [∀ t, Dt (D t)]
def slotsOf : Nat → List (SV D) → List (Nat × SV D)
  | _, [] => []
  | k, v :: r => (k, v) :: slotsOf (k + 1) r
variable {E : Env D} {fr : List (Nat × Blk D)} {F : List Ent} {w0 w : World} {H0 H : Hp} {R : List Ent} {ρ : RM} {L : List Ent} {st : St D} {σ : Nat → Value}
theorem slotsOf_ok : ∀ {l : List (SV D)} {xs : List Value} {k : Nat}, RvL H ρ xs l → SlR H ρ (slotsOf k l) (sl (enumA k xs) fun _ => undef)
  | [], _, _, _ => fun t v h => by cases h
  | u :: r, xs, k, ⟨x, q, e, h1, h2⟩ => fun t v h => by
    subst e
    unfold slotsOf getS at h
    show Rv H ρ (bif Nat.beq t k then x else sl (enumA (k + 1) q) (fun _ => undef) t) v
    cases hb : Nat.beq t k with
    | true => rw [hb] at h; cases h; exact h1
    | false => rw [hb] at h; exact slotsOf_ok h2 t v h
def isEnd : Exit → Bool
  | .ret => true
  | .normal => true
  | _ => false
theorem isEnd_ok {e : Exit} (h : isEnd e = true) : e = .ret ∨ e = .normal := by
  cases e <;> first | exact .inl rfl | exact .inr rfl | cases h
def runF (E : Env D) : Nat → CallI D
  | 0 => fun _ _ _ _ _ _ _ => False
  | n + 1 => fun f vs st fr pos K kp => match E.P.funcs[f]? with
    | some fn => match fn.body with
      | some c => cdP (entB E.P f && Nat.ble vs.length fn.ntmps) (runC E (runF E n) fn.ntmps false c pos fr ⟨slotsOf 0 vs, st.bk, st.kn, st.nx⟩ fun e st' => match e with
        | .panic c => kp (.panic c) st'
        | e => cdP (isEnd e) (match mapO (rvE E.P E.tb st' fr) fn.results.toList with
          | some rs => K (tupV rs) st'
          | none => False) False) False
      | none => False
    | none => False
theorem endM_ok {P : Program} {fn : Func} {T : Value → World → Prop} {e : Exit} (he : e = .ret ∨ e = .normal) {X : List Ent} : ∀ (ms : List Nat) {w : World}, Mem w0 H0 w H (mkO ms ++ X) → (∀ w', Mem w0 H0 w' H X → endQ P fn T e [] σ w') → endQM P fn T e (mkD ms) σ w
  | [], w, hM, k => k w hM
  | _ :: ms, _, hM, k => endQM.mark he hM 0 rfl fun _ hM' => endM_ok he ms (hM'.sub (List.sublist_cons_self _ _)) k
theorem panM_ok {T : World → Prop} {X : List Ent} : ∀ (ms : List Nat) {w : World}, Mem w0 H0 w H (mkO ms ++ X) → (∀ w', Mem w0 H0 w' H X → T w') → panM T (mkD ms) w
  | [], w, hM, k => k w hM
  | b :: ms, _, hM, k => ⟨b, rfl, hM.objAt (k := 0) rfl, panM_ok ms ((hM.putObj 0 rfl (.deferred none)).sub (List.sublist_cons_self _ _)) k⟩
theorem perm_mid (A B M R : List Ent) : (A ++ (B ++ (M ++ R))).Perm (M ++ (A ++ (B ++ R))) := by
  rw [← List.append_assoc, ← List.append_assoc, ← List.append_assoc A B R, ← List.append_assoc]
  exact (List.perm_append_comm (l₁ := A ++ B) (l₂ := M)).append_right R
theorem runF_ok (hE : E.Ok) : ∀ n, CallOk E.P E.G (runF E n)
  | 0 => fun _ _ _ _ _ _ _ _ _ _ _ _ _ _ _ _ _ h _ _ _ => h.elim
  | n + 1 => fun f vs st fr pos K kp F w0 H0 R H ρ L σ w xs h h0 hs hv => by
    unfold runF at h
    split at h
    · rename_i fn hf
      split at h
      · rename_i c hc
        obtain ⟨hb, h⟩ := cifP h
        rw [Bool.and_eq_true] at hb
        refine ⟨entB_ok hb.1, ?_⟩
        have hN : xs.toArray.size ≤ fn.ntmps := by
          have := Nat.le_of_ble_eq_true hb.2
          simpa [RvL.length hv] using this
        have hs0 : Sat fr F w0 H0 (mkO [] ++ R) H ρ L (⟨slotsOf 0 vs, st.bk, st.kn, st.nx⟩ : St D) (sl (enumA 0 xs) fun _ => undef) w := ⟨hs.mem, slotsOf_ok hv, hs.bk, hs.fr, hs.kn, hs.nx⟩
        refine calls_of_codeP (R := fun v w' => ∃ s st', K s st' ∧ Out fr F w0 H0 R H ρ (fun _ => undef) ⟨[], st'.bk, st'.kn, st'.nx⟩ s v w') (S := fun c w' => ∃ st' H' ρ' L', kp (.panic c) st' ∧ H.le H' ∧ RM.le ρ ρ' ∧ Sat fr F w0 H0 R H' ρ' L' (⟨[], st'.bk, st'.kn, st'.nx⟩ : St D) (fun _ => undef) w') hf hc hN ?_
        refine runC_ok (ms := []) (B := []) (R := R) hE h0 (runF_ok hE n) c (fun _ => ⟨rfl, rfl⟩) hs0 h fun e => ?_
        intro ms' st' σ' w' H' ρ' L' h1 _ h2 h3 h4
        have hM := h4.mem.perm (perm_mid _ _ _ _)
        have hfin : cdP (isEnd e) (match mapO (rvE E.P E.tb st' fr) fn.results.toList with
          | some rs => K (tupV rs) st'
          | none => False) False → endQM E.P fn (fun v w' => ∃ s st', K s st' ∧ Out fr F w0 H0 R H ρ (fun _ => undef) ⟨[], st'.bk, st'.kn, st'.nx⟩ s v w') e (mkD ms') σ' w' := fun h1 => by
          obtain ⟨he, h1⟩ := cifP h1
          refine endM_ok (isEnd_ok he) ms' hM fun w2 hw2 => ?_
          have h4 := h4.reR hw2
          split at h1
          · rename_i rs hrs
            obtain ⟨us, g1, g2⟩ := results_ok hE.tb h4 hrs
            refine ⟨isEnd_ok he, rfl, tupVal us, g2, tupV rs, st', h1, H', ρ', L', h2, h3, ⟨h4.mem, (fun t v hv => nomatch hv), h4.bk, h4.fr, h4.kn, h4.nx⟩, tupVal_ok g1⟩
          · exact h1.elim
        cases e with
        | panic c =>
          show panM _ (mkD ms' ++ []) w'
          rw [List.append_nil]
          refine panM_ok ms' hM fun w2 hw2 => ?_
          have h4 := h4.reR hw2
          exact ⟨st', H', ρ', L', h1, h2, h3, h4.mem, (fun t v hv => nomatch hv), h4.bk, h4.fr, h4.kn, h4.nx⟩
        | _ =>
          show endQM _ _ _ _ (mkD ms' ++ []) _ _
          rw [List.append_nil]
          exact hfin h1
      · exact h.elim
    · exact h.elim
def globB : SV D → Bool
  | .i _ _ | .w _ | .y _ | .k _ | .b _ | .p _ _ | .c _ | .nil | .fsl _ _ | .st _ => true
  | _ => false
theorem globB_ok {ρ' : RM} {s : SV D} {x : Value} (h : globB s = true) (hx : Rv H ρ x s) : Rv H ρ' x s := by
  cases s <;> first | exact hx | cases h
def rtC : List Bool → List (Nat × Blk D) → List (SV D) → Option (List (SV D) × List (Nat × Blk D))
  | [], bk, l => match l with
    | [] => some ([], bk)
    | _ :: _ => none
  | f :: fs, bk, l => match l with
    | [] => none
    | s :: r => match f with
      | true => match s with
        | .own id => match remB bk id with
          | some (.row e xs, bk1) => match rtC fs bk1 r with
            | some (p, bk2) => some (.fsl e xs :: p, bk2)
            | none => none
          | _ => none
        | .nil => match rtC fs bk r with
          | some (p, bk2) => some (.nil :: p, bk2)
          | none => none
        | _ => none
      | false => bif globB s then (match rtC fs bk r with
        | some (p, bk2) => some (s :: p, bk2)
        | none => none) else none
def RtR (w0 : World) (H0 : Hp) (w : World) (H : Hp) (ρ : RM) (fs : List Bool) (us : List Value) (q : List (SV D)) (bk' : List (Nat × Blk D)) (X : List Ent) : Prop :=
  ∃ S L', Mem w0 H0 w H (L' ++ (S ++ X)) ∧ BkR H ρ bk' L' ∧ ∀ (nx : Nat) (ρ0 : RM) (l' : List (SV D)) (b : List (Nat × Blk D)) (m : Nat), (∀ id, nx ≤ id → ρ0 id = none) → ownC fs nx q = some (l', b, m) → ∃ ρ', RM.le ρ0 ρ' ∧ nx ≤ m ∧ (∀ id, m ≤ id → ρ' id = none) ∧ (∀ id, id < nx → ρ' id = ρ0 id) ∧ RvL H ρ' us l' ∧ BkR H ρ' b S
theorem RtR.row {fs : List Bool} {bk' : List (Nat × Blk D)} {X : List Ent} {e : Nat} {xs : List (D e)} {A : Option Addr} {n c : Nat} {z : List Value} {L1 : List Ent} {q1 : List (SV D)} {x : Value} {u : List Value} (hM1 : Mem w0 H0 w H (.row (.slice A n c) e (Dt.sz (D e)) n z :: (L1 ++ X))) (hd : DtL (α := D e) H z xs) (hn : n = xs.length) (hx : x = .slice A n c)
    (h : Mem w0 H0 w H (L1 ++ ([.row (.slice A n c) e (Dt.sz (D e)) n z] ++ X)) → RtR w0 H0 w H ρ fs u q1 bk' ([.row (.slice A n c) e (Dt.sz (D e)) n z] ++ X)) : RtR w0 H0 w H ρ (true :: fs) (x :: u) (.fsl e xs :: q1) bk' X := by
  have hM2 : Mem w0 H0 w H (L1 ++ ([.row (.slice A n c) e (Dt.sz (D e)) n z] ++ X)) := hM1.perm (by
    rw [← List.append_assoc]
    exact (List.perm_append_comm (l₁ := [Ent.row (.slice A n c) e (Dt.sz (D e)) n z]) (l₂ := L1)).append_right X)
  obtain ⟨S, L', a1, a2, a3⟩ := h hM2
  refine ⟨.row (.slice A n c) e (Dt.sz (D e)) n z :: S, L', a1.perm ?_, a2, fun nx ρ0 l' b m hn0 ho => ?_⟩
  · refine List.Perm.append_left L' ?_
    show (S ++ ([Ent.row (.slice A n c) e (Dt.sz (D e)) n z] ++ X)).Perm ([Ent.row (.slice A n c) e (Dt.sz (D e)) n z] ++ S ++ X)
    rw [← List.append_assoc]
    exact List.perm_append_comm.append_right X
  · rw [ownC] at ho
    cases ho1 : ownC fs (nx + 1) q1 with
    | none => simp only [ho1] at ho; cases ho
    | some t =>
      obtain ⟨l1, b1, m1⟩ := t
      simp only [ho1] at ho
      cases ho
      obtain ⟨f1, f2⟩ := fresh_put hn0 (.r A n c)
      obtain ⟨ρ', b2, b3, b4, b4', b5, b6⟩ := a3 (nx + 1) (ρ0.put nx (.r A n c)) _ _ _ f2 ho1
      have e0 : ρ' nx = some (.r A n c) := b2 _ _ (RM.put_same _ _ _)
      exact ⟨ρ', f1.trans b2, by omega, b4, fun id hid => by rw [b4' id (by omega), RM.put_ne _ _ (by omega)], ⟨x, u, rfl, ⟨A, n, c, e0, hx⟩, b5⟩, _, _, rfl, ⟨A, n, c, z, e0, rfl, hd, hn⟩, b6⟩
theorem rtC_ok : ∀ {fs : List Bool} {l p q : List (SV D)} {us : List Value} {bk bk' : List (Nat × Blk D)} {L X : List Ent}, Mem w0 H0 w H (L ++ X) → BkR H ρ bk L → RvL H ρ us l → rtC fs bk l = some (p, bk') → CQL p q → RtR w0 H0 w H ρ fs us q bk' X
  | [], l, p, q, us, bk, bk', L, X, hM, hk, hu, h, hq => by
    cases l with
    | cons _ _ => cases h
    | nil =>
      cases h
      obtain rfl : q = [] := hq
      refine ⟨[], L, hM, hk, fun nx ρ0 l' b m hn ho => ?_⟩
      cases ho
      exact ⟨ρ0, RM.le.refl _, Nat.le_refl _, hn, fun _ _ => rfl, hu, rfl⟩
  | f :: fs, l, p, q, us, bk, bk', L, X, hM, hk, hu, h, hq => by
    cases l with
    | nil => cases h
    | cons s r =>
      obtain ⟨x, u, rfl, h1, h2⟩ := hu
      unfold rtC at h
      cases f with
      | true =>
        simp only at h
        split at h
        · rename_i id
          split at h
          · rename_i e xs bk1 hr
            split at h
            · rename_i p1 bk2 hr1
              cases h
              obtain ⟨q0, q1, rfl, hcq, hq1⟩ := hq
              obtain ⟨S1, L1, g1, ⟨A, n, c, z, g2, rfl, g3, g4⟩, g5⟩ := hk.rem hr
              obtain ⟨A', n', c', g6, g7⟩ := h1
              rw [g2] at g6; cases g6
              have hq0 : q0 = .fsl e xs := by
                rcases hcq with ⟨e', xs', rfl, h | ⟨h, _⟩⟩ | ⟨hsc, _⟩
                · exact h.symm
                · cases h
                · cases hsc
              subst hq0
              exact RtR.row (hM.perm (g1.append_right X)) g3 g4 g7 fun hM2 => rtC_ok hM2 g5 h2 hr1 hq1
            · cases h
          · cases h
        · split at h
          · rename_i p1 bk2 hr1
            cases h
            obtain ⟨q0, q1, rfl, hcq, hq1⟩ := hq
            rcases hcq with ⟨e', xs', rfl, h | ⟨_, rfl⟩⟩ | ⟨hsc, _⟩
            · cases h
            · exact RtR.row (hM.nilRow e' (Dt.sz (D e'))) DtL.nil rfl h1 fun hM2 => rtC_ok hM2 hk h2 hr1 hq1
            · cases hsc
          · cases h
        · cases h
      | false =>
        simp only at h
        have hh := cif h
        clear h
        obtain ⟨hgl, h⟩ := hh
        split at h
        · rename_i p1 bk2 hr1
          cases h
          obtain ⟨q0, q1, rfl, hcq, hq1⟩ := hq
          obtain ⟨S, L', a1, a2, a3⟩ := rtC_ok hM hk h2 hr1 hq1
          refine ⟨S, L', a1, a2, fun nx ρ0 l' b m hn0 ho => ?_⟩
          rw [ownC] at ho
          cases ho1 : ownC fs nx q1 with
          | none => simp only [ho1] at ho; cases ho
          | some t =>
            obtain ⟨l1, b1, m1⟩ := t
            simp only [ho1] at ho
            cases ho
            obtain ⟨ρ', b2, b3, b4, b4', b5, b6⟩ := a3 nx ρ0 _ _ _ hn0 ho1
            exact ⟨ρ', b2, b3, b4, b4', ⟨x, u, rfl, hcq.rv (globB_ok hgl h1), b5⟩, b6⟩
        · cases h
def rtCC : List (List Bool) → List (Nat × Blk D) → List (List (SV D)) → Option (List (List (SV D)))
  | [], _, l => match l with
    | [] => some []
    | _ :: _ => none
  | f :: fs, bk, l => match l with
    | [] => none
    | c :: r => match rtC f bk c with
      | some (p, bk1) => match rtCC fs bk1 r with
        | some q => some (p :: q)
        | none => none
      | none => none
def falseIds : List (List Bool) → List (List (SV D)) → List Nat
  | f :: fs, l :: ls => ownIdsL ((f.zip l).filterMap fun p => bif p.1 then none else some p.2) ++ falseIds fs ls
  | _, _ => []
def cqTup (tb : Tb D) : (ts : List Nat) → TupD D ts → List (List (SV D)) → List (List (SV D)) → Prop
  | [], _, _, q => q = []
  | t :: r, y, p, q => ∃ p1 p2 q1 q2, p = p1 :: p2 ∧ q = q1 :: q2 ∧ toC tb t y.1 = some q1 ∧ CQL p1 q1 ∧ cqTup tb r y.2 p2 q2
theorem ofTup_cq {tb : Tb D} (htb : TbOk tb) : ∀ {ts : List Nat} {p : List (List (SV D))} {y : TupD D ts}, ofTup tb ts p = some y → ∃ q, tupC tb ts y = some q ∧ cqTup tb ts y p q
  | [], [], y, h => ⟨[], rfl, rfl⟩
  | [], _ :: _, _, h => by cases h
  | _ :: _, [], _, h => by cases h
  | t :: r, p1 :: p2, y, h => by
    obtain ⟨h1, h2⟩ := ofTup2 h
    obtain ⟨q1, g1, g2⟩ := ofC_cq htb h1
    obtain ⟨q2, g3, g4⟩ := ofTup_cq htb h2
    refine ⟨q1 :: q2, ?_, p1, p2, q1, q2, rfl, rfl, g1, g2, g4⟩
    rw [tupC]
    simp only [g1, g3]
theorem rtCC_ok {tb : Tb D} : ∀ {ts : List Nat} {fs : List (List Bool)} {l p q : List (List (SV D))} {y : TupD D ts} {us : List (List Value)} {bk : List (Nat × Blk D)} {L X : List Ent}, Mem w0 H0 w H (L ++ X) → BkR H ρ bk L → RvLL H ρ us l → rtCC fs bk l = some p → cqTup tb ts y p q →
    ∃ S, Mem w0 H0 w H (S ++ X) ∧ ∀ (nx : Nat) (ρ0 : RM) (l' : List (List (SV D))) (b : List (Nat × Blk D)) (m : Nat), (∀ id, nx ≤ id → ρ0 id = none) → ownCC fs nx q = some (l', b, m) → ∃ ρ', RM.le ρ0 ρ' ∧ nx ≤ m ∧ (∀ id, m ≤ id → ρ' id = none) ∧ (∀ id, id < nx → ρ' id = ρ0 id) ∧ RvLL H ρ' us l' ∧ BkR H ρ' b S
  | [], fs, l, p, q, y, us, bk, L, X, hM, hk, hu, h, hq => by
    obtain rfl : q = [] := hq
    refine ⟨[], hM.sub (List.sublist_append_right L X), fun nx ρ0 l' b m hn ho => ?_⟩
    cases fs with
    | cons _ _ => cases ho
    | nil =>
      cases ho
      cases l with
      | cons _ _ => cases h
      | nil => exact ⟨ρ0, RM.le.refl _, Nat.le_refl _, hn, fun _ _ => rfl, hu, rfl⟩
  | t :: ts, fs, l, p, q, y, us, bk, L, X, hM, hk, hu, h, ⟨p1, p2, q1, q2, hp, hq, _, hc, hr⟩ => by
    subst hp; subst hq
    cases fs with
    | nil => cases l <;> cases h
    | cons f fs =>
      cases l with
      | nil => cases h
      | cons c l =>
        obtain ⟨u, v, rfl, h1, h2⟩ := hu
        rw [rtCC] at h
        cases ha : rtC f bk c with
        | none => simp only [ha] at h; cases h
        | some a =>
          obtain ⟨a1, bk1⟩ := a
          cases hb : rtCC fs bk1 l with
          | none => simp only [ha, hb] at h; cases h
          | some b =>
            simp only [ha, hb] at h
            cases h
            obtain ⟨S1, L1, g1, g2, g3⟩ := rtC_ok hM hk h1 ha hc
            obtain ⟨S2, k1, k2⟩ := rtCC_ok (ts := ts) g1 g2 h2 hb hr
            refine ⟨S1 ++ S2, k1.perm ?_, fun nx ρ0 l' b m hn ho => ?_⟩
            · rw [← List.append_assoc]
              exact List.perm_append_comm.append_right X
            · rw [ownCC] at ho
              cases ho1 : ownC f nx q1 with
              | none => simp only [ho1] at ho; cases ho
              | some o =>
                obtain ⟨l1, b1, m1⟩ := o
                cases ho2 : ownCC fs m1 q2 with
                | none => simp only [ho1, ho2] at ho; cases ho
                | some o2 =>
                  obtain ⟨l2, b2, m2⟩ := o2
                  simp only [ho1, ho2] at ho
                  cases ho
                  obtain ⟨ρ1, i1, i2, i3, i3', i4, i5⟩ := g3 nx ρ0 _ _ _ hn ho1
                  obtain ⟨ρ2, j1, j2, j3, j3', j4, j5⟩ := k2 m1 ρ1 _ _ _ i3 ho2
                  exact ⟨ρ2, i1.trans j1, by omega, j3, fun id hid => by rw [j3' id (by omega), i3' id hid], ⟨u, v, rfl, RvL.mono (Hp.le.refl _) j1 _ i4, j4⟩, (i5.mono (Hp.le.refl _) j1).append j5⟩
def retF (P : Program) (tb : Tb D) (fn : Func) (rs : List Nat) (own : List (List Bool)) (Φ : TupD D rs → Prop) (st : St D) : Prop := match mapO (rvE P tb st []) fn.results.toList with
  | some vs => match argsC P rs (vs.map fun v => rsD (st.lk []) (resD st.kn v)) with
    | some ls0 => match mapO (rvE P tb (st.frzL (falseIds own ls0)) []) fn.results.toList with
      | some us => match argsC P rs (us.map fun v => rsD ((st.frzL (falseIds own ls0)).lk []) (resD st.kn v)) with
        | some ls => match rtCC own (st.frzL (falseIds own ls0)).bk ls with
          | some ps => match ofTup tb rs ps with
            | some y => Φ y
            | none => False
          | none => False
        | none => False
      | none => False
    | none => False
  | none => False
def topF (E : Env D) (n : Nat) (f : Nat) (ps rs : List Nat) (own : List (List Bool)) (x : TupD D ps) (Φ : TupD D rs → Prop) : Prop := match tupC E.tb ps x with
  | some ls => match packs E.P ps ls with
    | some vs => match E.P.funcs[f]? with
      | some fn => match fn.body with
        | some c => cdP (Nat.ble vs.length fn.ntmps) (runC E (runF E n) fn.ntmps false c [] [] ⟨slotsOf 0 vs, [], [], 0⟩ fun e st' => cdP (isEnd e) (retF E.P E.tb fn rs own Φ st') False) False
        | none => False
      | none => False
    | none => False
  | none => False
theorem Ct.lift (hE : E.Ok) (n : Nat) (c : Ct D) (h : ∀ x Φ, c.W x Φ → topF E n c.f c.ps c.rs c.own x Φ) : c.Ok E.P E.tb E.G := by
  intro x Φ hW H vs hGH hA
  have hF := h x Φ hW
  unfold topF at hF
  split at hF
  · rename_i ls hls
    split at hF
    · rename_i svs hsv
      split at hF
      · rename_i fn hfn
        split at hF
        · rename_i cd hcd
          obtain ⟨hN, hF⟩ := cifP hF
          obtain ⟨cs, g1, g2⟩ := argsR_cells (ρ := fun _ => none) hE.tb hA hls
          have g3 := packs_ok g1 g2 hsv
          refine RetP.of_codeM hfn hcd (by have := Nat.le_of_ble_eq_true hN; simpa [RvL.length g3] using this) fun w hM => ?_
          have hs0 : Sat [] [] w H (mkO [] ++ []) H (fun _ => none) [] (⟨slotsOf 0 svs, [], [], 0⟩ : St D) (sl (enumA 0 vs) fun _ => undef) w := ⟨hM, slotsOf_ok g3, rfl, rfl, (fun _ _ h => nomatch h), fun _ _ => rfl⟩
          refine runC_ok (ms := []) (B := []) (R := []) hE hGH (runF_ok hE n) cd (fun _ => ⟨rfl, rfl⟩) hs0 hF fun e => ?_
          intro ms' st' σ' w' H' ρ' L' h1 _ h2 h3 h4
          rw [List.append_nil]
          obtain ⟨he, h1⟩ := cifP h1
          refine endM_ok (isEnd_ok he) ms' (h4.mem.perm (perm_mid _ _ _ _)) fun w2 hw2 => ?_
          have h4 := h4.reR hw2
          unfold retF at h1
          split at h1
          · rename_i v1 hv1
            split at h1
            · rename_i ls0 hl0
              split at h1
              · rename_i us hus
                split at h1
                · rename_i ls1 hl1
                  split at h1
                  · rename_i ps hps
                    split at h1
                    · rename_i y hy
                      obtain ⟨H2, L2, k1, k2⟩ := h4.frzL (falseIds c.own ls0)
                      obtain ⟨ux, e1, e2⟩ := results_ok hE.tb k2 hus
                      have hkn := (frzL_sl (falseIds c.own ls0) st').2.1
                      have e3 := mapRs_ok k2 e1
                      rw [hkn] at e3
                      obtain ⟨cs2, e4, e5⟩ := argsC_cells e3 hl1
                      obtain ⟨q, e6, e7⟩ := ofTup_cq hE.tb hy
                      have hM2 := k2.mem
                      obtain ⟨S, i1, i2⟩ := rtCC_ok (X := []) (by simpa using hM2) k2.bk e5 hps e7
                      refine ⟨isEnd_ok he, rfl, tupVal ux, e2, H2, S, by simpa using i1, y, h1, ?_⟩
                      intro nx ρ0 hn0 s b m hres
                      unfold resE at hres
                      rw [e6] at hres
                      simp only at hres
                      split at hres
                      · rename_i ls' b' m' ho
                        split at hres
                        · rename_i vs' hp
                          cases hres
                          obtain ⟨ρ2, j1, j2, j3, j3', j4, j5⟩ := i2 nx ρ0 _ _ _ hn0 ho
                          exact ⟨ρ2, j1, j2, j3, j3', tupVal_ok (packs_ok e4 j4 hp), j5⟩
                        · cases hres
                      · cases hres
                    · exact h1.elim
                  · exact h1.elim
                · exact h1.elim
              · exact h1.elim
            · exact h1.elim
          · exact h1.elim
        · exact hF.elim
      · exact hF.elim
    · exact hF.elim
  · exact hF.elim
end
end
section
section
variable {F : Fence} {n : Nat} {P : Program} {ops : Array Oper} {Q : Exit → Act → World → Prop}
theorem wpList_cons1 {Q1 : Exit → Act → World → Prop} {o : Oper} {l : List Oper} {a : Act} {w : World} (h : wpListIn F n P ops Q1 [o] a w) (hK : ∀ a w, Q1 .normal a w → wpListIn F n P ops Q l a w) (hp : ∀ c a w, ¬ Q1 (.panic c) a w) (hl : ¬ LetsOut Q1) : wpListIn F n P ops Q (o :: l) a w := by
  unfold wpListIn at h ⊢
  split at h
  · rename_i hw
    rw [if_pos hw]
    refine ⟨h.1, ?_⟩
    have h2 := h.2
    generalize (o.semAt F.round a.eval).run P w = res at h2
    cases res with
    | ok nx w' =>
      cases nx with
      | value v => exact hK _ _ h2
      | skip => exact hK _ _ h2
      | defer d => exact hK _ _ h2
      | enter f args =>
        refine ⟨h2.1, h2.2.mono fun e w'' he => ?_⟩
        cases e with
        | returned v => exact hK _ _ he
        | panicked chain => exact absurd he (hp _ _ _)
        | outgrown => exact absurd he hl
      | row row args => exact ⟨h2.1, h2.2.mono fun v w'' he => hK _ _ he⟩
      | round l f tmps assign body =>
        refine ⟨h2.1, h2.2.mono fun e w'' he => ?_⟩
        cases e with
        | returned v => exact hK _ _ he
        | panicked chain => exact absurd he (hp _ _ _)
        | outgrown => exact absurd he hl
      | _ => exact h2
    | halt x w' =>
      cases x with
      | panic v => exact absurd h2 (hp _ _ _)
      | _ => exact h2
  · rename_i hw
    rw [if_neg hw]
    exact ⟨h.1, hK _ _ h.2⟩
end
theorem RW.cons1 {r : Option Nat} {md : Nat} {P : Program} {N : Nat} {ops : Array Oper} {o : Oper} {l : List Oper} {Q : Exit → List Deferred → (Nat → Value) → World → Prop} {Dd : List Deferred} {σ : Nat → Value} {w : World}
    (h : RW r md P N ops [o] (fun e D' σ' w' => e = .normal ∧ RW r md P N ops l Q D' σ' w') Dd σ w) : RW r md P N ops (o :: l) Q Dd σ w := by
  intro a ha
  refine wpList_cons1 (h a ha) (fun a' w' hq => ?_) (fun c a' w' hq => ?_) (fun hq => ?_)
  · obtain ⟨D', σ', h1, _, h2⟩ := hq
    exact h2 a' h1
  · obtain ⟨_, _, _, hn, _⟩ := hq
    cases hn
  · obtain ⟨_, _, _, _, _, hn, _⟩ := hq
    cases hn
def Yl {α : Type} (l : List α) (K : α → List α → Prop) : Prop := match l with
  | [] => False
  | x :: r => K x r
section
variable {D : Nat → Type} [∀ t, Dt (D t)]
def yieldE (st : St D) (op : Op) : Option (List Operand) := match op with
  | .call ⟨.value g, xs, _⟩ => match evO st.sl g with
    | some (.kp 0) => some xs.toList
    | _ => none
  | _ => none
omit [∀ t, Dt (D t)] in
theorem yieldE_ok {st : St D} {op : Op} {xs : List Operand} (h : yieldE st op = some xs) : ∃ g ys tys, op = .call ⟨.value g, ys, tys⟩ ∧ evO st.sl g = some (.kp 0) ∧ xs = ys.toList := by
  unfold yieldE at h
  split at h
  · split at h
    · rename_i hg
      cases h
      exact ⟨_, _, _, rfl, hg, rfl⟩
    · cases h
  · cases h
def memI (P : Program) (tb : Tb D) (st : St D) (fr : List (Nat × Blk D)) (op : Op) : Option (SV D × St D) := match op with
  | .alloc T => match alE P st.nx T with
    | some (_, v, ef) => some (v, st.eff ef)
    | none => none
  | .box T _ => match opVals st fr op with
    | some [a] => match bxE st.nx T a with
      | some (_, v, ef) => some (v, st.eff ef)
      | none => none
    | _ => none
  | .store T _ _ => match opVals st fr op with
    | some [.ptr id off, b] => match stE P tb (gtB st.bk) T (.ptr id off) b with
      | some (_, v, ef) => some (v, st.eff ef)
      | none => none
    | _ => none
  | _ => none
def isMemI : Op → Bool
  | .alloc _ => true
  | .box _ _ => true
  | .store _ _ _ => true
  | _ => false
def yOp (E : Env D) (fr : List (Nat × Blk D)) (ts : List Nat) (o : Oper) (sp : Bool) (st : St D) (rest : List (TupD D ts)) (K : Bool → St D → List (TupD D ts) → Prop) : Prop := match yieldE st o.op with
  | some xs => match sp with
    | true => False
    | false => Yl rest fun x r => match mapO (fun x => (evO st.sl x).map fun v => rsD (st.lk fr) (resD st.kn v)) xs with
      | some vs => match argsC E.P ts vs with
        | some ls => match ofTup E.tb ts ls with
          | some a => a = x ∧ K false ((⟨st.sl, [], st.kn, st.nx⟩ : St D).put o.dst (.k true)) r ∧ K true ((⟨st.sl, [], st.kn, st.nx⟩ : St D).put o.dst (.k false)) (x :: r)
          | none => False
        | none => False
      | none => False
  | none => match isMemI o.op with
    | true => match memI E.P E.tb st fr o.op with
      | some (v, st') => K sp (st'.put o.dst v) rest
      | none => False
    | false => stepD E fr o st fun v e _ _ => cdP e False (K sp (st.put o.dst v) rest)
def yFl (E : Env D) (fr : List (Nat × Blk D)) (ts : List Nat) (q : Bool) (o : Oper) (sp : Bool) (st : St D) (rest : List (TupD D ts)) (K : Bool → St D → List (TupD D ts) → Prop) : Prop := match q with
  | true => match quietE E fr o st with
    | some v => K sp (st.put o.dst v) rest
    | none => False
  | false => yOp E fr ts o sp st rest K
def runYF (E : Env D) (N : Nat) (fr : List (Nat × Blk D)) (ts : List Nat) (ops : Array Oper) (fl : List Nat) : List Nat → Bool → St D → List (TupD D ts) → (Bool → St D → List (TupD D ts) → Prop) → Prop
  | [], sp, st, rest, K => K sp st rest
  | i :: g, sp, st, rest, K => match ops[i]? with
    | none => False
    | some o => cdP (dstOk o.dst N) (match gdE ops st o.guard with
      | .yes => yFl E fr ts (fl.any (Nat.beq i)) o sp st rest fun sp' st' rest' => runYF E N fr ts ops fl g sp' st' rest' K
      | .no => runYF E N fr ts ops fl g sp (st.put o.dst (.c undef)) rest K
      | .ask t v want => askF v
          (cdP want (yFl E fr ts (fl.any (Nat.beq i)) o sp (st.know (.tmp t) true) rest fun sp' st' rest' => runYF E N fr ts ops fl g sp' st' rest' K) (runYF E N fr ts ops fl g sp ((st.know (.tmp t) true).put o.dst (.c undef)) rest K))
          (cdP want (runYF E N fr ts ops fl g sp ((st.know (.tmp t) false).put o.dst (.c undef)) rest K) (yFl E fr ts (fl.any (Nat.beq i)) o sp (st.know (.tmp t) false) rest fun sp' st' rest' => runYF E N fr ts ops fl g sp' st' rest' K))
      | .bad => False) False
def runY (E : Env D) (N : Nat) (fr : List (Nat × Blk D)) (ts : List Nat) (ops : Array Oper) : List Oper → Bool → St D → List (TupD D ts) → (Bool → St D → List (TupD D ts) → Prop) → Prop
  | [], sp, st, rest, K => K sp st rest
  | o :: l, sp, st, rest, K => cdP (dstOk o.dst N) (match gdE ops st o.guard with
    | .yes => yOp E fr ts o sp st rest fun sp' st' rest' => runY E N fr ts ops l sp' st' rest' K
    | .no => runY E N fr ts ops l sp (st.put o.dst (.c undef)) rest K
    | .ask t v want => askF v
        (cdP want (yOp E fr ts o sp (st.know (.tmp t) true) rest fun sp' st' rest' => runY E N fr ts ops l sp' st' rest' K) (runY E N fr ts ops l sp ((st.know (.tmp t) true).put o.dst (.c undef)) rest K))
        (cdP want (runY E N fr ts ops l sp ((st.know (.tmp t) false).put o.dst (.c undef)) rest K) (yOp E fr ts o sp (st.know (.tmp t) false) rest fun sp' st' rest' => runY E N fr ts ops l sp' st' rest' K))
    | .bad => False) False
def runI (E : Env D) (N : Nat) (fr : List (Nat × Blk D)) (ts : List Nat) : Code → List Nat → Bool → St D → List (TupD D ts) → (Exit → Bool → St D → List (TupD D ts) → Prop) → Prop
  | .skip, _, sp, st, rest, K => K .normal sp st rest
  | .ret, _, sp, st, rest, K => K .ret sp st rest
  | .exit id, _, sp, st, rest, K => K (.exit id) sp st rest
  | .region _ ops dr, pos, sp, st, rest, K => match dr with
    | false => runY E N fr ts ops ops.toList sp st rest (K .normal)
    | true => match findP pos E.plan with
      | some pe => match pe.tp.rw with
        | 0 :: 0 :: g => cdP (Region.noSelect ops && (Nat.beq g.length ops.size && flB ops (pe.tp.sl.map (·.1)) g (Array.replicate ops.size false))) (runYF E N fr ts ops (pe.tp.sl.map (·.1)) g sp st rest (K .normal)) False
        | _ => False
      | none => False
  | .cond c a b, pos, sp, st, rest, K => match (evO st.sl c).map (res st.kn) with
    | some (.k true) => runI E N fr ts a (2 :: pos) sp st rest K
    | some (.k false) => runI E N fr ts b (3 :: pos) sp st rest K
    | some s => askF s (runI E N fr ts a (2 :: pos) sp (st.know c true) rest K) (runI E N fr ts b (3 :: pos) sp (st.know c false) rest K)
    | none => False
  | .block id c, pos, sp, st, rest, K => runI E N fr ts c (4 :: pos) sp st rest fun e sp' st' rest' => match e with
    | .exit id' => cdP (Nat.beq id' id) (K .normal sp' st' rest') (K (.exit id') sp' st' rest')
    | e => K e sp' st' rest'
  | .seq a b, pos, sp, st, rest, K => runI E N fr ts a (0 :: pos) sp st rest fun e sp' st' rest' => match e with
    | .normal => runI E N fr ts b (1 :: pos) sp' st' rest' K
    | e => K e sp' st' rest'
  | .loop c, pos, sp, st, rest, K => match sp, findP pos E.plan with
    | false, some pe => match fillE pe.tp st.tag.nx st.tag fr with
      | some s0 => LoopW (fun (q : List (TupD D ts) × TupV D pe.tp.vts) rec => match makeE pe.tp st.tag.nx st.tag.kn q.2 with
        | some st2 => match st2.bk with
          | [] => runI E N fr ts c (5 :: pos) false st2 q.1 fun e sp' st' rest' => match e with
            | .normal => match sp' with
              | false => match fillE pe.tp st.tag.nx st' fr with
                | some s' => rec (rest', s')
                | none => False
              | true => False
            | e => K e sp' st' rest'
          | _ :: _ => False
        | none => False) (rest, s0)
      | none => False
    | _, _ => False
  | _, _, _, _, _, _ => False
def JS {α : Type} (J Jx : Nat → World → Prop) (all : List α) (sp : Bool) (rest : List α) (w : World) : Prop := match sp with
  | false => ∃ k, k ≤ all.length ∧ J k w ∧ rest = all.drop k
  | true => ∃ k, k < all.length ∧ Jx k w
theorem JS.below {α : Type} {J Jx : Nat → World → Prop} (hJ : ∀ k A B, J k A → Below A.heap.size A B → J k B) (hJx : ∀ k A B, Jx k A → Below A.heap.size A B → Jx k B) {all rest : List α} {sp : Bool} {w w' : World} (h : JS J Jx all sp rest w) (hb : Below w.heap.size w w') : JS J Jx all sp rest w' := by
  cases sp with
  | false => obtain ⟨k, h0, h1, h2⟩ := h; exact ⟨k, h0, hJ _ _ _ h1 hb, h2⟩
  | true => obtain ⟨k, h1, h2⟩ := h; exact ⟨k, h1, hJx _ _ _ h2 hb⟩
variable {E : Env D} {N : Nat} {fr : List (Nat × Blk D)} {ts : List Nat} {H : Hp} {lp : Nat} {J Jx : Nat → World → Prop} {all : List (TupD D ts)}
def IS (J Jx : Nat → World → Prop) (all : List (TupD D ts)) (fr : List (Nat × Blk D)) (H : Hp) (ρ : RM) (sp : Bool) (rest : List (TupD D ts)) (st : St D) (σ : Nat → Value) (w : World) : Prop := ∃ wy L, Sat fr [] wy H [] H ρ L st σ w ∧ JS J Jx all sp rest wy
theorem IS.ag {ρ : RM} {sp : Bool} {rest : List (TupD D ts)} {st : St D} {σ : Nat → Value} {w : World} (h : IS J Jx all fr H ρ sp rest st σ w) : AgH H w := by
  obtain ⟨wy, L, hs, _⟩ := h
  exact hs.mem.agree
theorem IS.put {ρ : RM} {sp : Bool} {rest : List (TupD D ts)} {st : St D} {σ : Nat → Value} {w : World} (h : IS J Jx all fr H ρ sp rest st σ w) {x : Value} {v : SV D} (hv : Rv H ρ x v) (d : Option Nat) : IS J Jx all fr H ρ sp rest (st.put d v) (upd σ d x) w := by
  obtain ⟨wy, L, hs, hj⟩ := h
  exact ⟨wy, L, hs.put hv d, hj⟩
theorem IS.know {ρ : RM} {sp : Bool} {rest : List (TupD D ts)} {st : St D} {σ : Nat → Value} {w : World} (h : IS J Jx all fr H ρ sp rest st σ w) {c : Operand} {b : Bool} (hc : ev σ c = .bool b) : IS J Jx all fr H ρ sp rest (st.know c b) σ w := by
  obtain ⟨wy, L, hs, hj⟩ := h
  exact ⟨wy, L, hs.know hc, hj⟩
theorem IS.res {ρ : RM} {sp : Bool} {rest : List (TupD D ts)} {st : St D} {σ : Nat → Value} {w : World} (h : IS J Jx all fr H ρ sp rest st σ w) {x : Value} {v : SV D} (hv : Rv H ρ x v) : Rv H ρ x (Go.Proofs.YtbnfefbhalpceaaGreat.res st.kn v) := by
  obtain ⟨wy, L, hs, _⟩ := h
  exact hs.res hv
theorem IS.slr {ρ : RM} {sp : Bool} {rest : List (TupD D ts)} {st : St D} {σ : Nat → Value} {w : World} (h : IS J Jx all fr H ρ sp rest st σ w) : SlR H ρ st.sl σ := by
  obtain ⟨wy, L, hs, _⟩ := h
  exact hs.sl
def YOk (P : Program) (ts : List Nat) (H : Hp) (lp : Nat) (J Jx : Nat → World → Prop) (all : List (TupD D ts)) : Prop := ∀ k A0 vs, k < all.length → (∃ y, all[k]? = some y ∧ ArgsR P H ts y vs) → J k A0 → (∀ b o, H b = some o → A0.heap[b]? = some o) → Yield P lp vs A0 fun v B => (∀ b o, H b = some o → B.heap[b]? = some o) ∧ ((v = .bool true ∧ J (k + 1) B) ∨ (v = .bool false ∧ Jx k B))
def GoesI (fr : List (Nat × Blk D)) (H : Hp) (J Jx : Nat → World → Prop) (all : List (TupD D ts)) (ρ : RM) (K : Bool → St D → List (TupD D ts) → Prop) (T : (Nat → Value) → World → Prop) : Prop := ∀ sp' st' rest' σ' w' ρ', K sp' st' rest' → RM.le ρ ρ' → IS J Jx all fr H ρ' sp' rest' st' σ' w' → T σ' w'
theorem GoesI.mono {ρ ρ' : RM} {K : Bool → St D → List (TupD D ts) → Prop} {T : (Nat → Value) → World → Prop} (h : GoesI fr H J Jx all ρ K T) (hρ : RM.le ρ ρ') : GoesI fr H J Jx all ρ' K T := fun sp st rest σ w ρ2 hk h1 hs => h sp st rest σ w ρ2 hk (hρ.trans h1) hs
theorem memI_ok {P : Program} {tb : Tb D} {σ : Nat → Value} {ty : TypeId} {w w0 : World} {H0 : Hp} {ρ : RM} {R L F : List Ent} {st st' : St D} (hs : Sat fr F w0 H0 R H ρ L st σ w) {op : Op} {v : SV D} (h : memI P tb st fr op = some (v, st')) : Dn P σ op ty w fun x w' => ∃ ρ' L', RM.le ρ ρ' ∧ Sat fr F w0 H0 R H ρ' L' st' σ w' ∧ Rv H ρ' x v := by
  unfold memI at h
  split at h
  · rename_i T
    split at h
    · rename_i gs v' ef ha
      cases h
      unfold alE at ha
      split at ha
      · rename_i l hl
        cases ha
        obtain ⟨z, hz, hc⟩ := zcE_ok hl
        intro r md N ops l2 Q Dd d pos af gd hg hd k
        refine RW.alloc hs.mem hz z.cells.toList (by simp) hg hd fun b w' hM => k _ _ ?_
        obtain ⟨a1, a2⟩ := hs.new (q := .b b) (b := .box T l) (Hp.le.refl _) ⟨b, _, RM.put_same _ _ _, rfl, hc _ _⟩ hM
        exact ⟨_, _, a1, a2, b, RM.put_same _ _ _, rfl⟩
      · cases ha
    · cases h
  · rename_i T x
    split at h
    · rename_i a hvs
      split at h
      · rename_i gs v' ef ha
        cases h
        unfold bxE at ha
        obtain ⟨ho, ha⟩ := cif ha
        cases ha
        obtain ⟨y, e, h1⟩ := rv1 (opVals_ok hs hvs)
        cases e
        obtain ⟨us, g1, g2⟩ := cellsV_ok ho h1
        intro r md N ops l2 Q Dd d pos af gd hg hd k
        refine RW.box hs.mem _ us rfl g1 hg hd fun b w' hM => k _ _ ?_
        obtain ⟨a1, a2⟩ := hs.new (q := .b b) (b := .box T (cellsV a)) (Hp.le.refl _) ⟨b, us, RM.put_same _ _ _, rfl, g2.mono (Hp.le.refl _) (hs.fresh _)⟩ hM
        exact ⟨_, _, a1, a2, b, RM.put_same _ _ _, rfl⟩
      · cases h
    · cases h
  · rename_i T x y
    split at h
    · rename_i id off b hvs
      split at h
      · rename_i gs v' ef ha
        cases h
        obtain ⟨x', y', e, h1, h2⟩ := rv2 (opVals_ok hs hvs)
        cases e
        unfold stE at ha
        obtain ⟨ho, ha⟩ := cif ha
        rw [Bool.and_eq_true] at ho
        obtain ⟨ho, hsz⟩ := ho
        obtain ⟨us, g1, g2⟩ := cellsV_ok ho h2
        have hlen := RvL.length g2
        have hsz : ∃ i, P.info? T = some i ∧ i.size = us.length := by rw [hlen]; exact size_of hsz
        have h1c : ∀ u ∈ us, u.oneCell' = true := oneL_ok ho g2
        obtain ⟨bl, e1, e2⟩ := h1
        intro r md N ops l2 Q Dd d pos af gd hg hd k
        simp only at ha
        split at ha
        · rename_i T' cs hl
          obtain ⟨hle, ha⟩ := cif ha
          cases ha
          obtain ⟨L1, S, L2, ⟨b', vs, f1, rfl, f3⟩, hM, hK⟩ := hs.write hl
          rw [e1] at f1; cases f1
          refine RW.store hM L1.length _ us _ hsz e2 rfl g1 h1c (get_at _ _ _) (by rw [hlen, RvL.length f3]; exact Nat.le_of_ble_eq_true hle) rfl _ (set_at _ _ _ _) hg hd fun w' hM' => k _ _ ?_
          exact ⟨ρ, _, RM.le.refl _, hK (Hp.le.refl _) (RM.le.refl _) ⟨bl, _, e1, rfl, setC_ok f3 g2⟩ hM' hs.nx, rfl⟩
        · cases ha
      · cases h
    · cases h
  · cases h
theorem yOp_ok (hE : E.Ok) (hG : E.G H) (hJ : ∀ k A B, J k A → Below A.heap.size A B → J k B) (hY : YOk E.P ts H lp J Jx all) {r : Option Nat} {md : Nat} {ops : Array Oper} {Q : Exit → List Deferred → (Nat → Value) → World → Prop} {Dd : List Deferred} {K : Bool → St D → List (TupD D ts) → Prop} {ρ : RM} (h0 : ρ 0 = some (.v (.func (.yield lp) #[] #[]))) {o : Oper} {l : List Oper} {sp : Bool} {st : St D} {rest : List (TupD D ts)} {σ : Nat → Value} {w : World} (hs : IS J Jx all fr H ρ sp rest st σ w) (h : yOp E fr ts o sp st rest K) (hgd : gdOk ops σ o.guard = true) (hd : dstOk o.dst N = true)
    (hk : GoesI fr H J Jx all ρ K fun σ' w' => RW r md E.P N ops l Q Dd σ' w') : RW r md E.P N ops (o :: l) Q Dd σ w := by
  obtain ⟨wy, L, hs, hj⟩ := hs
  unfold yOp at h
  split at h
  · rename_i xs hy
    split at h
    · exact h.elim
    · cases rest with
      | nil => exact h.elim
      | cons x rr =>
      simp only [Yl] at h
      obtain ⟨k, _, hJk, hrest⟩ := hj
      have hkl : k < all.length := by
        rcases Nat.lt_or_ge k all.length with h1 | h1
        · exact h1
        · rw [List.drop_eq_nil_of_le h1] at hrest; cases hrest
      rw [List.drop_eq_getElem_cons hkl] at hrest
      obtain ⟨rfl, rfl⟩ := List.cons.inj hrest
      split at h
      · rename_i vs hvs
        split at h
        · rename_i ls hls
          split at h
          · rename_i a ha
            obtain ⟨hax, hT, hF⟩ := h
            have hA := argsC_ok hE.tb ts (opVals_ok hs hvs) hls ha
            rw [hax] at hA
            obtain ⟨d, op, ty, ps, af, gd⟩ := o
            obtain ⟨g, ys, tys, hop, hg, rfl⟩ := yieldE_ok (op := op) hy
            subst hop
            have hgv : ρ 0 = some (.v (ev σ g)) := evO_ok hs.sl hg
            rw [h0] at hgv
            have hgv : ev σ g = .func (.yield lp) #[] #[] := by
              have := Option.some.inj hgv
              injection this with this
              exact this.symm
            have fresh : ∀ {w' : World}, (∀ b o, H b = some o → w'.heap[b]? = some o) → Sat fr [] w' H [] H ρ [] (⟨st.sl, [], st.kn, st.nx⟩ : St D) σ w' := fun hag => ⟨Mem.start hag, hs.sl, rfl, hs.fr, hs.kn, hs.nx⟩
            refine RW.yield hgv rfl (hY k w _ hkl ⟨_, List.getElem?_eq_getElem hkl, hA⟩ (hJ _ _ _ hJk hs.mem.below) hs.mem.agree) hgd hd fun v w' ⟨hag, hv⟩ => ?_
            rcases hv with ⟨rfl, hv⟩ | ⟨rfl, hv⟩
            · exact hk _ _ _ _ _ _ hT (RM.le.refl _) ⟨w', [], (fresh hag).put (v := .k true) rfl d, (show JS J Jx all false _ _ from ⟨k + 1, hkl, hv, rfl⟩)⟩
            · exact hk _ _ _ _ _ _ hF (RM.le.refl _) ⟨w', [], (fresh hag).put (v := .k false) rfl d, (show JS J Jx all true _ _ from ⟨k, hkl, hv⟩)⟩
          · exact h.elim
        · exact h.elim
      · exact h.elim
  · split at h
    · split at h
      · rename_i v st' hm
        obtain ⟨d, op, ty, ps, af, gd⟩ := o
        refine memI_ok (ty := ty) hs hm hgd hd fun x w' ⟨ρ', L', a1, a2, a3⟩ => ?_
        exact hk _ _ _ _ _ _ h a1 ⟨wy, L', a2.put a3 d, hj⟩
      · exact h.elim
    · obtain ⟨v, e, nb, hi, h1, h2⟩ := stepD_ok (ops := ops) hE h
      cases e with
      | true => exact h1.elim
      | false =>
        rcases h2 [] none with ⟨_, _, hq⟩ | ⟨hq, _⟩
        · refine RW.cons1 (hq hG (show Sat fr [] wy H [] H ρ L ⟨st.sl, st.bk, st.kn, st.nx⟩ σ w from hs) hgd hd fun x w' hm hx => RW.nil ⟨rfl, ?_⟩)
          have hM := hm _ hs.mem
          exact hk _ _ _ _ _ _ h1 (RM.le.refl _) ⟨wy, L, (⟨hM, hs.sl, hs.bk, hs.fr, hs.kn, hs.nx⟩ : Sat fr [] wy H [] H ρ L st σ w').put hx o.dst, hj⟩
        · cases hq
theorem runY_ok (hE : E.Ok) (hG : E.G H) (hJ : ∀ k A B, J k A → Below A.heap.size A B → J k B) (hY : YOk E.P ts H lp J Jx all) {r : Option Nat} {md : Nat} {ops : Array Oper} {Q : Exit → List Deferred → (Nat → Value) → World → Prop} {Dd : List Deferred} {K : Bool → St D → List (TupD D ts) → Prop} : ∀ {l : List Oper} {ρ : RM} {sp : Bool} {st : St D} {rest : List (TupD D ts)} {σ : Nat → Value} {w : World}, ρ 0 = some (.v (.func (.yield lp) #[] #[])) → IS J Jx all fr H ρ sp rest st σ w → runY E N fr ts ops l sp st rest K → (GoesI fr H J Jx all ρ K fun σ' w' => Q .normal Dd σ' w') → RW r md E.P N ops l Q Dd σ w
  | [], ρ, sp, st, rest, σ, w, h0, hs, h, hk => RW.nil (hk _ _ _ _ _ _ h (RM.le.refl _) hs)
  | o :: l, ρ, sp, st, rest, σ, w, h0, hs, h, hk => by
    unfold runY at h
    obtain ⟨hd, h⟩ := cifP h
    have step : ∀ {st : St D}, IS J Jx all fr H ρ sp rest st σ w → gdOk ops σ o.guard = true → (yOp E fr ts o sp st rest fun sp' st' rest' => runY E N fr ts ops l sp' st' rest' K) → RW r md E.P N ops (o :: l) Q Dd σ w := fun hs hgt h => yOp_ok hE hG hJ hY h0 hs h hgt hd fun sp' st' rest' σ' w' ρ' h1 h2 h3 => runY_ok hE hG hJ hY (h2 _ _ h0) h3 h1 (hk.mono h2)
    have pass : ∀ {st : St D}, IS J Jx all fr H ρ sp rest st σ w → gdOk ops σ o.guard = false → runY E N fr ts ops l sp (st.put o.dst (.c undef)) rest K → RW r md E.P N ops (o :: l) Q Dd σ w := fun hs hgf h => by
      obtain ⟨d, op, ty, ps, af, gd⟩ := o
      exact RW.pass hgf hd (runY_ok hE hG hJ hY h0 (hs.put (v := .c undef) rfl d) h hk)
    have gok : ∀ {j want d} {x : Bool}, o.guard = some (j, want) → (ops[j]?).bind (·.dst) = some d → σ d = .bool x → gdOk ops σ o.guard = (x == want) := fun h1 h2 h3 => by
      unfold gdOk
      rw [h1]
      simp only [h2, h3]
    unfold gdE at h
    cases hgd : o.guard with
    | none =>
      simp only [hgd] at h
      exact step hs (by rw [hgd]; rfl) h
    | some jw =>
      obtain ⟨j, want⟩ := jw
      simp only [hgd] at h
      cases hj' : (ops[j]?).bind (·.dst) with
      | none =>
        simp only [hj'] at h
        refine pass hs ?_ h
        unfold gdOk
        rw [hgd]
        simp only [hj']
      | some d =>
        simp only [hj'] at h
        cases hsl : (getS st.sl d).map (Go.Proofs.YtbnfefbhalpceaaGreat.res st.kn) with
        | none => simp only [hsl] at h
        | some s =>
          obtain ⟨v0, hv0, hv1⟩ := Option.map_eq_some_iff.1 hsl
          have hv2 := hs.res (hs.slr _ _ hv0)
          rw [hv1] at hv2
          simp only [hsl] at h
          have ask : ∀ {v : SV D}, Rv H ρ (σ d) v → askF v (cdP want (yOp E fr ts o sp (st.know (.tmp d) true) rest fun sp' st' rest' => runY E N fr ts ops l sp' st' rest' K) (runY E N fr ts ops l sp ((st.know (.tmp d) true).put o.dst (.c undef)) rest K))
              (cdP want (runY E N fr ts ops l sp ((st.know (.tmp d) false).put o.dst (.c undef)) rest K) (yOp E fr ts o sp (st.know (.tmp d) false) rest fun sp' st' rest' => runY E N fr ts ops l sp' st' rest' K)) → RW r md E.P N ops (o :: l) Q Dd σ w := fun hv h => by
            rcases askF_ok hv h with ⟨e, h⟩ | ⟨e, h⟩
            · have hk := hs.know (c := .tmp d) (b := true) e
              have hgg := gok hgd hj' e
              cases want with
              | true => exact step hk hgg h
              | false => exact pass hk hgg h
            · have hk := hs.know (c := .tmp d) (b := false) e
              have hgg := gok hgd hj' e
              cases want with
              | true => exact pass hk hgg h
              | false => exact step hk hgg h
          cases s with
          | k b =>
            simp only at h
            have hgg := gok hgd hj' (show σ d = .bool b from hv2)
            cases hb : b == want with
            | true => rw [hb] at h; exact step hs (hgg.trans hb) h
            | false => rw [hb] at h; exact pass hs (hgg.trans hb) h
          | c v =>
            simp only at h
            cases hb : isBoolV v with
            | true => rw [hb] at h; exact h.elim
            | false =>
              rw [hb] at h
              refine pass hs ?_ h
              unfold gdOk
              rw [hgd]
              simp only [hj', show σ d = v from hv2]
              cases v <;> first | rfl | cases hb
          | b x => exact ask hv2 h
          | p p i => exact ask hv2 h
          | _ => exact h.elim
theorem runYF_ok (hE : E.Ok) (hG : E.G H) (hJ : ∀ k A B, J k A → Below A.heap.size A B → J k B) (hY : YOk E.P ts H lp J Jx all) {md : Nat} {ops : Array Oper} {fl : List Nat} {Dd : List Deferred} {K : Bool → St D → List (TupD D ts) → Prop} {Q : Exit → Act → World → Prop} (hQ : ∀ c a w, ¬ Q (.panic c) a w) (hsel : Region.noSelect ops = true) : ∀ {g : List Nat} {ls : Array Bool} {ρ : RM} {sp : Bool} {st : St D} {rest : List (TupD D ts)} {σ : Nat → Value} {w : World} {a : Act},
    ρ 0 = some (.v (.func (.yield lp) #[] #[])) → Rep N Dd σ a → IS J Jx all fr H ρ sp rest st σ w → runYF E N fr ts ops fl g sp st rest K → flB ops fl g ls = true → (GoesI fr H J Jx all ρ K fun σ' w' => ∀ a', Rep N Dd σ' a' → Q .normal a' w') → wpAnyG (FR none) md E.P ops Q (AgH H) g.length ls a w
  | [], ls, ρ, sp, st, rest, σ, w, a, h0, ha, hs, h, hf, k => ⟨List.isEmpty_iff.1 hf, k _ _ _ _ _ _ h (RM.le.refl _) hs a ha⟩
  | i :: g, ls, ρ, sp, st, rest, σ, w, a, h0, ha, hs, h, hf, k => by
    unfold runYF at h
    unfold flB at hf
    rw [Bool.and_eq_true, Bool.and_eq_true] at hf
    obtain ⟨⟨hr, hfr⟩, hf⟩ := hf
    have hr : i ∈ Region.ready .any ops ls := by simpa using hr
    cases ho : ops[i]? with
    | none => simp only [ho] at h
    | some o =>
      simp only [ho] at h
      obtain ⟨hd, h⟩ := cifP h
      have ag : AgH H w := hs.ag
      have hwt : Region.wanted o (yielded ops a.tmps) = gdOk ops σ o.guard := wanted_of ha
      have more : ∀ {st' : St D} {sp' : Bool} {rest' : List (TupD D ts)} {σ' : Nat → Value} {w' : World} {ρ' : RM} {a' : Act}, Rep N Dd σ' a' → runYF E N fr ts ops fl g sp' st' rest' K → RM.le ρ ρ' → IS J Jx all fr H ρ' sp' rest' st' σ' w' → wpAnyG (FR none) md E.P ops Q (AgH H) g.length (ls.setIfInBounds i true) a' w' := fun h1 h2 h3 h4 => runYF_ok hE hG hJ hY hQ hsel (h3 _ _ h0) h1 h4 h2 hf (k.mono h3)
      have quiet : fl.any (Nat.beq i) = true → isQuiet o = true := fun hq => by
        rw [hq, cond_true, ho, Bool.and_eq_true] at hfr
        exact hfr.1
      have first : ∀ {v : Value}, fl.any (Nat.beq i) = true → YG (AgH H) E.P ops o v a → wpAnyG (FR none) md E.P ops Q (AgH H) g.length (ls.setIfInBounds i true) (a.put o.dst v) w → wpAnyG (FR none) md E.P ops Q (AgH H) (g.length + 1) ls a w := fun hq hy hw => by
        rw [hq, cond_true, Bool.and_eq_true] at hfr
        exact wpAnyG_first rfl ho (Region.noSelect_spec hsel) (fun c a w hc => absurd hc (hQ _ _ _)) g.length ls a w ag (Region.free_spec ho hfr.2) hr hy hw
      have only : fl.any (Nat.beq i) = false → wpOpIn (FR none) md E.P ops Q i (fun a' w' => AgH H w' ∧ wpAnyG (FR none) md E.P ops Q (AgH H) g.length (ls.setIfInBounds i true) a' w') a w → wpAnyG (FR none) md E.P ops Q (AgH H) (g.length + 1) ls a w := fun hq hw => by
        rw [hq, cond_false] at hfr
        have e : Region.ready .any ops ls = [i] := eqL_ok hfr
        refine ⟨fun h => (by rw [e] at h; cases h), fun j hj => ?_⟩
        rw [e, List.mem_singleton] at hj
        subst hj; exact hw
      have noAbout : ∀ f, o.about E.P w a.eval = some f → (FR none).fn f := fun f _ => FR_fn _ f
      have pass : ∀ {st : St D}, IS J Jx all fr H ρ sp rest st σ w → gdOk ops σ o.guard = false → runYF E N fr ts ops fl g sp (st.put o.dst (.c undef)) rest K → wpAnyG (FR none) md E.P ops Q (AgH H) (g.length + 1) ls a w := fun hs hg h => by
        have hw := more (ha.put hd undef) h (RM.le.refl _) (hs.put (v := .c undef) rfl o.dst)
        cases hq : fl.any (Nat.beq i) with
        | false =>
          refine only hq ?_
          unfold wpOpIn
          rw [ho]
          simp only
          rw [hwt, hg]
          exact ⟨noAbout, ag, hw⟩
        | true => exact first hq ⟨.inr ⟨hwt.trans hg, rfl⟩, fun w => isQuiet_about (quiet hq) a w⟩ hw
      have step : ∀ {st : St D}, IS J Jx all fr H ρ sp rest st σ w → gdOk ops σ o.guard = true → yFl E fr ts (fl.any (Nat.beq i)) o sp st rest (fun sp' st' rest' => runYF E N fr ts ops fl g sp' st' rest' K) → wpAnyG (FR none) md E.P ops Q (AgH H) (g.length + 1) ls a w := fun {st} hs hg h => by
        unfold yFl at h
        cases hq : fl.any (Nat.beq i) with
        | true =>
          rw [hq] at h
          simp only at h
          split at h
          · rename_i v hv
            have hs0 := hs
            obtain ⟨wy, L, hs, hj⟩ := hs
            obtain ⟨⟨x, h1, h2⟩, h3⟩ := quietE_ok hs hv
            refine first hq ⟨.inl ⟨hwt.trans hg, fun w' hw' => ?_⟩, fun w => h3 a w⟩ (more (ha.put hd x) h (RM.le.refl _) (hs0.put h1 o.dst))
            rw [ha.eval]
            exact h2 w' hw' _ _ _ _
          · exact h.elim
        | false =>
          rw [hq] at h
          simp only at h
          refine only hq ?_
          let Q1 : Exit → List Deferred → (Nat → Value) → World → Prop := fun e D' σ' w' => match e with
            | .normal => D' = Dd ∧ AgH H w' ∧ ∀ a', Rep N Dd σ' a' → wpAnyG (FR none) md E.P ops Q (AgH H) g.length (ls.setIfInBounds i true) a' w'
            | _ => False
          have h1 : RW none md E.P N ops [o] Q1 Dd σ w := yOp_ok hE hG hJ hY h0 hs h hg hd fun sp' st' rest' σ' w' ρ' g1 g2 g3 => RW.nil ⟨rfl, g3.ag, fun a' ha' => more ha' g1 g2 g3⟩
          have h2 := h1 a ha
          unfold wpListIn at h2
          unfold wpOpIn
          rw [ho]
          simp only
          rw [hwt, hg] at h2 ⊢
          simp only [if_true] at h2 ⊢
          refine Oper.wpIn_QK (fun a' w' hk => ?_) (fun e a' w' hne hk => ?_) h2
          · obtain ⟨D', σ', g1, g2, g3, g4⟩ := (show lift N Q1 .normal a' w' from hk)
            subst g2
            exact ⟨g3, g4 a' g1⟩
          · obtain ⟨D', σ', g1, g2⟩ := hk
            cases e with
            | normal => exact absurd rfl hne
            | _ => exact g2.elim
      have gok : ∀ {j want d} {x : Bool}, o.guard = some (j, want) → (ops[j]?).bind (·.dst) = some d → σ d = .bool x → gdOk ops σ o.guard = (x == want) := fun h1 h2 h3 => by
        unfold gdOk
        rw [h1]
        simp only [h2, h3]
      unfold gdE at h
      cases hgd : o.guard with
      | none =>
        simp only [hgd] at h
        exact step hs (by rw [hgd]; rfl) h
      | some jw =>
        obtain ⟨j, want⟩ := jw
        simp only [hgd] at h
        cases hj : (ops[j]?).bind (·.dst) with
        | none =>
          simp only [hj] at h
          refine pass hs ?_ h
          unfold gdOk
          rw [hgd]
          simp only [hj]
        | some d =>
          simp only [hj] at h
          cases hsl : (getS st.sl d).map (Go.Proofs.YtbnfefbhalpceaaGreat.res st.kn) with
          | none => simp only [hsl] at h
          | some s =>
            obtain ⟨v0, hv0, hv1⟩ := Option.map_eq_some_iff.1 hsl
            have hv2 := hs.res (hs.slr _ _ hv0)
            rw [hv1] at hv2
            simp only [hsl] at h
            have ask : ∀ {v : SV D}, Rv H ρ (σ d) v → askF v (cdP want (yFl E fr ts (fl.any (Nat.beq i)) o sp (st.know (.tmp d) true) rest (fun sp' st' rest' => runYF E N fr ts ops fl g sp' st' rest' K)) (runYF E N fr ts ops fl g sp ((st.know (.tmp d) true).put o.dst (.c undef)) rest K))
                (cdP want (runYF E N fr ts ops fl g sp ((st.know (.tmp d) false).put o.dst (.c undef)) rest K) (yFl E fr ts (fl.any (Nat.beq i)) o sp (st.know (.tmp d) false) rest (fun sp' st' rest' => runYF E N fr ts ops fl g sp' st' rest' K))) → wpAnyG (FR none) md E.P ops Q (AgH H) (g.length + 1) ls a w := fun hv h => by
              rcases askF_ok hv h with ⟨e, h⟩ | ⟨e, h⟩
              · have hk := hs.know (c := .tmp d) (b := true) e
                have hgg := gok hgd hj e
                cases want with
                | true => exact step hk hgg h
                | false => exact pass hk hgg h
              · have hk := hs.know (c := .tmp d) (b := false) e
                have hgg := gok hgd hj e
                cases want with
                | true => exact pass hk hgg h
                | false => exact step hk hgg h
            cases s with
            | k b =>
              simp only at h
              have hgg := gok hgd hj (show σ d = .bool b from hv2)
              cases hb : b == want with
              | true => rw [hb] at h; exact step hs (hgg.trans hb) h
              | false => rw [hb] at h; exact pass hs (hgg.trans hb) h
            | c v =>
              simp only at h
              cases hb : isBoolV v with
              | true => rw [hb] at h; exact h.elim
              | false =>
                rw [hb] at h
                refine pass hs ?_ h
                unfold gdOk
                rw [hgd]
                simp only [hj, show σ d = v from hv2]
                cases v <;> first | rfl | cases hb
            | b x => exact ask hv2 h
            | p p i => exact ask hv2 h
            | _ => exact h.elim
theorem runI_ok (hE : E.Ok) (hG : E.G H) (hJ : ∀ k A B, J k A → Below A.heap.size A B → J k B) (hY : YOk E.P ts H lp J Jx all) : ∀ (c : Code) {pos : List Nat} {sp : Bool} {st : St D} {rest : List (TupD D ts)} {σ : Nat → Value} {w : World} {ρ : RM} {K : Exit → Bool → St D → List (TupD D ts) → Prop} {Q : Exit → List Deferred → (Nat → Value) → World → Prop} {md : Nat},
    ρ 0 = some (.v (.func (.yield lp) #[] #[])) → IS J Jx all fr H ρ sp rest st σ w → runI E N fr ts c pos sp st rest K → (∀ e, GoesI fr H J Jx all ρ (K e) fun σ' w' => Q e [] σ' w') → CW none md E.P N c Q [] σ w := by
  intro c
  induction c with
  | skip => intro pos sp st rest σ w ρ K Q md h0 hs h hk; exact CW.skip (hk _ _ _ _ _ _ _ h (RM.le.refl _) hs)
  | ret => intro pos sp st rest σ w ρ K Q md h0 hs h hk; exact CW.ret (hk _ _ _ _ _ _ _ h (RM.le.refl _) hs)
  | exit id => intro pos sp st rest σ w ρ K Q md h0 hs h hk; exact CW.exit (hk _ _ _ _ _ _ _ h (RM.le.refl _) hs)
  | region id ops draw =>
    intro pos sp st rest σ w ρ K Q md h0 hs h hk
    unfold runI at h
    cases draw with
    | false =>
      obtain ⟨l⟩ := ops
      exact CW.region (runY_ok hE hG hJ hY h0 hs h (hk .normal))
    | true =>
      simp only at h
      split at h
      · rename_i pe hpe
        split at h
        · rename_i g hrw
          intro a ha
          obtain ⟨hc, h⟩ := cifP h
          rw [Bool.and_eq_true, Bool.and_eq_true] at hc
          obtain ⟨hc1, hc2, hc3⟩ := hc
          let Q1 : Exit → Act → World → Prop := fun e a w => match e with
            | .normal => lift N Q .normal a w
            | _ => False
          have hs' : IS J Jx all fr H ρ sp rest st σ { w with drawn := w.drawn + 1 } := by
            obtain ⟨wy, L, hs, hj⟩ := hs
            exact ⟨wy, L, ⟨hs.mem.drew, hs.sl, hs.bk, hs.fr, hs.kn, hs.nx⟩, hj⟩
          have h1 := runYF_ok (Q := Q1) (md := md) (Dd := []) hE hG hJ hY (fun _ _ _ hq => hq) hc1 h0 ha hs' h hc3 fun sp' st' rest' σ' w' ρ' g1 g2 g3 a' ha' => ⟨[], σ', ha', hk _ _ _ _ _ _ _ g1 g2 g3⟩
          rw [Nat.eq_of_beq_eq_true hc2] at h1
          refine wpIn_mono (wpIn_region_any hE.mo h1.any) fun e a' w' hq => ?_
          cases e with
          | normal => exact hq
          | _ => exact hq.elim
        · exact h.elim
      · exact h.elim
  | cond c a b iha ihb =>
    intro pos sp st rest σ w ρ K Q md h0 hs h hk
    unfold runI at h
    cases hc : (evO st.sl c).map (Go.Proofs.YtbnfefbhalpceaaGreat.res st.kn) with
    | none => simp only [hc] at h
    | some s =>
      obtain ⟨v0, hv0, hv1⟩ := Option.map_eq_some_iff.1 hc
      have hv2 := hs.res (evO_ok hs.slr hv0)
      rw [hv1] at hv2
      simp only [hc] at h
      have ask : askF s (runI E N fr ts a (2 :: pos) sp (st.know c true) rest K) (runI E N fr ts b (3 :: pos) sp (st.know c false) rest K) → CW none md E.P N (.cond c a b) Q [] σ w := fun h => by
        rcases askF_ok hv2 h with ⟨e, h⟩ | ⟨e, h⟩
        · exact CW.cond_true e (iha h0 (hs.know e) h hk)
        · exact CW.cond_false e (ihb h0 (hs.know e) h hk)
      cases s with
      | k x =>
        cases x with
        | true => exact CW.cond_true hv2 (iha h0 hs h hk)
        | false => exact CW.cond_false hv2 (ihb h0 hs h hk)
      | _ => exact ask h
  | block id c ih =>
    intro pos sp st rest σ w ρ K Q md h0 hs h hk
    refine CW.block (ih h0 hs h fun e => ?_)
    intro sp' st' rest' σ' w' ρ' h1 h2 h3
    cases e with
    | exit id' =>
      show bif Nat.beq id' id then Q .normal [] σ' w' else Q (.exit id') [] σ' w'
      have h1 : cdP (Nat.beq id' id) (K .normal sp' st' rest') (K (.exit id') sp' st' rest') := h1
      cases hb : Nat.beq id' id with
      | true => rw [hb] at h1; exact hk _ _ _ _ _ _ _ h1 h2 h3
      | false => rw [hb] at h1; exact hk _ _ _ _ _ _ _ h1 h2 h3
    | _ => exact hk _ _ _ _ _ _ _ h1 h2 h3
  | seq a b iha ihb =>
    intro pos sp st rest σ w ρ K Q md h0 hs h hk
    unfold runI at h
    refine CW.seq (iha h0 hs h fun e => ?_)
    intro sp' st' rest' σ' w' ρ' h1 h2 h3
    cases e with
    | normal => exact ihb (h2 _ _ h0) h3 h1 fun e => (hk e).mono h2
    | _ => exact hk _ _ _ _ _ _ _ h1 h2 h3
  | loop c ih =>
    intro pos sp st rest σ w ρ K Q md h0 hs h hk
    unfold runI at h
    split at h
    · rename_i pe hpe
      obtain ⟨wy, L, hs, hj⟩ := hs
      obtain ⟨ρ1, g1, g2⟩ := hs.tag
      split at h
      · rename_i s0 hs0
        obtain ⟨m, hm⟩ := h
        generalize hstep : (fun (q : List (TupD D ts) × TupV D pe.tp.vts) (rec : List (TupD D ts) × TupV D pe.tp.vts → Prop) => _) = step at hm
        obtain ⟨ρ2, L2, st2, e1, e2, e3⟩ := fillE_ok (kn := st.tag.kn) g2.nx (Hp.le.refl _) (RM.le.refl _) g2.kn g2.fr g2 hs0
        refine CW.loop (β := Nat) (fun n σ w => ∃ rest s ρ' st', RM.le ρ1 ρ' ∧ makeE pe.tp st.tag.nx st.tag.kn s = some st' ∧ IS J Jx all fr H ρ' false rest st' σ w ∧ LoopN step n (rest, s)) (fun n => n) m ⟨rest, s0, ρ2, st2, e2, e1, ⟨wy, L2, e3, hj⟩, hm⟩ ?_
        rintro n σ w ⟨rest, s, ρ', st', f1, f2, f3, f8⟩
        cases n with
        | zero => exact f8.elim
        | succ n =>
          have f8 : step (rest, s) (LoopN step n) := f8
          rw [← hstep] at f8
          simp only [f2] at f8
          split at f8
          · refine ih (f1 _ _ (g1 _ _ h0)) f3 f8 fun e => ?_
            intro sp3 st3 rest3 σ3 w3 ρ3 h1 h2 h3
            cases e with
            | normal =>
              show [] = [] ∧ _
              refine ⟨rfl, ?_⟩
              simp only at h1
              cases sp3 with
              | true => exact h1.elim
              | false =>
                simp only at h1
                split at h1
                · rename_i s' hfill
                  obtain ⟨wy3, L3, hs3, hj3⟩ := h3
                  obtain ⟨ρ4, L4, st4, i1, i2, i3⟩ := fillE_ok (kn := st.tag.kn) g2.nx (Hp.le.refl _) (f1.trans h2) g2.kn g2.fr hs3 hfill
                  exact ⟨n, ⟨rest3, s', ρ4, st4, i2, i1, ⟨wy3, L4, i3, hj3⟩, by rw [hstep] at h1; exact h1⟩, Nat.lt_succ_self _⟩
                · exact h1.elim
            | _ => exact hk _ _ _ _ _ _ _ h1 ((g1.trans f1).trans h2) h3
          · exact f8.elim
      · exact h.elim
    · exact h.elim
  | rangeFunc f ps a b _ _ => intro pos sp st rest σ w ρ K Q md h0 hs h hk; exact h.elim
  | scope c _ => intro pos sp st rest σ w ρ K Q md h0 hs h hk; exact h.elim
  | label l => intro pos sp st rest σ w ρ K Q md h0 hs h hk; exact h.elim
  | goto l => intro pos sp st rest σ w ρ K Q md h0 hs h hk; exact h.elim
  | refuse s => intro pos sp st rest σ w ρ K Q md h0 hs h hk; exact h.elim
def ptrsE : Nat → List Nat → List (SV D)
  | _, [] => []
  | n, _ :: r => .ptr n 0 :: ptrsE (n + 1) r
def frE : Nat → List Nat → List (List (SV D)) → List (Nat × Blk D)
  | n, t :: r, c :: m => (n, .fbx t c) :: frE (n + 1) r m
  | _, _, _ => []
theorem caps_open {P : Program} {tb : Tb D} (htb : TbOk tb) : ∀ {cs : List Nat} {x : TupD D cs} {lb : List Value} {ls : List (List (SV D))} {n : Nat} {ρ0 : RM}, CapsR H cs x lb → tupC tb cs x = some ls → (∀ id, n ≤ id → ρ0 id = none) → ∃ ρ, RM.le ρ0 ρ ∧ (∀ id, n + cs.length ≤ id → ρ id = none) ∧ RvL H ρ lb (ptrsE (D := D) n cs) ∧ BkR H ρ (frE n cs ls) []
  | [], _, lb, ls, n, ρ0, h, hl, hn => by
    cases hl
    exact ⟨ρ0, RM.le.refl _, hn, h, rfl⟩
  | t :: r, x, lb, ls, n, ρ0, ⟨b, us, q, e, h1, h2, h3⟩, hl, hn => by
    rw [tupC] at hl
    cases ha : toC tb t x.1 with
    | none => simp only [ha] at hl; cases hl
    | some a =>
      cases hb : tupC tb r x.2 with
      | none => simp only [ha, hb] at hl; cases hl
      | some m =>
        simp only [ha, hb] at hl
        cases hl
        obtain ⟨f1, f2⟩ := fresh_put hn (.b b)
        obtain ⟨ρ, g1, g2, g3, g4⟩ := caps_open (P := P) htb h3 hb f2
        have hp : ρ n = some (.b b) := g1 _ _ (RM.put_same _ _ _)
        refine ⟨ρ, f1.trans g1, fun id hid => g2 id (by rw [List.length_cons] at hid; omega), ⟨_, q, e, ⟨b, hp, rfl⟩, g3⟩, [], [], rfl, ⟨rfl, b, us, hp, h1, toC_ok htb ha h2⟩, g4⟩
def iterF (E : Env D) (f : Nat) (cs ts : List Nat) (x : TupD D cs) (l : List (TupD D ts)) : Prop := match tupC E.tb cs x with
  | some ls => match E.P.funcs[f]? with
    | some fn => match fn.body with
      | some c => match fn.results.toList with
        | [] => cdP (Nat.ble (cs.length + 1) fn.ntmps) (runI E fn.ntmps (frE 1 cs ls) ts c [] false ⟨slotsOf 0 (.kp 0 :: ptrsE 1 cs), [], [], 1 + cs.length⟩ l fun e sp _ rest => cdP (isEnd e) (match sp with
          | true => True
          | false => rest = []) False) False
        | _ :: _ => False
      | none => False
    | none => False
  | none => False
theorem It.lift (hE : E.Ok) (it : It D) (h : ∀ x l, it.W x l → iterF E it.f it.cs it.ts x l) : it.Ok E.P E.G := by
  intro x l hW H lb hG hC lp J Jx W hag hJ hJx hY hJ0
  have hF := h x l hW
  unfold iterF at hF
  split at hF
  · rename_i ls hls
    split at hF
    · rename_i fn hfn
      split at hF
      · rename_i c hc
        split at hF
        · rename_i hres
          obtain ⟨hN, hF⟩ := cifP hF
          obtain ⟨f1, f2⟩ := fresh_put (ρ := fun _ => none) (nx := 0) (fun _ _ => rfl) (.v (.func (.yield lp) #[] #[]))
          obtain ⟨ρ, g1, g2, g3, g4⟩ := caps_open (P := E.P) hE.tb hC hls f2
          have h0 : ρ 0 = some (.v (.func (.yield lp) #[] #[])) := g1 _ _ (RM.put_same _ _ _)
          have hv : RvL H ρ (Value.func (.yield lp) #[] #[] :: lb) (.kp 0 :: ptrsE 1 it.cs) := ⟨_, lb, rfl, h0, g3⟩
          refine calls_of_code hfn hc (by
            have hlen := RvL.length g3
            have hp : ∀ (n : Nat) (cs : List Nat), (ptrsE (D := D) n cs).length = cs.length := fun n cs => by
              induction cs generalizing n with
              | nil => rfl
              | cons _ _ ih => simp [ptrsE, ih]
            have := Nat.le_of_ble_eq_true hN
            simp [hlen, hp]; exact this) ?_
          refine runI_ok (all := l) (J := J) (Jx := Jx) (sp := false) (rest := l) (H := H) (ρ := ρ) hE hG hJ (fun k A0 vs hk hvs hJk hA => hY k A0 vs hk hvs hJk hA) c h0 ⟨W, [], ⟨Mem.start hag, slotsOf_ok hv, (show BkR H ρ ([] : List (Nat × Blk D)) [] from rfl), g4, (fun _ _ h => by cases h), fun id hid => g2 id hid⟩, 0, Nat.zero_le _, hJ0, rfl⟩ hF fun e => ?_
          intro sp' st' rest' σ' w' ρ' h1 h2 h3
          obtain ⟨wy3, L3, h3, hj3⟩ := h3
          have h4 := hj3.below hJ hJx h3.mem.below
          obtain ⟨he, h1⟩ := cifP h1
          obtain ⟨ux, e1, e2⟩ := results_ok (vs := []) hE.tb h3 (by rw [hres]; rfl)
          refine ⟨isEnd_ok he, rfl, tupVal ux, e2, ?_⟩
          cases sp' with
          | true =>
            obtain ⟨k, hk, hx⟩ := h4
            exact .inr ⟨k, hk, hx⟩
          | false =>
            obtain ⟨k, hkn, hk, hr⟩ := h4
            have h1 : rest' = [] := h1
            rw [h1] at hr
            have hkl : l.length ≤ k := List.drop_eq_nil_iff.1 hr.symm
            rw [show k = l.length by omega] at hk
            exact .inl hk
        · exact hF.elim
      · exact hF.elim
    · exact hF.elim
  · exact hF.elim
end
end
section
section
variable {D : Nat → Type} [∀ t, Dt (D t)]
variable {E : Env D} {w0 w : World} {H0 H : Hp} {ρ : RM} {L : List Ent} {st : St D} {σ : Nat → Value}
theorem retF_ok (hE : E.Ok) {fn : Func} {rs : List Nat} {own : List (List Bool)} {Φ : TupD D rs → Prop} (h1 : retF E.P E.tb fn rs own Φ st) (hs : Sat [] [] w0 H0 [] H ρ L st σ w) :
    ∃ ux H2 S, (∀ a, Rep fn.ntmps [] σ a → (results fn a.tmps).run E.P w = .ok (tupVal ux) w) ∧ Mem w0 H0 w H2 S ∧ ∃ y, Φ y ∧ ResR E.P E.tb rs own y H2 (tupVal ux) S := by
  unfold retF at h1
  split at h1
  · rename_i v1 hv1
    split at h1
    · rename_i ls0 hl0
      split at h1
      · rename_i us hus
        split at h1
        · rename_i ls1 hl1
          split at h1
          · rename_i ps hps
            split at h1
            · rename_i y hy
              obtain ⟨H2, L2, k1, k2⟩ := hs.frzL (falseIds own ls0)
              obtain ⟨ux, e1, e2⟩ := results_ok hE.tb k2 hus
              have hkn := (frzL_sl (falseIds own ls0) st).2.1
              have e3 := mapRs_ok k2 e1
              rw [hkn] at e3
              obtain ⟨cs2, e4, e5⟩ := argsC_cells e3 hl1
              obtain ⟨q, e6, e7⟩ := ofTup_cq hE.tb hy
              have hM2 := k2.mem
              obtain ⟨S, i1, i2⟩ := rtCC_ok (X := []) (by simpa using hM2) k2.bk e5 hps e7
              refine ⟨ux, H2, S, e2, by simpa using i1, y, h1, ?_⟩
              intro nx ρ0 hn0 s b m hres
              unfold resE at hres
              rw [e6] at hres
              simp only at hres
              split at hres
              · rename_i ls' b' m' ho
                split at hres
                · rename_i vs' hp
                  cases hres
                  obtain ⟨ρ2, j1, j2, j3, j3', j4, j5⟩ := i2 nx ρ0 _ _ _ hn0 ho
                  exact ⟨ρ2, j1, j2, j3, j3', tupVal_ok (packs_ok e4 j4 hp), j5⟩
                · cases hres
              · cases hres
            · exact h1.elim
          · exact h1.elim
        · exact h1.elim
      · exact h1.elim
    · exact h1.elim
  · exact h1.elim
def recA : List Oper → Option (Nat × Nat)
  | [⟨some a, .call ⟨.builtin .recover, xs, _⟩, _, _, _, none⟩, ⟨some b, .assign (.tmp c), _, _, _, none⟩] => bif Nat.beq c a && Nat.beq xs.size 0 then some (a, b) else none
  | _ => none
def cloF (E : Env D) (n : Nat) (g : Nat) (caps : List (SV D)) (pv : Value) (st : St D) (K : St D → Prop) : Prop := match E.P.funcs[g]? with
  | some gn => match gn.body with
    | some (.seq (.region _ ops false) rest) => match recA ops.toList with
      | some (a, b) => cdP (entB E.P g && (Nat.ble caps.length gn.ntmps && (Nat.blt a gn.ntmps && (Nat.blt b gn.ntmps && Nat.beq gn.results.size 0))))
          (runC E (runF E n) gn.ntmps true rest [1, 9] [] ⟨setS (setS (slotsOf 0 caps) a (.c pv)) b (.c pv), st.bk, st.kn, st.nx⟩ fun e st' => cdP (isEnd e) (K ⟨st.sl, st'.bk, st'.kn, st'.nx⟩) False) False
      | none => False
    | _ => False
  | none => False
def panV : Exit → Option Value
  | .panic [⟨v, false, false⟩] => some v
  | _ => none
def dfrT : Oper → Option Nat
  | ⟨none, .defer ⟨.value (.tmp t), xs, _⟩, _, _, _, none⟩ => bif Nat.beq xs.size 0 then some t else none
  | _ => none
theorem recA_ok {l : List Oper} {a b : Nat} (h : recA l = some (a, b)) : ∃ ts ty ps af ty' ps' af', l = [⟨some a, .call ⟨.builtin .recover, #[], ts⟩, ty, ps, af, none⟩, ⟨some b, .assign (.tmp a), ty', ps', af', none⟩] := by
  unfold recA at h
  split at h
  · rename_i a0 xs ts ty ps af b0 c ty' ps' af'
    have hh := cif h
    clear h
    obtain ⟨h1, h2⟩ := hh
    cases h2
    rw [Bool.and_eq_true] at h1
    obtain rfl := Nat.eq_of_beq_eq_true h1.1
    obtain rfl : xs = #[] := Array.eq_empty_of_size_eq_zero (Nat.eq_of_beq_eq_true h1.2)
    exact ⟨ts, ty, ps, af, ty', ps', af', rfl⟩
  · cases h
section
variable {P : Program}
theorem lvM_marks {fn : Func} {R : Ending → World → Prop} {tm : Array Value} {B : List Deferred} {u : FrameMode} (hu : u ≠ .run) {X : List Ent} : ∀ (ms : List Nat) {w : World}, Mem w0 H0 w H (mkO ms ++ X) → (∀ w', Mem w0 H0 w' H X → LeavesInM Fence.wide 0 P fn tm R B u w') → LeavesInM Fence.wide 0 P fn tm R (mkD ms ++ B) u w
  | [], w, hM, k => k w hM
  | b :: ms, _, hM, k => ⟨hu, .inl ⟨b, _, rfl, run_takeDeferred (hM.objAt (k := 0) rfl), lvM_marks hu ms ((hM.putObj 0 rfl (.deferred none)).sub (List.sublist_cons_self _ _)) k⟩⟩
theorem lvM_clo {fn gn : Func} {R : Ending → World → Prop} {tm : Array Value} {g a b id : Nat} {ops : Array Oper} {rest : Code} {lb : List Value} {u u' : FrameMode} {v : Value} {w : World} (hen : Enters P g) (hgn : P.funcs[g]? = some gn) (hbd : gn.body = some (.seq (.region id ops false) rest)) (hrec : recA ops.toList = some (a, b)) (hres : gn.results = #[])
    (ha : dstOk (some a) gn.ntmps = true) (hb : dstOk (some b) gn.ntmps = true) (hN : lb.length ≤ gn.ntmps) (hm : (u = .returning ∧ v = .nilIface ∧ u' = .returning) ∨ (u = .panicking [⟨v, false, false⟩] ∧ u' = .panicking [⟨v, true, false⟩]))
    (h : CW none 0 P gn.ntmps rest (fun e D _ w' => (e = .ret ∨ e = .normal) ∧ D = [] ∧ LeavesInM Fence.wide 0 P fn tm R [] .returning w') [] (upd (upd (sl (enumA 0 lb) fun _ => undef) (some a) v) (some b) v) w) :
    LeavesInM Fence.wide 0 P fn tm R [⟨.fn (.func g) lb.toArray, #[]⟩] u w := by
  have hu : u ≠ .run := by rcases hm with ⟨rfl, _⟩ | ⟨rfl, _⟩ <;> simp
  have hset : settle u' = .returning := by rcases hm with ⟨_, _, rfl⟩ | ⟨_, rfl⟩ <;> rfl
  refine ⟨hu, .inr ⟨fun h => by simp [Fence.wide] at h, .func g, lb.toArray, g, lb.toArray, rfl, ?_, fun _ _ => trivial, ?_⟩⟩
  · have := hen lb.toArray w
    simp [invoke, this]
  · refine callsDIn_of_wpSIn hgn hbd trivial fun c₀ cs hc => ?_
    obtain ⟨ts, ty, ps, af, ty', ps', af', hl⟩ := recA_ok hrec
    obtain ⟨l⟩ := ops
    have hl : l = _ := hl
    subst hl
    have fin : ∀ cs', cs' = { c₀ with mode := u' } :: cs → rest.wpSIn Fence.wide (0 - 1) P (bodyPostS P gn c₀ cs fun
          | .returned _, u', w' => LeavesInM Fence.wide 0 P fn tm R [] (settle u') w'
          | .panicked chain, u', w' => LeavesInM Fence.wide 0 P fn tm R [] (raised u' chain) w'
          | .outgrown, _, w' => R .outgrown w') ((({ tmps := lb.toArray ++ Array.replicate (gn.ntmps - lb.toArray.size) undef, defers := [] } : Act).put (some a) v).put (some b) v) cs' w := by
      rintro _ rfl
      refine wpSIn_of_wpIn rfl (wpIn_mono (h _ (((rep_start lb.toArray gn.ntmps (by simpa using hN)).put ha v).put hb v)) ?_)
      rintro e a' w' ⟨D', σ', h1, he, hD, hL⟩
      have hd : a'.defers = [] := h1.1.trans hD
      have hr : (results gn a'.tmps).run P w' = .ok (.tuple #[]) w' := by rw [results_none hres]
      rcases he with rfl | rfl
      · exact ⟨hd, u', rfl, .tuple #[], hr, (show LeavesInM Fence.wide 0 P fn tm R [] (settle u') w' by rw [hset]; exact hL)⟩
      · exact ⟨hd, u', rfl, .tuple #[], hr, (show LeavesInM Fence.wide 0 P fn tm R [] (settle u') w' by rw [hset]; exact hL)⟩
    have hev : (({ tmps := lb.toArray ++ Array.replicate (gn.ntmps - lb.toArray.size) undef, defers := [] } : Act).put (some a) v).eval (.tmp a) = v := by
      rw [((rep_start lb.toArray gn.ntmps (by simpa using hN)).put ha v).eval]
      show (bif Nat.beq a a then v else _) = v
      rw [Nat.beq_refl]; rfl
    refine wpSIn_seq (wpSIn_region ?_)
    refine And.intro (fun _ _ => trivial) ?_
    show (match recoverD (c₀ :: cs) with
      | some (v, cs') => wpOpsSIn _ _ _ _ _ [1] (Act.put _ (some a) v) cs' w
      | none => wpOpsSIn _ _ _ _ _ [1] (Act.put _ (some a) .nilIface) (c₀ :: cs) w)
    rcases hm with ⟨hu1, rfl, rfl⟩ | ⟨hu1, rfl⟩
    · have hrd : recoverD (c₀ :: cs) = none := by simp [recoverD, hc, hu1]
      rw [hrd]
      refine And.intro (fun _ _ => trivial) ?_
      rw [if_pos (show Region.wanted _ _ = true from rfl)]
      show wpOpsSIn _ _ _ _ _ [] (Act.put _ (some b) (Act.eval _ (.tmp a))) _ w
      rw [hev]
      exact fin _ (by rw [← hu1, ← hc])
    · have hrd : recoverD (c₀ :: cs) = some (v, { c₀ with mode := .panicking [⟨v, true, false⟩] } :: cs) := by simp [recoverD, hc, hu1]
      rw [hrd]
      refine And.intro (fun _ _ => trivial) ?_
      rw [if_pos (show Region.wanted _ _ = true from rfl)]
      show wpOpsSIn _ _ _ _ _ [] (Act.put _ (some b) (Act.eval _ (.tmp a))) _ w
      rw [hev]
      exact fin _ rfl
end
def topD (E : Env D) (n : Nat) (f : Nat) (ps rs : List Nat) (own : List (List Bool)) (x : TupD D ps) (Φ : TupD D rs → Prop) : Prop := match tupC E.tb ps x with
  | some ls => match packs E.P ps ls with
    | some vs => match E.P.funcs[f]? with
      | some fn => match fn.body with
        | some (.seq (.region _ ops1 false) (.seq (.region _ ops2 false) rest)) => cdP (Nat.ble vs.length fn.ntmps) (runR E (runF E n) fn.ntmps [] [0] ops1 0 ops1.toList ⟨slotsOf 0 vs, [], [], 0⟩ (fun st1 => match ops2.toList with
          | [o1, o2] => match dfrT o2 with
            | some t => cdP (dstOk o1.dst fn.ntmps && o1.guard.isNone) (stepE E (runF E n) [] [10, 0, 1] o1 st1 (fun st2 => match getS st2.sl t with
              | some (.fn g caps) => runC E (runF E n) fn.ntmps false rest [1, 1] [] st2 fun e st3 => match panV e with
                | some v => cloF E n g caps v st3 (retF E.P E.tb fn rs own Φ)
                | none => cdP (isEnd e) (cloF E n g caps .nilIface st3 (retF E.P E.tb fn rs own Φ)) False
              | _ => False) fun _ _ => False) False
            | none => False
          | _ => False) fun _ _ => False) False
        | _ => False
      | none => False
    | none => False
  | none => False
theorem panV_ok {e : Exit} {v : Value} (h : panV e = some v) : e = .panic [⟨v, false, false⟩] := by
  unfold panV at h
  split at h
  · cases h; rfl
  · cases h
theorem dfrT_ok {o : Oper} {t : Nat} (h : dfrT o = some t) : ∃ ts ty ps af, o = ⟨none, .defer ⟨.value (.tmp t), #[], ts⟩, ty, ps, af, none⟩ := by
  unfold dfrT at h
  split at h
  · rename_i t' xs ts ty ps af
    have hh := cif h
    clear h
    obtain ⟨h1, h2⟩ := hh
    cases h2
    obtain rfl : xs = #[] := Array.eq_empty_of_size_eq_zero (Nat.eq_of_beq_eq_true h1)
    exact ⟨ts, ty, ps, af, rfl⟩
  · cases h
theorem cloF_ok (hE : E.Ok) (n : Nat) (h0 : E.G H0) {fn : Func} {rs : List Nat} {own : List (List Bool)} {Φ : TupD D rs → Prop} {g : Nat} {caps : List (SV D)} {cs : List Value} {v : Value} {u u' : FrameMode} {tm : Array Value} (h : cloF E n g caps v st (retF E.P E.tb fn rs own Φ)) (hs : Sat [] [] w0 H0 [] H ρ L st σ w) (hcs : RvL H ρ cs caps)
    (hm : (u = .returning ∧ v = .nilIface ∧ u' = .returning) ∨ (u = .panicking [⟨v, false, false⟩] ∧ u' = .panicking [⟨v, true, false⟩])) (hra : ∀ D', Rep fn.ntmps D' σ { tmps := tm, defers := D' }) :
    LeavesInM Fence.wide 0 E.P fn tm (fun e w' => ∃ v, e = .returned v ∧ ∃ H' L', Mem w0 H0 w' H' L' ∧ ∃ y, Φ y ∧ ResR E.P E.tb rs own y H' v L') [⟨.fn (.func g) cs.toArray, #[]⟩] u w := by
  unfold cloF at h
  split at h
  · rename_i gn hgn
    split at h
    · rename_i id ops rest hbd
      split at h
      · rename_i a b hrec
        obtain ⟨hq, h⟩ := cifP h
        simp only [Bool.and_eq_true] at hq
        obtain ⟨q0, q1, q2, q3, q4⟩ := hq
        have hl := RvL.length hcs
        refine lvM_clo (entB_ok q0) hgn hbd hrec (Array.eq_empty_of_size_eq_zero (Nat.eq_of_beq_eq_true q4)) q2 q3 (by have := Nat.le_of_ble_eq_true q1; omega) hm ?_
        have hsl : SlR H ρ (setS (setS (slotsOf 0 caps) a (.c v)) b (.c v)) (upd (upd (sl (enumA 0 cs) fun _ => undef) (some a) v) (some b) v) := ((slotsOf_ok hcs).put (v := .c v) (show v = v from rfl) (some a)).put (v := .c v) (show v = v from rfl) (some b)
        have hs1 : Sat [] [] w0 H0 (mkO [] ++ []) H ρ L (⟨setS (setS (slotsOf 0 caps) a (.c v)) b (.c v), st.bk, st.kn, st.nx⟩ : St D) (upd (upd (sl (enumA 0 cs) fun _ => undef) (some a) v) (some b) v) w := ⟨hs.mem, hsl, hs.bk, hs.fr, hs.kn, hs.nx⟩
        refine runC_ok (rd := true) (ms := []) (B := []) (R := []) hE h0 (runF_ok hE n) rest (fun t => Bool.noConfusion t) hs1 h fun e => ?_
        intro ms' st5 σ5 w5 H5 ρ5 L5 hk5 hmm hle hρ hs5
        obtain rfl : ms' = [] := hmm rfl
        obtain ⟨he, hk5⟩ := cifP hk5
        have hs6 : Sat [] [] w0 H0 [] H5 ρ5 L5 (⟨st.sl, st5.bk, st5.kn, st5.nx⟩ : St D) σ w5 := ⟨hs5.mem, hs.sl.mono hle hρ, hs5.bk, hs5.fr, hs5.kn, hs5.nx⟩
        obtain ⟨ux, H2, S, r1, r2, y, r3, r4⟩ := retF_ok hE hk5 hs6
        exact ⟨isEnd_ok he, rfl, tupVal ux, r1 _ (hra []), tupVal ux, rfl, H2, S, r2, y, r3, r4⟩
      · exact h.elim
    · exact h.elim
  · exact h.elim
theorem RetP.of_codeD {P : Program} {f : FuncId} {fn : Func} {c : Code} {args : Array Value} {H : Hp} {Φ : Hp → Value → List Ent → Prop} (hf : P.funcs[f]? = some fn) (hb : fn.body = some c) (hN : args.size ≤ fn.ntmps)
    (h : ∀ w, Mem w H w H [] → CW none 0 P fn.ntmps c (fun e D σ w1 => ∀ a, Rep fn.ntmps D σ a → bodyPostM Fence.wide 0 P fn (fun e w' => ∃ v, e = .returned v ∧ ∃ H' L', Mem w H w' H' L' ∧ Φ H' v L') e a w1) [] (sl (enumA 0 args.toList) fun _ => undef) w) : RetP P f args H Φ := fun w hw =>
  (callsIn_wide (n := 0).1 (callsIn_of_wp_marks (F := Fence.wide) hf hb trivial (wpIn_mono (h w (Mem.start hw) _ (rep_start args fn.ntmps hN)) fun _ a _ ⟨_, _, h1, h2⟩ => h2 a h1))).mono fun _ _ ⟨v, h1, H', L', hM, hΦ⟩ => ⟨v, H', L', h1, hM, hΦ⟩
theorem Ct.liftD (hE : E.Ok) (n : Nat) (c : Ct D) (h : ∀ x Φ, c.W x Φ → topD E n c.f c.ps c.rs c.own x Φ) : c.Ok E.P E.tb E.G := by
  intro x Φ hW H vs hGH hA
  have hF := h x Φ hW
  unfold topD at hF
  split at hF
  · rename_i ls hls
    split at hF
    · rename_i svs hsv
      split at hF
      · rename_i fn hfn
        split at hF
        · rename_i id1 ops1 id2 ops2 rest hcd
          obtain ⟨hN, hF⟩ := cifP hF
          obtain ⟨cs, g1, g2⟩ := argsR_cells (ρ := fun _ => none) hE.tb hA hls
          have g3 := packs_ok g1 g2 hsv
          refine RetP.of_codeD hfn hcd (by have := Nat.le_of_ble_eq_true hN; simpa [RvL.length g3] using this) fun w hM => ?_
          have hs0 : Sat [] [] w H [] H (fun _ => none) [] (⟨slotsOf 0 svs, [], [], 0⟩ : St D) (sl (enumA 0 vs) fun _ => undef) w := ⟨hM, slotsOf_ok g3, rfl, rfl, (fun _ _ h => nomatch h), fun _ _ => rfl⟩
          obtain ⟨l1⟩ := ops1
          refine CW.seq (CW.region (runR_ok hE hGH (runF_ok hE n) hs0 hF ?_ fun _ _ _ _ _ _ _ hf => hf.elim))
          intro st1 σ1 w1 H1 ρ1 L1 hk le1 le2 hs1
          split at hk
          · rename_i o1 o2 hops
            split at hk
            · rename_i t ht
              obtain ⟨hgd, hk⟩ := cifP hk
              rw [Bool.and_eq_true] at hgd
              obtain ⟨l2⟩ := ops2
              have hops : l2 = [o1, o2] := hops
              subst hops
              have hgo : gdOk (Array.mk [o1, o2]) σ1 o1.guard = true := by
                cases hg : o1.guard with
                | none => rfl
                | some j => rw [hg] at hgd; exact absurd hgd.2 (by simp)
              refine CW.seq (CW.region (stepE_ok hE hGH (runF_ok hE n) hs1 hk hgo hgd.1 ?_ fun _ _ _ _ _ _ _ hf => hf.elim))
              intro st2 σ2 w2 H2 ρ2 L2 hk2 le3 le4 hs2
              split at hk2
              · rename_i g caps hgt
                obtain ⟨ts, ty, ps, af, rfl⟩ := dfrT_ok ht
                obtain ⟨cv, e1, e2⟩ := hs2.sl _ _ hgt
                refine RW.defer e1 rfl rfl (RW.nil ?_)
                refine runC_ok (ms := []) (B := [⟨.fn (.func g) cv.toArray, #[]⟩]) (R := []) hE hGH (runF_ok hE n) rest (fun _ => ⟨rfl, rfl⟩) hs2 hk2 fun e => ?_
                intro ms' st3 σ3 w3 H3 ρ3 L3 hk3 _ le5 le6 hs3
                intro a hra
                have hd : a.defers = mkD ms' ++ [⟨.fn (.func g) cv.toArray, #[]⟩] := hra.1
                have hM3 := hs3.mem.perm (perm_mid _ _ _ _)
                have hrp : ∀ D', Rep fn.ntmps D' σ3 { tmps := a.tmps, defers := D' } := fun D' => ⟨rfl, hra.2.1, hra.2.2⟩
                cases hp : panV e with
                | some v =>
                  obtain rfl := panV_ok hp
                  rw [hp] at hk3
                  show LeavesInM _ _ _ _ _ _ a.defers _ _
                  rw [hd]
                  exact lvM_marks (by simp) ms' hM3 fun w4 hw4 => cloF_ok hE n hGH hk3 (hs3.reR hw4) (RvL.mono le5 le6 _ e2) (.inr ⟨rfl, rfl⟩) hrp
                | none =>
                  rw [hp] at hk3
                  obtain ⟨he, hk3⟩ := cifP hk3
                  have fin : LeavesInM Fence.wide 0 E.P fn a.tmps (fun e w' => ∃ v, e = .returned v ∧ ∃ H' L', Mem w H w' H' L' ∧ ∃ y, Φ y ∧ ResR E.P E.tb c.rs c.own y H' v L') a.defers .returning w3 := by
                    rw [hd]
                    exact lvM_marks (by simp) ms' hM3 fun w4 hw4 => cloF_ok hE n hGH hk3 (hs3.reR hw4) (RvL.mono le5 le6 _ e2) (.inl ⟨rfl, rfl, rfl⟩) hrp
                  rcases isEnd_ok he with rfl | rfl
                  · exact fin
                  · exact fin
              · exact hk2.elim
            · exact hk.elim
          · exact hk.elim
        · exact hF.elim
      · exact hF.elim
    · exact hF.elim
  · exact hF.elim
end
end
section
section
variable {α : Type} [Inhabited α]
theorem putRow_at (enc : α → Value) {w : World} {g : Nat} (off : Nat) (d : Array α) {cur : Array Value} {e : TypeId} {fr : Nat × Nat} (h : w.heap[g]? = some (.cells cur e fr)) : (Sort.putRow enc w g off d).heap[g]? = some (.cells (Sort.putCells enc off d cur) e fr) := by
  simp [Sort.putRow, Sort.mapBlock, Array.getElem?_modify, h, Sort.onCells]
theorem sorted_at (enc : α → Value) {w : World} {g : Nat} (off m : Nat) (d : Array α) (os : Array Obj) {cur : Array Value} {e : TypeId} {fr : Nat × Nat} (h : w.heap[g]? = some (.cells cur e fr)) : (Sort.grow (Sort.putRow enc (Sort.ahead w m) g off d) os).heap[g]? = some (.cells (Sort.putCells enc off d cur) e fr) := by
  have h1 := putRow_at enc (w := Sort.ahead w m) off d h
  rw [Sort.heap_grow_old _ _ (lt_of_heap h1)]; exact h1
theorem sorted_old (enc : α → Value) {w : World} {g k : Nat} (off m : Nat) (d : Array α) (os : Array Obj) (hk : k < w.heap.size) (hne : k ≠ g) : (Sort.grow (Sort.putRow enc (Sort.ahead w m) g off d) os).heap[k]? = w.heap[k]? := by
  have hs : k < (Sort.putRow enc (Sort.ahead w m) g off d).heap.size := by simpa [Sort.putRow, Sort.mapBlock, Sort.ahead] using hk
  rw [Sort.heap_grow_old _ _ hs]
  simp [Sort.putRow, Sort.mapBlock, Array.getElem?_modify, Sort.ahead, hne.symm]
theorem sorted_grown (enc : α → Value) {w : World} {g : Nat} (off m : Nat) (d : Array α) (os : Array Obj) : w.grownBy (Sort.grow (Sort.putRow enc (Sort.ahead w m) g off d) os) (some g) :=
  ⟨rfl, rfl, rfl, by simp [Sort.grow, Sort.putRow, Sort.mapBlock, Sort.ahead], fun k hk hne => sorted_old enc off m d os hk (fun e => hne (by rw [e]))⟩
theorem putCells_take (enc : α → Value) (d : Array α) (cur : Array Value) (h : d.size ≤ cur.size) : (Sort.putCells enc 0 d cur).toList.take d.size = d.toList.map enc := by
  apply List.ext_getElem?
  intro i
  by_cases hi : i < d.size
  · rw [List.getElem?_take_of_lt hi]
    have hc : i < cur.size := by omega
    simp [Sort.putCells, hi, hc]
  · rw [List.getElem?_eq_none, List.getElem?_eq_none]
    · simpa using hi
    · simp; omega
theorem sorted_owns (enc : α → Value) {w : World} {base : Nat} {e : TypeId} {k g n cap : Nat} {s : List Value} (m : Nat) (d : Array α) (os : Array Obj) (ho : w.ownsRow base e k (.slice (some ⟨g, 0, none⟩) n cap) n s) (hd : d.size = n * k) :
    (Sort.grow (Sort.putRow enc (Sort.ahead w m) g 0 d) os).ownsRow base e k (.slice (some ⟨g, 0, none⟩) n cap) n (d.toList.map enc) := by
  obtain ⟨h1, ⟨h2, _⟩ | ⟨g', cap', cur, h2, h3, h4, h5, h6, h7, h8⟩⟩ := ho
  · cases h2
  · cases h2
    refine ⟨by simp [hd], .inr ⟨g, cap, Sort.putCells enc 0 d cur, rfl, h3, sorted_at enc 0 m d os h4, h5, h6, by simp [Sort.putCells, h7], ?_⟩⟩
    rw [← hd]
    exact putCells_take enc d cur (by rw [hd, h7]; exact Nat.mul_le_mul_right _ h5)
theorem owns_holds {enc : α → Value} {w : World} {base : Nat} {e : TypeId} {k g n cap : Nat} {s : List Value} {d : Array α} (ho : w.ownsRow base e k (.slice (some ⟨g, 0, none⟩) n cap) n s) (hs : s = d.toList.map enc) : Sort.Holds enc w g 0 d ∧ g < w.heap.size := by
  obtain ⟨h1, ⟨h2, _⟩ | ⟨g', cap', cur, h2, h3, h4, h5, h6, h7, h8⟩⟩ := ho
  · cases h2
  · cases h2
    refine ⟨fun j hj => ?_, lt_of_heap h4⟩
    have hn : d.size = n * k := by rw [← h1, hs]; simp
    have hc : cur[j]? = some (enc d[j]!) := by
      have h9 : (cur.toList.take (n * k))[j]? = some (enc d[j]!) := by
        rw [h8, hs, List.getElem?_map]
        simp [hj]
      rw [List.getElem?_take_of_lt (by omega)] at h9
      simpa using h9
    refine ⟨?_, ?_⟩
    · simp [World.cell?, h4, hc]
    · simp only [World.frozen?, h4]; simp
end
def ElL (H : Hp) : Type := { p : Value × List Int // Dt.rd (α := List Int) H [p.1] p.2 }
theorem ElL.one {H : Hp} (p : ElL H) : p.1.1.oneCell' = true := by
  obtain ⟨⟨v, xs⟩, A, n, c, cells, h, h1⟩ := p
  obtain rfl := (List.cons.inj h).1
  rfl
end
section
theorem Below.grow {w w' : World} (h : Below w.heap.size w w') : ∃ q os, w' = Sort.grow (w.drewN q) os := by
  refine ⟨w'.drawn - w.drawn, w'.heap.extract w.heap.size w'.heap.size, ?_⟩
  have hs := h.size
  have hd := h.dr
  have e1 : w'.heap = w.heap ++ w'.heap.extract w.heap.size w'.heap.size := by
    apply Array.ext_getElem?
    intro i
    by_cases hi : i < w.heap.size
    · rw [h.block i hi, Array.getElem?_append_left hi]
    · rw [Array.getElem?_append_right (by omega)]
      by_cases hj : i < w'.heap.size
      · rw [Array.getElem?_eq_getElem hj, Array.getElem?_eq_getElem (by simp; omega)]
        congr 1
        simp only [Array.getElem_extract]
        congr 1
        omega
      · rw [Array.getElem?_eq_none (by omega), Array.getElem?_eq_none (by simp; omega)]
  have e2 : w'.drawn = w.drawn + (w'.drawn - w.drawn) := by omega
  obtain ⟨heap, tape, drawn, os, output⟩ := w'
  have h1 : os = w.os := h.os
  have h2 : tape = w.tape := h.tape
  have h3 : output = w.output := h.output
  subst h1 h2 h3
  unfold Sort.grow World.drewN
  simp only at e1 e2 ⊢
  rw [← e1, ← e2]
section
variable {α : Type} (le : α → α → Bool)
def insG (x : α) : List α → List α
  | [] => [x]
  | y :: r => bif le x y then x :: y :: r else y :: insG x r
def sortG : List α → List α
  | [] => []
  | x :: r => insG le x (sortG r)
theorem insG_perm (x : α) : ∀ l : List α, (insG le x l).Perm (x :: l)
  | [] => List.Perm.refl _
  | y :: r => by
    unfold insG
    cases le x y with
    | true => exact List.Perm.refl _
    | false => exact ((insG_perm x r).cons y).trans (List.Perm.swap x y r)
theorem sortG_perm : ∀ l : List α, (sortG le l).Perm l
  | [] => List.Perm.refl _
  | x :: r => (insG_perm le x (sortG le r)).trans ((sortG_perm r).cons x)
variable {le}
theorem insG_sorted (ht : ∀ a b, le a b = true ∨ le b a = true) (htr : ∀ a b c, le a b = true → le b c = true → le a c = true) (x : α) : ∀ l : List α, l.Pairwise (fun a b => le a b = true) → (insG le x l).Pairwise (fun a b => le a b = true)
  | [], _ => by simp [insG]
  | y :: r, h => by
    have h1 := List.pairwise_cons.1 h
    unfold insG
    cases hxy : le x y with
    | true =>
      refine List.pairwise_cons.2 ⟨fun z hz => ?_, h⟩
      rcases List.mem_cons.1 hz with rfl | hz
      · exact hxy
      · exact htr _ _ _ hxy (h1.1 z hz)
    | false =>
      refine List.pairwise_cons.2 ⟨fun z hz => ?_, insG_sorted ht htr x r h1.2⟩
      rcases List.mem_cons.1 ((insG_perm le x r).mem_iff.1 hz) with rfl | hz
      · exact (ht z y).resolve_left (by rw [hxy]; simp)
      · exact h1.1 z hz
theorem sortG_sorted (ht : ∀ a b, le a b = true ∨ le b a = true) (htr : ∀ a b c, le a b = true → le b c = true → le a c = true) : ∀ l : List α, (sortG le l).Pairwise (fun a b => le a b = true)
  | [] => List.Pairwise.nil
  | x :: r => insG_sorted ht htr x _ (sortG_sorted ht htr r)
theorem sortG_of (ht : ∀ a b, le a b = true ∨ le b a = true) (htr : ∀ a b c, le a b = true → le b c = true → le a c = true) (ha : ∀ a b, le a b = true → le b a = true → a = b) {l m : List α} (hp : m.Perm l) (hs : m.Pairwise (fun a b => le a b = true)) : m = sortG le l :=
  List.Perm.eq_of_pairwise (le := fun a b => le a b = true) (fun _ _ _ _ h1 h2 => ha _ _ h1 h2) hs (sortG_sorted ht htr l) (hp.trans (sortG_perm le l).symm)
end
section
variable {α : Type}
theorem flatMap_length {enc : α → List Value} {k : Nat} (hk : ∀ x, (enc x).length = k) : ∀ l : List α, (l.flatMap enc).length = l.length * k
  | [] => by simp
  | x :: l => by rw [List.flatMap_cons, List.length_append, hk, flatMap_length hk l, List.length_cons, Nat.succ_mul, Nat.add_comm]
theorem flatMap_get {enc : α → List Value} {k : Nat} (hk : ∀ x, (enc x).length = k) : ∀ (l : List α) (t : Nat) (_ : t < l.length * k), (l.flatMap enc)[t]? = (l[t / k]?).bind fun x => (enc x)[t % k]?
  | [], t, h => by simp at h
  | x :: l, t, h => by
    have k0 : 0 < k := by rcases Nat.eq_zero_or_pos k with h0 | h0; · subst h0; simp at h
                          · exact h0
    rw [List.flatMap_cons]
    by_cases ht : t < k
    · rw [List.getElem?_append_left (by rw [hk]; exact ht), Nat.div_eq_of_lt ht, Nat.mod_eq_of_lt ht]
      rfl
    · have e1 : t / k = (t - k) / k + 1 := by rw [Nat.div_eq_sub_div k0 (by omega)]
      have e2 : t % k = (t - k) % k := by rw [Nat.mod_eq_sub_mod (by omega)]
      rw [List.getElem?_append_right (by rw [hk]; omega), hk, flatMap_get hk l (t - k) (by rw [List.length_cons, Nat.succ_mul] at h; omega), e1, e2]
      rfl
variable [Inhabited α]
theorem flatK_list {enc : α → List Value} {k : Nat} (hk : ∀ x, (enc x).length = k) (d : Array α) : (Sort.flatK enc k d).toList = d.toList.flatMap enc := by
  have hl := flatMap_length hk d.toList
  apply List.ext_getElem?
  intro t
  by_cases ht : t < d.size * k
  · have k0 : 0 < k := by rcases Nat.eq_zero_or_pos k with h0 | h0; · subst h0; simp at ht
                          · exact h0
    have hd : t / k < d.size := (Nat.div_lt_iff_lt_mul k0).2 ht
    have hm : t % k < k := Nat.mod_lt _ k0
    rw [flatMap_get hk _ t (by rw [Array.length_toList]; exact ht)]
    have e1 := Sort.get_flatK enc k d t ht
    have e2 : t < (Sort.flatK enc k d).size := by rw [Sort.size_flatK]; exact ht
    rw [getElem!_pos (Sort.flatK enc k d) t e2] at e1
    rw [Array.getElem?_toList, Array.getElem?_eq_getElem e2, e1, Array.getElem?_toList, Array.getElem?_eq_getElem hd]
    have e3 : d[t / k]! = d[t / k] := getElem!_pos d _ hd
    rw [e3]
    have e4 : t % k < (enc d[t / k]).length := by rw [hk]; exact hm
    show some ((enc d[t / k])[t % k]!) = (enc d[t / k])[t % k]?
    rw [getElem!_pos (enc d[t / k]) _ e4, List.getElem?_eq_getElem e4]
  · rw [List.getElem?_eq_none, List.getElem?_eq_none]
    · rw [hl, Array.length_toList]; omega
    · rw [Array.length_toList, Sort.size_flatK]; omega
end
theorem DtL.enc {α : Type} [Dt α] {enc : α → List Value} (he : ∀ H cs (x : α), Dt.rd H cs x → cs = enc x) {H : Hp} : ∀ {xs : List α} {cs : List Value}, DtL H cs xs → cs = xs.flatMap enc
  | [], _, h => h
  | _ :: _, _, ⟨_, _, h, h1, h2⟩ => by rw [h, he _ _ _ h1, DtL.enc he h2]; rfl
theorem DtL.ofEnc {α : Type} [Dt α] {enc : α → List Value} (he : ∀ H (x : α), Dt.rd H (enc x) x) {H : Hp} : ∀ (xs : List α), DtL H (xs.flatMap enc) xs
  | [] => rfl
  | x :: xs => ⟨enc x, xs.flatMap enc, rfl, he H x, DtL.ofEnc he xs⟩
end
structure api_Write where
  Volume : Int
  Start : Int
  Data : List Sec
  deriving DecidableEq
instance dt_api_Write : Dt api_Write where
  default := ⟨0, 0, []⟩
  sz := 3
  rd H cs x := ∃ A0 n0 c0 s0, cs = [.int .i64 (x.Volume), .int .i64 (x.Start), .slice A0 n0 c0] ∧ Fz H A0 n0 c0 x.Data s0
  len := fun ⟨A0, n0, c0, s0, h, h0⟩ => by rw [h]; rfl
  mono := fun ⟨A0, n0, c0, s0, h, h0⟩ hle => ⟨A0, n0, c0, s0, h, h0.mono hle⟩
  one := fun ⟨A0, n0, c0, s0, h, h0⟩ => by rw [h]; exact oneAll ⟨rfl, rfl, rfl, trivial⟩
structure api_Capture where
  Number : Int
  Sizes : List Int
  Positions : List Int
  Nodes : List Int
  Writes : List api_Write
  deriving DecidableEq
instance dt_api_Capture : Dt api_Capture where
  default := ⟨0, [], [], [], []⟩
  sz := 5
  rd H cs x := ∃ A0 n0 c0 s0, ∃ A1 n1 c1 s1, ∃ A2 n2 c2 s2, ∃ A3 n3 c3 s3, cs = [.int .i64 (x.Number), .slice A0 n0 c0, .slice A1 n1 c1, .slice A2 n2 c2, .slice A3 n3 c3] ∧ Fz H A0 n0 c0 x.Sizes s0 ∧ Fz H A1 n1 c1 x.Positions s1 ∧ Fz H A2 n2 c2 x.Nodes s2 ∧ Fz H A3 n3 c3 x.Writes s3
  len := fun ⟨A0, n0, c0, s0, A1, n1, c1, s1, A2, n2, c2, s2, A3, n3, c3, s3, h, h0, h1, h2, h3⟩ => by rw [h]; rfl
  mono := fun ⟨A0, n0, c0, s0, A1, n1, c1, s1, A2, n2, c2, s2, A3, n3, c3, s3, h, h0, h1, h2, h3⟩ hle => ⟨A0, n0, c0, s0, A1, n1, c1, s1, A2, n2, c2, s2, A3, n3, c3, s3, h, h0.mono hle, h1.mono hle, h2.mono hle, h3.mono hle⟩
  one := fun ⟨A0, n0, c0, s0, A1, n1, c1, s1, A2, n2, c2, s2, A3, n3, c3, s3, h, h0, h1, h2, h3⟩ => by rw [h]; exact oneAll ⟨rfl, rfl, rfl, rfl, rfl, trivial⟩
structure api_Cycle where
  Base : Int
  Number : Int
  Time : Int
  Positions : List Int
  Writes : List api_Write
  deriving DecidableEq
instance dt_api_Cycle : Dt api_Cycle where
  default := ⟨0, 0, 0, [], []⟩
  sz := 5
  rd H cs x := ∃ A0 n0 c0 s0, ∃ A1 n1 c1 s1, cs = [.int .i64 (x.Base), .int .i64 (x.Number), .int .i64 (x.Time), .slice A0 n0 c0, .slice A1 n1 c1] ∧ Fz H A0 n0 c0 x.Positions s0 ∧ Fz H A1 n1 c1 x.Writes s1
  len := fun ⟨A0, n0, c0, s0, A1, n1, c1, s1, h, h0, h1⟩ => by rw [h]; rfl
  mono := fun ⟨A0, n0, c0, s0, A1, n1, c1, s1, h, h0, h1⟩ hle => ⟨A0, n0, c0, s0, A1, n1, c1, s1, h, h0.mono hle, h1.mono hle⟩
  one := fun ⟨A0, n0, c0, s0, A1, n1, c1, s1, h, h0, h1⟩ => by rw [h]; exact oneAll ⟨rfl, rfl, rfl, rfl, rfl, trivial⟩
structure cycle_division where
  c : api_Capture
  part : List Bool
  deriving DecidableEq
instance dt_cycle_division : Dt cycle_division where
  default := ⟨default, []⟩
  sz := 6
  rd H cs x := ∃ A0 n0 c0 s0, ∃ A1 n1 c1 s1, ∃ A2 n2 c2 s2, ∃ A3 n3 c3 s3, ∃ A4 n4 c4 s4, cs = [.int .i64 (x.c.Number), .slice A0 n0 c0, .slice A1 n1 c1, .slice A2 n2 c2, .slice A3 n3 c3, .slice A4 n4 c4] ∧ Fz H A0 n0 c0 x.c.Sizes s0 ∧ Fz H A1 n1 c1 x.c.Positions s1 ∧ Fz H A2 n2 c2 x.c.Nodes s2 ∧ Fz H A3 n3 c3 x.c.Writes s3 ∧ Fz H A4 n4 c4 x.part s4
  len := fun ⟨A0, n0, c0, s0, A1, n1, c1, s1, A2, n2, c2, s2, A3, n3, c3, s3, A4, n4, c4, s4, h, h0, h1, h2, h3, h4⟩ => by rw [h]; rfl
  mono := fun ⟨A0, n0, c0, s0, A1, n1, c1, s1, A2, n2, c2, s2, A3, n3, c3, s3, A4, n4, c4, s4, h, h0, h1, h2, h3, h4⟩ hle => ⟨A0, n0, c0, s0, A1, n1, c1, s1, A2, n2, c2, s2, A3, n3, c3, s3, A4, n4, c4, s4, h, h0.mono hle, h1.mono hle, h2.mono hle, h3.mono hle, h4.mono hle⟩
  one := fun ⟨A0, n0, c0, s0, A1, n1, c1, s1, A2, n2, c2, s2, A3, n3, c3, s3, A4, n4, c4, s4, h, h0, h1, h2, h3, h4⟩ => by rw [h]; exact oneAll ⟨rfl, rfl, rfl, rfl, rfl, rfl, trivial⟩
structure coalesce_place where
  volume : Int
  sector : Int
  deriving DecidableEq
instance dt_coalesce_place : Dt coalesce_place where
  default := ⟨0, 0⟩
  sz := 2
  rd H cs x := cs = [.int .i64 (x.volume), .int .i64 (x.sector)]
  len h := by rw [h]; rfl
  mono h _ := h
  one h := by rw [h]; exact oneAll ⟨rfl, rfl, trivial⟩
  ks := some ([.i .i64, .i .i64], fun x => [.i .i64 x.volume, .i .i64 x.sector])
  ksOk := fun _ _ h => by
    cases h
    refine ⟨fun _ _ _ => Iff.rfl, fun _ => rfl, fun a b h => ?_⟩
    obtain ⟨a_0, a_1⟩ := a
    obtain ⟨b_0, b_1⟩ := b
    simp only [List.cons.injEq, Sc.i.injEq, true_and, and_true] at h
    obtain ⟨e0, e1⟩ := h
    subst e0
    subst e1
    rfl
structure api_Extent where
  Start : Int
  Count : Int
  deriving DecidableEq
instance dt_api_Extent : Dt api_Extent where
  default := ⟨0, 0⟩
  sz := 2
  rd H cs x := cs = [.int .i64 (x.Start), .int .i64 (x.Count)]
  len h := by rw [h]; rfl
  mono h _ := h
  one h := by rw [h]; exact oneAll ⟨rfl, rfl, trivial⟩
instance dtUnit : Dt Unit where
  default := ()
  sz := 0
  rd _ cs _ := cs = []
  len h := by rw [h]; rfl
  mono h _ := h
  one h := by rw [h]; intro u hu; cases hu
structure TyR where
  α : Type
  inst : Dt α
def tyOf (t : Nat) : TyR := bif Nat.beq t 4 then ⟨Bool, inferInstance⟩ else bif Nat.beq t 3 then ⟨Int, inferInstance⟩ else bif Nat.beq t 130 then ⟨Sec, inferInstance⟩ else bif Nat.beq t 70 then ⟨api_Write, inferInstance⟩ else bif Nat.beq t 25 then ⟨api_Capture, inferInstance⟩ else bif Nat.beq t 22 then ⟨List Int, inferInstance⟩ else bif Nat.beq t 23 then ⟨List api_Write, inferInstance⟩ else bif Nat.beq t 30 then ⟨Int, inferInstance⟩ else bif Nat.beq t 68 then ⟨List Sec, inferInstance⟩ else bif Nat.beq t 39 then ⟨List (List Sec), inferInstance⟩ else bif Nat.beq t 38 then ⟨List (List Sec), inferInstance⟩ else bif Nat.beq t 5 then ⟨BitVec 8, inferInstance⟩ else bif Nat.beq t 52 then ⟨List (BitVec 8), inferInstance⟩ else bif Nat.beq t 29 then ⟨api_Cycle, inferInstance⟩ else bif Nat.beq t 79 then ⟨cycle_division, inferInstance⟩ else bif Nat.beq t 186 then ⟨coalesce_place, inferInstance⟩ else bif Nat.beq t 198 then ⟨BitVec 64, inferInstance⟩ else bif Nat.beq t 222 then ⟨BitVec 64, inferInstance⟩ else bif Nat.beq t 151 then ⟨List (List api_Write), inferInstance⟩ else bif Nat.beq t 195 then ⟨api_Extent, inferInstance⟩ else bif Nat.beq t 148 then ⟨List api_Extent, inferInstance⟩ else bif Nat.beq t 77 then ⟨List Bool, inferInstance⟩ else ⟨Unit, dtUnit⟩
abbrev DD (t : Nat) : Type := (tyOf t).α
instance dtDD (t : Nat) : Dt (DD t) := (tyOf t).inst
def xI : SV DD → Option Int
 | .i .i64 n => some n
 | _ => none
def xW : SV DD → Option (BitVec 64)
 | .w x => some x
 | _ => none
def xY : SV DD → Option (BitVec 8)
 | .y x => some x
 | _ => none
def xT : SV DD → Option ByteArray
 | .st x => some x
 | _ => none
def xS (e : Nat) : SV DD → Option (List (DD e))
 | .fsl e' xs => castL e' e xs
 | .nil => some []
 | _ => none
theorem xI_cq {a : SV DD} {n : Int} (h : xI a = some n) : CQ a (.i .i64 n) := by
  unfold xI at h
  split at h
  · cases h; exact .inr ⟨rfl, rfl, fun _ _ _ h => h⟩
  · cases h
theorem xW_cq {a : SV DD} {n : BitVec 64} (h : xW a = some n) : CQ a (.w n) := by
  unfold xW at h
  split at h
  · cases h; exact .inr ⟨rfl, rfl, fun _ _ _ h => h⟩
  · cases h
theorem xY_cq {a : SV DD} {n : BitVec 8} (h : xY a = some n) : CQ a (.y n) := by
  unfold xY at h
  split at h
  · cases h; exact .inr ⟨rfl, rfl, fun _ _ _ h => h⟩
  · cases h
theorem xB_cq {a : SV DD} {n : Bool} (h : boolOf a = some n) : CQ a (.b n) := by
  cases a <;> first | (cases h; exact .inr ⟨rfl, rfl, fun _ _ _ h => h⟩) | cases h
theorem xS_cq {e : Nat} {a : SV DD} {n : List (DD e)} (h : xS e a = some n) : CQ a (.fsl e n) := by
  unfold xS at h
  split at h
  · obtain ⟨he, h1⟩ := castL_ok h
    subst he
    subst h1
    exact .inl ⟨_, _, rfl, .inl rfl⟩
  · cases h; exact .inl ⟨_, _, rfl, .inr ⟨rfl, rfl⟩⟩
  · cases h
theorem bindS {α β : Type} {o : Option α} {f : α → Option β} {x : β} (h : o.bind f = some x) : ∃ v, o = some v ∧ f v = some x := Option.bind_eq_some_iff.1 h
def ofc4 : List (SV DD) → Option (DD 4)
 | [a0] => (boolOf a0).bind fun v0 => some v0
 | _ => none
def ce4 : CE DD := ⟨4, fun x => [.b (x)], ofc4, none⟩
theorem ceOk4 : ce4.Ok where
  rdi := @fun H ρ cs x => ⟨fun h => by
    obtain h := (show Dt.rd (α := Bool) H cs x from h)
    subst h
    exact ⟨_, _, rfl, rfl, rfl⟩, fun h => by
    obtain ⟨v0, r0, e0, p0, e⟩ := h
    have e : r0 = [] := e
    subst e
    subst e0
    have p0 : v0 = _ := p0
    subst p0
    exact (show Dt.rd (α := Bool) H _ x from rfl)⟩
  cq := @fun l x h => by
    change ofc4 l = some x at h
    unfold ofc4 at h
    split at h
    · obtain ⟨v0, h0, h⟩ := bindS h
      cases h
      exact ⟨_, _, rfl, xB_cq h0, rfl⟩
    · cases h
  eqc := fun d a b c1 c2 hd h1 h2 => by cases hd
def ofc3 : List (SV DD) → Option (DD 3)
 | [a0] => (xI a0).bind fun v0 => some v0
 | _ => none
def ce3 : CE DD := ⟨3, fun x => [.i .i64 (x)], ofc3, none⟩
theorem ceOk3 : ce3.Ok where
  rdi := @fun H ρ cs x => ⟨fun h => by
    obtain h := (show Dt.rd (α := Int) H cs x from h)
    subst h
    exact ⟨_, _, rfl, rfl, rfl⟩, fun h => by
    obtain ⟨v0, r0, e0, p0, e⟩ := h
    have e : r0 = [] := e
    subst e
    subst e0
    have p0 : v0 = _ := p0
    subst p0
    exact (show Dt.rd (α := Int) H _ x from rfl)⟩
  cq := @fun l x h => by
    change ofc3 l = some x at h
    unfold ofc3 at h
    split at h
    · obtain ⟨v0, h0, h⟩ := bindS h
      cases h
      exact ⟨_, _, rfl, xI_cq h0, rfl⟩
    · cases h
  eqc := fun d a b c1 c2 hd h1 h2 => by cases hd
def ofc130 : List (SV DD) → Option (DD 130)
 | [a0, a1, a2, a3, a4, a5, a6, a7] => (xY a0).bind fun v0 => (xY a1).bind fun v1 => (xY a2).bind fun v2 => (xY a3).bind fun v3 => (xY a4).bind fun v4 => (xY a5).bind fun v5 => (xY a6).bind fun v6 => (xY a7).bind fun v7 => some ⟨v0, v1, v2, v3, v4, v5, v6, v7⟩
 | _ => none
def ce130 : CE DD := ⟨130, fun x => [.y (x.b0), .y (x.b1), .y (x.b2), .y (x.b3), .y (x.b4), .y (x.b5), .y (x.b6), .y (x.b7)], ofc130, some (inferInstanceAs (DecidableEq Sec))⟩
theorem sc130 (a b : Sec) : (([.i .u8 ((a.b0).toNat : Int), .i .u8 ((a.b1).toNat : Int), .i .u8 ((a.b2).toNat : Int), .i .u8 ((a.b3).toNat : Int), .i .u8 ((a.b4).toNat : Int), .i .u8 ((a.b5).toNat : Int), .i .u8 ((a.b6).toNat : Int), .i .u8 ((a.b7).toNat : Int)] : List Sc) = [.i .u8 ((b.b0).toNat : Int), .i .u8 ((b.b1).toNat : Int), .i .u8 ((b.b2).toNat : Int), .i .u8 ((b.b3).toNat : Int), .i .u8 ((b.b4).toNat : Int), .i .u8 ((b.b5).toNat : Int), .i .u8 ((b.b6).toNat : Int), .i .u8 ((b.b7).toNat : Int)]) ↔ a = b := by
  cases a; cases b; simp [← BitVec.toNat_inj]; omega
theorem ceOk130 : ce130.Ok where
  rdi := @fun H ρ cs x => ⟨fun h => by
    obtain h := (show Dt.rd (α := Sec) H cs x from h)
    subst h
    exact ⟨_, _, rfl, rfl, _, _, rfl, rfl, _, _, rfl, rfl, _, _, rfl, rfl, _, _, rfl, rfl, _, _, rfl, rfl, _, _, rfl, rfl, _, _, rfl, rfl, rfl⟩, fun h => by
    obtain ⟨v0, r0, e0, p0, v1, r1, e1, p1, v2, r2, e2, p2, v3, r3, e3, p3, v4, r4, e4, p4, v5, r5, e5, p5, v6, r6, e6, p6, v7, r7, e7, p7, e⟩ := h
    have e : r7 = [] := e
    subst e
    subst e7
    subst e6
    subst e5
    subst e4
    subst e3
    subst e2
    subst e1
    subst e0
    have p0 : v0 = _ := p0
    subst p0
    have p1 : v1 = _ := p1
    subst p1
    have p2 : v2 = _ := p2
    subst p2
    have p3 : v3 = _ := p3
    subst p3
    have p4 : v4 = _ := p4
    subst p4
    have p5 : v5 = _ := p5
    subst p5
    have p6 : v6 = _ := p6
    subst p6
    have p7 : v7 = _ := p7
    subst p7
    exact (show Dt.rd (α := Sec) H _ x from rfl)⟩
  cq := @fun l x h => by
    change ofc130 l = some x at h
    unfold ofc130 at h
    split at h
    · obtain ⟨v0, h0, h⟩ := bindS h
      obtain ⟨v1, h1, h⟩ := bindS h
      obtain ⟨v2, h2, h⟩ := bindS h
      obtain ⟨v3, h3, h⟩ := bindS h
      obtain ⟨v4, h4, h⟩ := bindS h
      obtain ⟨v5, h5, h⟩ := bindS h
      obtain ⟨v6, h6, h⟩ := bindS h
      obtain ⟨v7, h7, h⟩ := bindS h
      cases h
      exact ⟨_, _, rfl, xY_cq h0, _, _, rfl, xY_cq h1, _, _, rfl, xY_cq h2, _, _, rfl, xY_cq h3, _, _, rfl, xY_cq h4, _, _, rfl, xY_cq h5, _, _, rfl, xY_cq h6, _, _, rfl, xY_cq h7, rfl⟩
    · cases h
  eqc := fun d a b c1 c2 hd h1 h2 => by
    cases h1; cases h2
    exact sc130 a b
def ofc70 : List (SV DD) → Option (DD 70)
 | [a0, a1, a2] => (xI a0).bind fun v0 => (xI a1).bind fun v1 => (xS 130 a2).bind fun v2 => some ⟨v0, v1, v2⟩
 | _ => none
def ce70 : CE DD := ⟨70, fun x => [.i .i64 (x.Volume), .i .i64 (x.Start), .fsl 130 (x.Data)], ofc70, none⟩
theorem ceOk70 : ce70.Ok where
  rdi := @fun H ρ cs x => ⟨fun h => by
    obtain ⟨A0, n0, c0, s0, h, h0⟩ := (show Dt.rd (α := api_Write) H cs x from h)
    subst h
    exact ⟨_, _, rfl, rfl, _, _, rfl, rfl, _, _, rfl, ⟨A0, n0, c0, s0, rfl, h0⟩, rfl⟩, fun h => by
    obtain ⟨v0, r0, e0, p0, v1, r1, e1, p1, v2, r2, e2, ⟨A0, n0, c0, s0, p2, h0⟩, e⟩ := h
    have e : r2 = [] := e
    subst e
    subst e2
    subst e1
    subst e0
    have p0 : v0 = _ := p0
    subst p0
    have p1 : v1 = _ := p1
    subst p1
    subst p2
    exact (show Dt.rd (α := api_Write) H _ x from ⟨A0, n0, c0, s0, rfl, h0⟩)⟩
  cq := @fun l x h => by
    change ofc70 l = some x at h
    unfold ofc70 at h
    split at h
    · obtain ⟨v0, h0, h⟩ := bindS h
      obtain ⟨v1, h1, h⟩ := bindS h
      obtain ⟨v2, h2, h⟩ := bindS h
      cases h
      exact ⟨_, _, rfl, xI_cq h0, _, _, rfl, xI_cq h1, _, _, rfl, xS_cq h2, rfl⟩
    · cases h
  eqc := fun d a b c1 c2 hd h1 h2 => by cases hd
def ofc25 : List (SV DD) → Option (DD 25)
 | [a0, a1, a2, a3, a4] => (xI a0).bind fun v0 => (xS 3 a1).bind fun v1 => (xS 3 a2).bind fun v2 => (xS 3 a3).bind fun v3 => (xS 70 a4).bind fun v4 => some ⟨v0, v1, v2, v3, v4⟩
 | _ => none
def ce25 : CE DD := ⟨25, fun x => [.i .i64 (x.Number), .fsl 3 (x.Sizes), .fsl 3 (x.Positions), .fsl 3 (x.Nodes), .fsl 70 (x.Writes)], ofc25, none⟩
theorem ceOk25 : ce25.Ok where
  rdi := @fun H ρ cs x => ⟨fun h => by
    obtain ⟨A0, n0, c0, s0, A1, n1, c1, s1, A2, n2, c2, s2, A3, n3, c3, s3, h, h0, h1, h2, h3⟩ := (show Dt.rd (α := api_Capture) H cs x from h)
    subst h
    exact ⟨_, _, rfl, rfl, _, _, rfl, ⟨A0, n0, c0, s0, rfl, h0⟩, _, _, rfl, ⟨A1, n1, c1, s1, rfl, h1⟩, _, _, rfl, ⟨A2, n2, c2, s2, rfl, h2⟩, _, _, rfl, ⟨A3, n3, c3, s3, rfl, h3⟩, rfl⟩, fun h => by
    obtain ⟨v0, r0, e0, p0, v1, r1, e1, ⟨A0, n0, c0, s0, p1, h0⟩, v2, r2, e2, ⟨A1, n1, c1, s1, p2, h1⟩, v3, r3, e3, ⟨A2, n2, c2, s2, p3, h2⟩, v4, r4, e4, ⟨A3, n3, c3, s3, p4, h3⟩, e⟩ := h
    have e : r4 = [] := e
    subst e
    subst e4
    subst e3
    subst e2
    subst e1
    subst e0
    have p0 : v0 = _ := p0
    subst p0
    subst p1
    subst p2
    subst p3
    subst p4
    exact (show Dt.rd (α := api_Capture) H _ x from ⟨A0, n0, c0, s0, A1, n1, c1, s1, A2, n2, c2, s2, A3, n3, c3, s3, rfl, h0, h1, h2, h3⟩)⟩
  cq := @fun l x h => by
    change ofc25 l = some x at h
    unfold ofc25 at h
    split at h
    · obtain ⟨v0, h0, h⟩ := bindS h
      obtain ⟨v1, h1, h⟩ := bindS h
      obtain ⟨v2, h2, h⟩ := bindS h
      obtain ⟨v3, h3, h⟩ := bindS h
      obtain ⟨v4, h4, h⟩ := bindS h
      cases h
      exact ⟨_, _, rfl, xI_cq h0, _, _, rfl, xS_cq h1, _, _, rfl, xS_cq h2, _, _, rfl, xS_cq h3, _, _, rfl, xS_cq h4, rfl⟩
    · cases h
  eqc := fun d a b c1 c2 hd h1 h2 => by cases hd
def ofc22 : List (SV DD) → Option (DD 22)
 | [a0] => (xS 3 a0).bind fun v0 => some v0
 | _ => none
def ce22 : CE DD := ⟨22, fun x => [.fsl 3 (x)], ofc22, none⟩
theorem ceOk22 : ce22.Ok where
  rdi := @fun H ρ cs x => ⟨fun h => by
    obtain ⟨A0, n0, c0, s0, h, h0⟩ := (show Dt.rd (α := List Int) H cs x from h)
    subst h
    exact ⟨_, _, rfl, ⟨A0, n0, c0, s0, rfl, h0⟩, rfl⟩, fun h => by
    obtain ⟨v0, r0, e0, ⟨A0, n0, c0, s0, p0, h0⟩, e⟩ := h
    have e : r0 = [] := e
    subst e
    subst e0
    subst p0
    exact (show Dt.rd (α := List Int) H _ x from ⟨A0, n0, c0, s0, rfl, h0⟩)⟩
  cq := @fun l x h => by
    change ofc22 l = some x at h
    unfold ofc22 at h
    split at h
    · obtain ⟨v0, h0, h⟩ := bindS h
      cases h
      exact ⟨_, _, rfl, xS_cq h0, rfl⟩
    · cases h
  eqc := fun d a b c1 c2 hd h1 h2 => by cases hd
def ofc23 : List (SV DD) → Option (DD 23)
 | [a0] => (xS 70 a0).bind fun v0 => some v0
 | _ => none
def ce23 : CE DD := ⟨23, fun x => [.fsl 70 (x)], ofc23, none⟩
theorem ceOk23 : ce23.Ok where
  rdi := @fun H ρ cs x => ⟨fun h => by
    obtain ⟨A0, n0, c0, s0, h, h0⟩ := (show Dt.rd (α := List api_Write) H cs x from h)
    subst h
    exact ⟨_, _, rfl, ⟨A0, n0, c0, s0, rfl, h0⟩, rfl⟩, fun h => by
    obtain ⟨v0, r0, e0, ⟨A0, n0, c0, s0, p0, h0⟩, e⟩ := h
    have e : r0 = [] := e
    subst e
    subst e0
    subst p0
    exact (show Dt.rd (α := List api_Write) H _ x from ⟨A0, n0, c0, s0, rfl, h0⟩)⟩
  cq := @fun l x h => by
    change ofc23 l = some x at h
    unfold ofc23 at h
    split at h
    · obtain ⟨v0, h0, h⟩ := bindS h
      cases h
      exact ⟨_, _, rfl, xS_cq h0, rfl⟩
    · cases h
  eqc := fun d a b c1 c2 hd h1 h2 => by cases hd
def ofc30 : List (SV DD) → Option (DD 30)
 | [a0] => (xI a0).bind fun v0 => some v0
 | _ => none
def ce30 : CE DD := ⟨30, fun x => [.i .i64 (x)], ofc30, none⟩
theorem ceOk30 : ce30.Ok where
  rdi := @fun H ρ cs x => ⟨fun h => by
    obtain h := (show Dt.rd (α := Int) H cs x from h)
    subst h
    exact ⟨_, _, rfl, rfl, rfl⟩, fun h => by
    obtain ⟨v0, r0, e0, p0, e⟩ := h
    have e : r0 = [] := e
    subst e
    subst e0
    have p0 : v0 = _ := p0
    subst p0
    exact (show Dt.rd (α := Int) H _ x from rfl)⟩
  cq := @fun l x h => by
    change ofc30 l = some x at h
    unfold ofc30 at h
    split at h
    · obtain ⟨v0, h0, h⟩ := bindS h
      cases h
      exact ⟨_, _, rfl, xI_cq h0, rfl⟩
    · cases h
  eqc := fun d a b c1 c2 hd h1 h2 => by cases hd
def ofc68 : List (SV DD) → Option (DD 68)
 | [a0] => (xS 130 a0).bind fun v0 => some v0
 | _ => none
def ce68 : CE DD := ⟨68, fun x => [.fsl 130 (x)], ofc68, none⟩
theorem ceOk68 : ce68.Ok where
  rdi := @fun H ρ cs x => ⟨fun h => by
    obtain ⟨A0, n0, c0, s0, h, h0⟩ := (show Dt.rd (α := List Sec) H cs x from h)
    subst h
    exact ⟨_, _, rfl, ⟨A0, n0, c0, s0, rfl, h0⟩, rfl⟩, fun h => by
    obtain ⟨v0, r0, e0, ⟨A0, n0, c0, s0, p0, h0⟩, e⟩ := h
    have e : r0 = [] := e
    subst e
    subst e0
    subst p0
    exact (show Dt.rd (α := List Sec) H _ x from ⟨A0, n0, c0, s0, rfl, h0⟩)⟩
  cq := @fun l x h => by
    change ofc68 l = some x at h
    unfold ofc68 at h
    split at h
    · obtain ⟨v0, h0, h⟩ := bindS h
      cases h
      exact ⟨_, _, rfl, xS_cq h0, rfl⟩
    · cases h
  eqc := fun d a b c1 c2 hd h1 h2 => by cases hd
def ofc39 : List (SV DD) → Option (DD 39)
 | [a0] => (xS 68 a0).bind fun v0 => some v0
 | _ => none
def ce39 : CE DD := ⟨39, fun x => [.fsl 68 (x)], ofc39, none⟩
theorem ceOk39 : ce39.Ok where
  rdi := @fun H ρ cs x => ⟨fun h => by
    obtain ⟨A0, n0, c0, s0, h, h0⟩ := (show Dt.rd (α := List (List Sec)) H cs x from h)
    subst h
    exact ⟨_, _, rfl, ⟨A0, n0, c0, s0, rfl, h0⟩, rfl⟩, fun h => by
    obtain ⟨v0, r0, e0, ⟨A0, n0, c0, s0, p0, h0⟩, e⟩ := h
    have e : r0 = [] := e
    subst e
    subst e0
    subst p0
    exact (show Dt.rd (α := List (List Sec)) H _ x from ⟨A0, n0, c0, s0, rfl, h0⟩)⟩
  cq := @fun l x h => by
    change ofc39 l = some x at h
    unfold ofc39 at h
    split at h
    · obtain ⟨v0, h0, h⟩ := bindS h
      cases h
      exact ⟨_, _, rfl, xS_cq h0, rfl⟩
    · cases h
  eqc := fun d a b c1 c2 hd h1 h2 => by cases hd
def ofc38 : List (SV DD) → Option (DD 38)
 | [a0] => (xS 68 a0).bind fun v0 => some v0
 | _ => none
def ce38 : CE DD := ⟨38, fun x => [.fsl 68 (x)], ofc38, none⟩
theorem ceOk38 : ce38.Ok where
  rdi := @fun H ρ cs x => ⟨fun h => by
    obtain ⟨A0, n0, c0, s0, h, h0⟩ := (show Dt.rd (α := List (List Sec)) H cs x from h)
    subst h
    exact ⟨_, _, rfl, ⟨A0, n0, c0, s0, rfl, h0⟩, rfl⟩, fun h => by
    obtain ⟨v0, r0, e0, ⟨A0, n0, c0, s0, p0, h0⟩, e⟩ := h
    have e : r0 = [] := e
    subst e
    subst e0
    subst p0
    exact (show Dt.rd (α := List (List Sec)) H _ x from ⟨A0, n0, c0, s0, rfl, h0⟩)⟩
  cq := @fun l x h => by
    change ofc38 l = some x at h
    unfold ofc38 at h
    split at h
    · obtain ⟨v0, h0, h⟩ := bindS h
      cases h
      exact ⟨_, _, rfl, xS_cq h0, rfl⟩
    · cases h
  eqc := fun d a b c1 c2 hd h1 h2 => by cases hd
def ofc5 : List (SV DD) → Option (DD 5)
 | [a0] => (xY a0).bind fun v0 => some v0
 | _ => none
def ce5 : CE DD := ⟨5, fun x => [.y (x)], ofc5, none⟩
theorem ceOk5 : ce5.Ok where
  rdi := @fun H ρ cs x => ⟨fun h => by
    obtain h := (show Dt.rd (α := BitVec 8) H cs x from h)
    subst h
    exact ⟨_, _, rfl, rfl, rfl⟩, fun h => by
    obtain ⟨v0, r0, e0, p0, e⟩ := h
    have e : r0 = [] := e
    subst e
    subst e0
    have p0 : v0 = _ := p0
    subst p0
    exact (show Dt.rd (α := BitVec 8) H _ x from rfl)⟩
  cq := @fun l x h => by
    change ofc5 l = some x at h
    unfold ofc5 at h
    split at h
    · obtain ⟨v0, h0, h⟩ := bindS h
      cases h
      exact ⟨_, _, rfl, xY_cq h0, rfl⟩
    · cases h
  eqc := fun d a b c1 c2 hd h1 h2 => by cases hd
def ofc52 : List (SV DD) → Option (DD 52)
 | [a0] => (xS 5 a0).bind fun v0 => some v0
 | _ => none
def ce52 : CE DD := ⟨52, fun x => [.fsl 5 (x)], ofc52, none⟩
theorem ceOk52 : ce52.Ok where
  rdi := @fun H ρ cs x => ⟨fun h => by
    obtain ⟨A0, n0, c0, s0, h, h0⟩ := (show Dt.rd (α := List (BitVec 8)) H cs x from h)
    subst h
    exact ⟨_, _, rfl, ⟨A0, n0, c0, s0, rfl, h0⟩, rfl⟩, fun h => by
    obtain ⟨v0, r0, e0, ⟨A0, n0, c0, s0, p0, h0⟩, e⟩ := h
    have e : r0 = [] := e
    subst e
    subst e0
    subst p0
    exact (show Dt.rd (α := List (BitVec 8)) H _ x from ⟨A0, n0, c0, s0, rfl, h0⟩)⟩
  cq := @fun l x h => by
    change ofc52 l = some x at h
    unfold ofc52 at h
    split at h
    · obtain ⟨v0, h0, h⟩ := bindS h
      cases h
      exact ⟨_, _, rfl, xS_cq h0, rfl⟩
    · cases h
  eqc := fun d a b c1 c2 hd h1 h2 => by cases hd
def ofc29 : List (SV DD) → Option (DD 29)
 | [a0, a1, a2, a3, a4] => (xI a0).bind fun v0 => (xI a1).bind fun v1 => (xI a2).bind fun v2 => (xS 3 a3).bind fun v3 => (xS 70 a4).bind fun v4 => some ⟨v0, v1, v2, v3, v4⟩
 | _ => none
def ce29 : CE DD := ⟨29, fun x => [.i .i64 (x.Base), .i .i64 (x.Number), .i .i64 (x.Time), .fsl 3 (x.Positions), .fsl 70 (x.Writes)], ofc29, none⟩
theorem ceOk29 : ce29.Ok where
  rdi := @fun H ρ cs x => ⟨fun h => by
    obtain ⟨A0, n0, c0, s0, A1, n1, c1, s1, h, h0, h1⟩ := (show Dt.rd (α := api_Cycle) H cs x from h)
    subst h
    exact ⟨_, _, rfl, rfl, _, _, rfl, rfl, _, _, rfl, rfl, _, _, rfl, ⟨A0, n0, c0, s0, rfl, h0⟩, _, _, rfl, ⟨A1, n1, c1, s1, rfl, h1⟩, rfl⟩, fun h => by
    obtain ⟨v0, r0, e0, p0, v1, r1, e1, p1, v2, r2, e2, p2, v3, r3, e3, ⟨A0, n0, c0, s0, p3, h0⟩, v4, r4, e4, ⟨A1, n1, c1, s1, p4, h1⟩, e⟩ := h
    have e : r4 = [] := e
    subst e
    subst e4
    subst e3
    subst e2
    subst e1
    subst e0
    have p0 : v0 = _ := p0
    subst p0
    have p1 : v1 = _ := p1
    subst p1
    have p2 : v2 = _ := p2
    subst p2
    subst p3
    subst p4
    exact (show Dt.rd (α := api_Cycle) H _ x from ⟨A0, n0, c0, s0, A1, n1, c1, s1, rfl, h0, h1⟩)⟩
  cq := @fun l x h => by
    change ofc29 l = some x at h
    unfold ofc29 at h
    split at h
    · obtain ⟨v0, h0, h⟩ := bindS h
      obtain ⟨v1, h1, h⟩ := bindS h
      obtain ⟨v2, h2, h⟩ := bindS h
      obtain ⟨v3, h3, h⟩ := bindS h
      obtain ⟨v4, h4, h⟩ := bindS h
      cases h
      exact ⟨_, _, rfl, xI_cq h0, _, _, rfl, xI_cq h1, _, _, rfl, xI_cq h2, _, _, rfl, xS_cq h3, _, _, rfl, xS_cq h4, rfl⟩
    · cases h
  eqc := fun d a b c1 c2 hd h1 h2 => by cases hd
def ofc79 : List (SV DD) → Option (DD 79)
 | [a0, a1, a2, a3, a4, a5] => (xI a0).bind fun v0 => (xS 3 a1).bind fun v1 => (xS 3 a2).bind fun v2 => (xS 3 a3).bind fun v3 => (xS 70 a4).bind fun v4 => (xS 4 a5).bind fun v5 => some ⟨⟨v0, v1, v2, v3, v4⟩, v5⟩
 | _ => none
def ce79 : CE DD := ⟨79, fun x => [.i .i64 (x.c.Number), .fsl 3 (x.c.Sizes), .fsl 3 (x.c.Positions), .fsl 3 (x.c.Nodes), .fsl 70 (x.c.Writes), .fsl 4 (x.part)], ofc79, none⟩
theorem ceOk79 : ce79.Ok where
  rdi := @fun H ρ cs x => ⟨fun h => by
    obtain ⟨A0, n0, c0, s0, A1, n1, c1, s1, A2, n2, c2, s2, A3, n3, c3, s3, A4, n4, c4, s4, h, h0, h1, h2, h3, h4⟩ := (show Dt.rd (α := cycle_division) H cs x from h)
    subst h
    exact ⟨_, _, rfl, rfl, _, _, rfl, ⟨A0, n0, c0, s0, rfl, h0⟩, _, _, rfl, ⟨A1, n1, c1, s1, rfl, h1⟩, _, _, rfl, ⟨A2, n2, c2, s2, rfl, h2⟩, _, _, rfl, ⟨A3, n3, c3, s3, rfl, h3⟩, _, _, rfl, ⟨A4, n4, c4, s4, rfl, h4⟩, rfl⟩, fun h => by
    obtain ⟨v0, r0, e0, p0, v1, r1, e1, ⟨A0, n0, c0, s0, p1, h0⟩, v2, r2, e2, ⟨A1, n1, c1, s1, p2, h1⟩, v3, r3, e3, ⟨A2, n2, c2, s2, p3, h2⟩, v4, r4, e4, ⟨A3, n3, c3, s3, p4, h3⟩, v5, r5, e5, ⟨A4, n4, c4, s4, p5, h4⟩, e⟩ := h
    have e : r5 = [] := e
    subst e
    subst e5
    subst e4
    subst e3
    subst e2
    subst e1
    subst e0
    have p0 : v0 = _ := p0
    subst p0
    subst p1
    subst p2
    subst p3
    subst p4
    subst p5
    exact (show Dt.rd (α := cycle_division) H _ x from ⟨A0, n0, c0, s0, A1, n1, c1, s1, A2, n2, c2, s2, A3, n3, c3, s3, A4, n4, c4, s4, rfl, h0, h1, h2, h3, h4⟩)⟩
  cq := @fun l x h => by
    change ofc79 l = some x at h
    unfold ofc79 at h
    split at h
    · obtain ⟨v0, h0, h⟩ := bindS h
      obtain ⟨v1, h1, h⟩ := bindS h
      obtain ⟨v2, h2, h⟩ := bindS h
      obtain ⟨v3, h3, h⟩ := bindS h
      obtain ⟨v4, h4, h⟩ := bindS h
      obtain ⟨v5, h5, h⟩ := bindS h
      cases h
      exact ⟨_, _, rfl, xI_cq h0, _, _, rfl, xS_cq h1, _, _, rfl, xS_cq h2, _, _, rfl, xS_cq h3, _, _, rfl, xS_cq h4, _, _, rfl, xS_cq h5, rfl⟩
    · cases h
  eqc := fun d a b c1 c2 hd h1 h2 => by cases hd
def ofc186 : List (SV DD) → Option (DD 186)
 | [a0, a1] => (xI a0).bind fun v0 => (xI a1).bind fun v1 => some ⟨v0, v1⟩
 | _ => none
def ce186 : CE DD := ⟨186, fun x => [.i .i64 (x.volume), .i .i64 (x.sector)], ofc186, some (inferInstanceAs (DecidableEq coalesce_place))⟩
theorem sc186 (a b : coalesce_place) : (([.i .i64 (a.volume), .i .i64 (a.sector)] : List Sc) = [.i .i64 (b.volume), .i .i64 (b.sector)]) ↔ a = b := by
  cases a; cases b; simp
theorem ceOk186 : ce186.Ok where
  rdi := @fun H ρ cs x => ⟨fun h => by
    obtain h := (show Dt.rd (α := coalesce_place) H cs x from h)
    subst h
    exact ⟨_, _, rfl, rfl, _, _, rfl, rfl, rfl⟩, fun h => by
    obtain ⟨v0, r0, e0, p0, v1, r1, e1, p1, e⟩ := h
    have e : r1 = [] := e
    subst e
    subst e1
    subst e0
    have p0 : v0 = _ := p0
    subst p0
    have p1 : v1 = _ := p1
    subst p1
    exact (show Dt.rd (α := coalesce_place) H _ x from rfl)⟩
  cq := @fun l x h => by
    change ofc186 l = some x at h
    unfold ofc186 at h
    split at h
    · obtain ⟨v0, h0, h⟩ := bindS h
      obtain ⟨v1, h1, h⟩ := bindS h
      cases h
      exact ⟨_, _, rfl, xI_cq h0, _, _, rfl, xI_cq h1, rfl⟩
    · cases h
  eqc := fun d a b c1 c2 hd h1 h2 => by
    cases h1; cases h2
    exact sc186 a b
def ofc198 : List (SV DD) → Option (DD 198)
 | [a0] => (xW a0).bind fun v0 => some v0
 | _ => none
def ce198 : CE DD := ⟨198, fun x => [.w (x)], ofc198, none⟩
theorem ceOk198 : ce198.Ok where
  rdi := @fun H ρ cs x => ⟨fun h => by
    obtain h := (show Dt.rd (α := BitVec 64) H cs x from h)
    subst h
    exact ⟨_, _, rfl, rfl, rfl⟩, fun h => by
    obtain ⟨v0, r0, e0, p0, e⟩ := h
    have e : r0 = [] := e
    subst e
    subst e0
    have p0 : v0 = _ := p0
    subst p0
    exact (show Dt.rd (α := BitVec 64) H _ x from rfl)⟩
  cq := @fun l x h => by
    change ofc198 l = some x at h
    unfold ofc198 at h
    split at h
    · obtain ⟨v0, h0, h⟩ := bindS h
      cases h
      exact ⟨_, _, rfl, xW_cq h0, rfl⟩
    · cases h
  eqc := fun d a b c1 c2 hd h1 h2 => by cases hd
def ofc222 : List (SV DD) → Option (DD 222)
 | [a0] => (xW a0).bind fun v0 => some v0
 | _ => none
def ce222 : CE DD := ⟨222, fun x => [.w (x)], ofc222, none⟩
theorem ceOk222 : ce222.Ok where
  rdi := @fun H ρ cs x => ⟨fun h => by
    obtain h := (show Dt.rd (α := BitVec 64) H cs x from h)
    subst h
    exact ⟨_, _, rfl, rfl, rfl⟩, fun h => by
    obtain ⟨v0, r0, e0, p0, e⟩ := h
    have e : r0 = [] := e
    subst e
    subst e0
    have p0 : v0 = _ := p0
    subst p0
    exact (show Dt.rd (α := BitVec 64) H _ x from rfl)⟩
  cq := @fun l x h => by
    change ofc222 l = some x at h
    unfold ofc222 at h
    split at h
    · obtain ⟨v0, h0, h⟩ := bindS h
      cases h
      exact ⟨_, _, rfl, xW_cq h0, rfl⟩
    · cases h
  eqc := fun d a b c1 c2 hd h1 h2 => by cases hd
def ofc151 : List (SV DD) → Option (DD 151)
 | [a0] => (xS 23 a0).bind fun v0 => some v0
 | _ => none
def ce151 : CE DD := ⟨151, fun x => [.fsl 23 (x)], ofc151, none⟩
theorem ceOk151 : ce151.Ok where
  rdi := @fun H ρ cs x => ⟨fun h => by
    obtain ⟨A0, n0, c0, s0, h, h0⟩ := (show Dt.rd (α := List (List api_Write)) H cs x from h)
    subst h
    exact ⟨_, _, rfl, ⟨A0, n0, c0, s0, rfl, h0⟩, rfl⟩, fun h => by
    obtain ⟨v0, r0, e0, ⟨A0, n0, c0, s0, p0, h0⟩, e⟩ := h
    have e : r0 = [] := e
    subst e
    subst e0
    subst p0
    exact (show Dt.rd (α := List (List api_Write)) H _ x from ⟨A0, n0, c0, s0, rfl, h0⟩)⟩
  cq := @fun l x h => by
    change ofc151 l = some x at h
    unfold ofc151 at h
    split at h
    · obtain ⟨v0, h0, h⟩ := bindS h
      cases h
      exact ⟨_, _, rfl, xS_cq h0, rfl⟩
    · cases h
  eqc := fun d a b c1 c2 hd h1 h2 => by cases hd
def ofc195 : List (SV DD) → Option (DD 195)
 | [a0, a1] => (xI a0).bind fun v0 => (xI a1).bind fun v1 => some ⟨v0, v1⟩
 | _ => none
def ce195 : CE DD := ⟨195, fun x => [.i .i64 (x.Start), .i .i64 (x.Count)], ofc195, some (inferInstanceAs (DecidableEq api_Extent))⟩
theorem sc195 (a b : api_Extent) : (([.i .i64 (a.Start), .i .i64 (a.Count)] : List Sc) = [.i .i64 (b.Start), .i .i64 (b.Count)]) ↔ a = b := by
  cases a; cases b; simp
theorem ceOk195 : ce195.Ok where
  rdi := @fun H ρ cs x => ⟨fun h => by
    obtain h := (show Dt.rd (α := api_Extent) H cs x from h)
    subst h
    exact ⟨_, _, rfl, rfl, _, _, rfl, rfl, rfl⟩, fun h => by
    obtain ⟨v0, r0, e0, p0, v1, r1, e1, p1, e⟩ := h
    have e : r1 = [] := e
    subst e
    subst e1
    subst e0
    have p0 : v0 = _ := p0
    subst p0
    have p1 : v1 = _ := p1
    subst p1
    exact (show Dt.rd (α := api_Extent) H _ x from rfl)⟩
  cq := @fun l x h => by
    change ofc195 l = some x at h
    unfold ofc195 at h
    split at h
    · obtain ⟨v0, h0, h⟩ := bindS h
      obtain ⟨v1, h1, h⟩ := bindS h
      cases h
      exact ⟨_, _, rfl, xI_cq h0, _, _, rfl, xI_cq h1, rfl⟩
    · cases h
  eqc := fun d a b c1 c2 hd h1 h2 => by
    cases h1; cases h2
    exact sc195 a b
def ofc148 : List (SV DD) → Option (DD 148)
 | [a0] => (xS 195 a0).bind fun v0 => some v0
 | _ => none
def ce148 : CE DD := ⟨148, fun x => [.fsl 195 (x)], ofc148, none⟩
theorem ceOk148 : ce148.Ok where
  rdi := @fun H ρ cs x => ⟨fun h => by
    obtain ⟨A0, n0, c0, s0, h, h0⟩ := (show Dt.rd (α := List api_Extent) H cs x from h)
    subst h
    exact ⟨_, _, rfl, ⟨A0, n0, c0, s0, rfl, h0⟩, rfl⟩, fun h => by
    obtain ⟨v0, r0, e0, ⟨A0, n0, c0, s0, p0, h0⟩, e⟩ := h
    have e : r0 = [] := e
    subst e
    subst e0
    subst p0
    exact (show Dt.rd (α := List api_Extent) H _ x from ⟨A0, n0, c0, s0, rfl, h0⟩)⟩
  cq := @fun l x h => by
    change ofc148 l = some x at h
    unfold ofc148 at h
    split at h
    · obtain ⟨v0, h0, h⟩ := bindS h
      cases h
      exact ⟨_, _, rfl, xS_cq h0, rfl⟩
    · cases h
  eqc := fun d a b c1 c2 hd h1 h2 => by cases hd
def ofc77 : List (SV DD) → Option (DD 77)
 | [a0] => (xS 4 a0).bind fun v0 => some v0
 | _ => none
def ce77 : CE DD := ⟨77, fun x => [.fsl 4 (x)], ofc77, none⟩
theorem ceOk77 : ce77.Ok where
  rdi := @fun H ρ cs x => ⟨fun h => by
    obtain ⟨A0, n0, c0, s0, h, h0⟩ := (show Dt.rd (α := List Bool) H cs x from h)
    subst h
    exact ⟨_, _, rfl, ⟨A0, n0, c0, s0, rfl, h0⟩, rfl⟩, fun h => by
    obtain ⟨v0, r0, e0, ⟨A0, n0, c0, s0, p0, h0⟩, e⟩ := h
    have e : r0 = [] := e
    subst e
    subst e0
    subst p0
    exact (show Dt.rd (α := List Bool) H _ x from ⟨A0, n0, c0, s0, rfl, h0⟩)⟩
  cq := @fun l x h => by
    change ofc77 l = some x at h
    unfold ofc77 at h
    split at h
    · obtain ⟨v0, h0, h⟩ := bindS h
      cases h
      exact ⟨_, _, rfl, xS_cq h0, rfl⟩
    · cases h
  eqc := fun d a b c1 c2 hd h1 h2 => by cases hd
def tab : Tb DD := [ce4, ce3, ce130, ce70, ce25, ce22, ce23, ce30, ce68, ce39, ce38, ce5, ce52, ce29, ce79, ce186, ce198, ce222, ce151, ce195, ce148, ce77]
theorem tabOk : TbOk tab := ⟨ceOk4, ceOk3, ceOk130, ceOk70, ceOk25, ceOk22, ceOk23, ceOk30, ceOk68, ceOk39, ceOk38, ceOk5, ceOk52, ceOk29, ceOk79, ceOk186, ceOk198, ceOk222, ceOk151, ceOk195, ceOk148, ceOk77, trivial⟩
theorem rd3 : ReadsD Tryz.prog 3 (Int) := ReadsD.int Tryz.underlying3 (by kernel_rfl)
theorem rd22 : ReadsD Tryz.prog 22 (List Int) := ReadsD.slice Tryz.underlying22 (by kernel_rfl) rd3 (by decide)
theorem rd130 : ReadsD Tryz.prog 130 (Sec) := ReadsD.sec Tryz.underlying130 Tryz.underlying5 (by kernel_rfl) (by kernel_rfl)
theorem rd68 : ReadsD Tryz.prog 68 (List Sec) := ReadsD.slice Tryz.underlying68 (by kernel_rfl) rd130 (by decide)
instance rg_api_Write : Rg api_Write := ⟨fun x => Rg.rg x.Volume ∧ Rg.rg x.Start ∧ Rg.rg x.Data⟩
theorem rd70 : ReadsD Tryz.prog 70 (api_Write) := (@Reads.struct Tryz.prog 70 _ (Int × Int × List Sec × Unit) (@datProd _ _ (datD (Int)) (@datProd _ _ (datD (Int)) (@datProd _ _ (datD (List Sec)) datUnit))) Tryz.underlying70 (by kernel_rfl) (@Fields.cons _ _ _ _ _ _ (datD (Int)) _ rfl rd3 (@Fields.cons _ _ _ _ _ _ (datD (Int)) _ rfl rd3 (@Fields.cons _ _ _ _ _ _ (datD (List Sec)) _ rfl rd68 (.nil _))))).map rfl fun {H cs a} h => by
  obtain ⟨a0, a1, a2, _⟩ := a
  obtain ⟨_, _, rfl, ⟨rfl, r0⟩, _, _, rfl, ⟨rfl, r1⟩, _, _, rfl, ⟨⟨A3, n3, c3, s3, rfl, hF3⟩, r2⟩, hz⟩ := h
  cases hz
  exact ⟨⟨a0, a1, a2⟩, ⟨A3, n3, c3, s3, rfl, hF3⟩, r0, r1, r2⟩
theorem rd23 : ReadsD Tryz.prog 23 (List api_Write) := ReadsD.slice Tryz.underlying23 (by kernel_rfl) rd70 (by decide)
instance rg_api_Cycle : Rg api_Cycle := ⟨fun x => Rg.rg x.Base ∧ Rg.rg x.Number ∧ Rg.rg x.Time ∧ Rg.rg x.Positions ∧ Rg.rg x.Writes⟩
instance rg_api_Capture : Rg api_Capture := ⟨fun x => Rg.rg x.Number ∧ Rg.rg x.Sizes ∧ Rg.rg x.Positions ∧ Rg.rg x.Nodes ∧ Rg.rg x.Writes⟩
theorem rd25 : ReadsD Tryz.prog 25 (api_Capture) := (@Reads.struct Tryz.prog 25 _ (Int × List Int × List Int × List Int × List api_Write × Unit) (@datProd _ _ (datD (Int)) (@datProd _ _ (datD (List Int)) (@datProd _ _ (datD (List Int)) (@datProd _ _ (datD (List Int)) (@datProd _ _ (datD (List api_Write)) datUnit))))) Tryz.underlying25 (by kernel_rfl) (@Fields.cons _ _ _ _ _ _ (datD (Int)) _ rfl rd3 (@Fields.cons _ _ _ _ _ _ (datD (List Int)) _ rfl rd22 (@Fields.cons _ _ _ _ _ _ (datD (List Int)) _ rfl rd22 (@Fields.cons _ _ _ _ _ _ (datD (List Int)) _ rfl rd22 (@Fields.cons _ _ _ _ _ _ (datD (List api_Write)) _ rfl rd23 (.nil _))))))).map rfl fun {H cs a} h => by
  obtain ⟨a0, a1, a2, a3, a4, _⟩ := a
  obtain ⟨_, _, rfl, ⟨rfl, r0⟩, _, _, rfl, ⟨⟨A13, n13, c13, s13, rfl, hF13⟩, r1⟩, _, _, rfl, ⟨⟨A15, n15, c15, s15, rfl, hF15⟩, r2⟩, _, _, rfl, ⟨⟨A17, n17, c17, s17, rfl, hF17⟩, r3⟩, _, _, rfl, ⟨⟨A19, n19, c19, s19, rfl, hF19⟩, r4⟩, hz⟩ := h
  cases hz
  exact ⟨⟨a0, a1, a2, a3, a4⟩, ⟨A13, n13, c13, s13, A15, n15, c15, s15, A17, n17, c17, s17, A19, n19, c19, s19, rfl, hF13, hF15, hF17, hF19⟩, r0, r1, r2, r3, r4⟩
end Go.Proofs.YtbnfefbhalpceaaGreat
namespace Go.Proofs.YtbnfefbhalpceaaGreat
open Go.RowKit Go.ChangeShapes Go.WideShapes Go.ChangeAt
theorem Tryz.own : ownKnob Tryz.prog.godebug = none := by kernel_rfl
theorem Tryz.laidOut : laidOutB Tryz.prog = true := by kernel_rfl
theorem lawRes (y : TupD DD [4]) (hy : y.1 = true) {H : Hp} {v : Value} {L : List Ent} (hr : ResR Tryz.prog tab [4] [[false]] y H v L) : ∃ z, z = true ∧ v = .bool z ∧ L = [] := by
  obtain ⟨ρ, _, _, _, _, h1, h2⟩ := hr 0 (fun _ => none) (fun _ _ => rfl) _ _ _ (show resE Tryz.prog tab _ _ y 0 = some (.b y.1, [], 0) by kernel_rfl)
  exact ⟨y.1, hy, h1, h2⟩
theorem pkw25 (v : Value) (cs : List Value) : PkR Tryz.prog 25 v cs = (v = .agg cs.toArray) := by kernel_rfl
theorem pkw3 (v : Value) (cs : List Value) : PkR Tryz.prog 3 v cs = (cs = [v]) := by kernel_rfl
theorem pkw22 (v : Value) (cs : List Value) : PkR Tryz.prog 22 v cs = (cs = [v]) := by kernel_rfl
end Go.Proofs.YtbnfefbhalpceaaGreat
