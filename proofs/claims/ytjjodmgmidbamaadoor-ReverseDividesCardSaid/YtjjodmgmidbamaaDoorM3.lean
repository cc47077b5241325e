/- Part 3 of the proof of the statement ReverseDividesCardSaid: lemmas. No condition of its own. -/
import Derived.Lib.TrailingZeros
import Derived.SevenTiedAt
import Derived.Test.YtjjodmgmidbamaaDoorRows
import Derived.Test.YtjjodmgmidbamaaDoorTie
import Derived.Test.YtjjodmgmidbamaaDoorCards
import Derived.Test.YtjjodmgmidbamaaDoorM2
namespace Go.Proofs.YtjjodmgmidbamaaDoor
open Go.RowKit
section
structure PE where
  pos : List Nat
  fz : List Nat
  kp : List Nat
  tp : Tp
def eqL : List Nat → List Nat → Bool
  | [], [] => true
  | a :: l, b :: m => Nat.beq a b && eqL l m
  | _, _ => false
def CapsR {D : Nat → Type} [∀ t, Dt (D t)] (H : Hp) : (cs : List Nat) → TupD D cs → List Value → Prop
  | [], _, vs => vs = []
  | t :: r, x, vs => ∃ b us q, vs = .pointer (some ⟨b, 0, none⟩) :: q ∧ H b = some (.cells (us : List Value).toArray t (0, 0)) ∧ Dt.rd (α := D t) H us x.1 ∧ CapsR H r x.2 q
structure It (D : Nat → Type) where
  f : Nat
  cs : List Nat
  ts : List Nat
  W : TupD D cs → List (TupD D ts) → Prop
def It.Ok {D : Nat → Type} [∀ t, Dt (D t)] (P : Program) (G : Hp → Prop) (it : It D) : Prop := ∀ (x : TupD D it.cs) (l : List (TupD D it.ts)), it.W x l → ∀ (H : Hp) (lb : List Value), G H → CapsR H it.cs x lb → IterR P it.f lb H l.length fun k vs => ∃ y, l[k]? = some y ∧ ArgsR P H it.ts y vs
def ItsOk {D : Nat → Type} [∀ t, Dt (D t)] (P : Program) (G : Hp → Prop) : List (It D) → Prop
  | [] => True
  | c :: r => c.Ok P G ∧ ItsOk P G r
def findI {D : Nat → Type} (f : Nat) : List (It D) → Option (It D)
  | [] => none
  | c :: r => bif Nat.beq c.f f then some c else findI f r
theorem findI_ok {D : Nat → Type} [∀ t, Dt (D t)] {P : Program} {G : Hp → Prop} {f : Nat} {c : It D} : ∀ {l : List (It D)}, ItsOk P G l → findI f l = some c → c.Ok P G ∧ c.f = f
  | [], _, h => by cases h
  | d :: r, hk, h => by
    unfold findI at h
    cases hb : Nat.beq d.f f with
    | true => rw [hb] at h; cases h; exact ⟨hk.1, Nat.eq_of_beq_eq_true hb⟩
    | false => rw [hb] at h; exact findI_ok hk.2 h
structure Env (D : Nat → Type) where
  P : Program
  tb : Tb D
  cts : List (Ct D)
  plan : List PE
  its : List (It D)
  G : Hp → Prop
def CtsOk {D : Nat → Type} [∀ t, Dt (D t)] (P : Program) (tb : Tb D) (G : Hp → Prop) : List (Ct D) → Prop
  | [] => True
  | c :: r => c.Ok P tb G ∧ CtsOk P tb G r
structure Env.Ok {D : Nat → Type} [∀ t, Dt (D t)] (E : Env D) : Prop where
  tb : TbOk E.tb
  cts : CtsOk E.P E.tb E.G E.cts
  mo : E.P.follows .mixedOrders = true
  its : ItsOk E.P E.G E.its
  gm : GUp E.G
def entB (P : Program) (f : Nat) : Bool := match P.funcs[f]? with
  | some fn => !(fn.name == "runtime.NumGoroutine") && fn.body.isSome
  | none => false
theorem entB_ok {P : Program} {f : Nat} (h : entB P f = true) : Enters P f := by
  unfold entB at h
  split at h
  · rename_i fn hf
    rw [Bool.and_eq_true] at h
    obtain ⟨c, hc⟩ := Option.isSome_iff_exists.1 h.2
    exact enters_of hf (by simpa using h.1) hc
  · cases h
def findC {D : Nat → Type} (f : Nat) : List (Ct D) → Option (Ct D)
  | [] => none
  | c :: r => bif Nat.beq c.f f then some c else findC f r
theorem findC_ok {D : Nat → Type} [∀ t, Dt (D t)] {P : Program} {tb : Tb D} {G : Hp → Prop} {f : Nat} {c : Ct D} : ∀ {l : List (Ct D)}, CtsOk P tb G l → findC f l = some c → c.Ok P tb G ∧ c.f = f
  | [], _, h => by cases h
  | d :: r, hk, h => by
    unfold findC at h
    cases hb : Nat.beq d.f f with
    | true => rw [hb] at h; cases h; exact ⟨hk.1, Nat.eq_of_beq_eq_true hb⟩
    | false => rw [hb] at h; exact findC_ok hk.2 h
section
variable {D : Nat → Type} [∀ t, Dt (D t)]
abbrev AndL : List Prop → Prop → Prop
  | [], X => X
  | g :: r, X => g ∧ AndL r X
theorem AndL_ok : ∀ {gs : List Prop} {X : Prop}, AndL gs X → AllP gs ∧ X
  | [], _, h => ⟨trivial, h⟩
  | _ :: _, _, ⟨h1, h2⟩ => ⟨⟨h1, (AndL_ok h2).1⟩, (AndL_ok h2).2⟩
abbrev askF (v : SV D) (a b : Prop) : Prop := match v with
  | .b x => (x = true → a) ∧ (¬ x = true → b)
  | .p p _ => (p → a) ∧ (¬ p → b)
  | _ => False
theorem askF_ok {H : Hp} {ρ : RM} {x : Value} {v : SV D} {a b : Prop} (hx : Rv H ρ x v) (h : askF v a b) : (x = .bool true ∧ a) ∨ (x = .bool false ∧ b) := by
  unfold askF at h
  split at h
  · rename_i y
    cases y with
    | true => exact .inl ⟨hx, h.1 rfl⟩
    | false => exact .inr ⟨hx, h.2 (by simp)⟩
  · rename_i p d
    by_cases hp : p
    · exact .inl ⟨(show x = _ from hx).trans (by rw [decide_eq_true hp]), h.1 hp⟩
    · exact .inr ⟨(show x = _ from hx).trans (by rw [decide_eq_false hp]), h.2 hp⟩
  · exact h.elim
def St.know (st : St D) (c : Operand) (b : Bool) : St D := match c with
  | .tmp t => ⟨setS st.sl t (.k b), st.bk, st.kn, st.nx⟩
  | _ => st
theorem Sat.know {fr : List (Nat × Blk D)} {F : List Ent} {w0 w : World} {H0 H : Hp} {R : List Ent} {ρ : RM} {L : List Ent} {st : St D} {σ : Nat → Value} (hs : Sat fr F w0 H0 R H ρ L st σ w) {c : Operand} {b : Bool} (hc : ev σ c = .bool b) : Sat fr F w0 H0 R H ρ L (st.know c b) σ w := by
  unfold St.know
  split
  · rename_i t
    refine ⟨hs.mem, fun u v hu => ?_, hs.bk, hs.fr, hs.kn, hs.nx⟩
    have hu : getS (setS st.sl t (.k b)) u = some v := hu
    rw [getS_setS] at hu
    cases hb : Nat.beq u t with
    | true =>
      rw [hb] at hu
      cases hu
      obtain rfl := Nat.eq_of_beq_eq_true hb
      exact hc
    | false => rw [hb] at hu; exact hs.sl u v hu
  · exact hs
inductive Gd (D : Nat → Type) where
  | yes | no | bad
  | ask (t : Nat) (v : SV D) (want : Bool)
def isBoolV : Value → Bool
  | .bool _ => true
  | _ => false
def gdE (ops : Array Oper) (st : St D) (gd : Option (Nat × Bool)) : Gd D := match gd with
  | none => .yes
  | some (j, want) => match (ops[j]?).bind (·.dst) with
    | none => .no
    | some d => match (getS st.sl d).map (res st.kn) with
      | some (.k b) => bif b == want then .yes else .no
      | some (.c v) => bif isBoolV v then .bad else .no
      | some (.b x) => .ask d (.b x) want
      | some (.p p i) => .ask d (.p p i) want
      | _ => .bad
abbrev CallI (D : Nat → Type) := Nat → List (SV D) → St D → List (Nat × Blk D) → List Nat → (SV D → St D → Prop) → Prop
def CallOk (P : Program) (G : Hp → Prop) (cI : CallI D) : Prop := ∀ (f : Nat) (vs : List (SV D)) (st : St D) (fr : List (Nat × Blk D)) (pos : List Nat) (K : SV D → St D → Prop) (F : List Ent) (w0 : World) (H0 : Hp) (R : List Ent) (H : Hp) (ρ : RM) (L : List Ent) (σ : Nat → Value) (w : World) (xs : List Value),
  cI f vs st fr pos K → G H0 → Sat fr F w0 H0 R H ρ L st σ w → RvL H ρ xs vs → Enters P f ∧ Calls P f xs.toArray w fun e w' => ∃ v, e = .returned v ∧ ∃ s st', K s st' ∧ Out fr F w0 H0 R H ρ (fun _ => undef) ⟨[], st'.bk, st'.kn, st'.nx⟩ s v w'
def callE (E : Env D) (cI : CallI D) (fr : List (Nat × Blk D)) (pos : List Nat) (g : Operand) (xs : List Operand) (d : Option Nat) (st : St D) (K : St D → Prop) : Prop := match (evO st.sl g).map (res st.kn) with
  | some (.fn f caps) => match findC f E.cts, caps with
    | some c, [] => cdP (entB E.P f) (ctF E.P E.tb c st fr xs fun s st' => K (st'.put d s)) False
    | _, _ => match mapO (evO st.sl) xs with
      | some vs => cI f (vs ++ caps) st fr pos fun s st' => K ⟨putS st.sl d s, st'.bk, st'.kn, st'.nx⟩
      | none => False
  | _ => False
def stepE (E : Env D) (cI : CallI D) (fr : List (Nat × Blk D)) (pos : List Nat) (o : Oper) (st : St D) (K : St D → Prop) : Prop := match o.op with
  | .move x => match evO st.sl x with
    | some v => K (st.put o.dst v)
    | none => False
  | .assign x => match evO st.sl x with
    | some v => K (st.put o.dst v)
    | none => False
  | .pick c a b => match (evO st.sl c).map (res st.kn), evO st.sl a, evO st.sl b with
    | some (.k true), some v, _ => K (st.put o.dst v)
    | some (.k false), _, some v => K (st.put o.dst v)
    | some s, some v, some u => askF s (K ((st.know c true).put o.dst v)) (K ((st.know c false).put o.dst u))
    | _, _, _ => False
  | .call ⟨.value g, xs, _⟩ => callE E cI fr pos g xs.toList o.dst st K
  | op => cdP (isDefer op) False <| match opVals st fr op with
    | some vs0 => match opVals (st.frzL (prepIds op vs0)) fr op with
      | some vs => match nqE E.P op ((st.frzL (prepIds op vs0)).lk fr) vs with
        | some (p, b) => (p → K ((st.frzL (prepIds op vs0)).put o.dst (.k b))) ∧ K ((st.frzL (prepIds op vs0)).put o.dst (.k (!b)))
        | none => match opE E.P E.tb (st.frzL (prepIds op vs0)) fr op vs with
          | some (gs, v, st') => AndL gs (K (st'.put o.dst v))
          | none => False
      | none => False
    | none => False
def runR (E : Env D) (cI : CallI D) (N : Nat) (fr : List (Nat × Blk D)) (pos : List Nat) (ops : Array Oper) : Nat → List Oper → St D → (St D → Prop) → Prop
  | _, [], st, K => K st
  | i, o :: l, st, K => cdP (dstOk o.dst N) (match gdE ops st o.guard with
    | .yes => stepE E cI fr ((10 + i) :: pos) o st fun st' => runR E cI N fr pos ops (i + 1) l st' K
    | .no => runR E cI N fr pos ops (i + 1) l (st.put o.dst (.c undef)) K
    | .ask t v want => askF v
        (cdP want (stepE E cI fr ((10 + i) :: pos) o (st.know (.tmp t) true) (fun st' => runR E cI N fr pos ops (i + 1) l st' K)) (runR E cI N fr pos ops (i + 1) l ((st.know (.tmp t) true).put o.dst (.c undef)) K))
        (cdP want (runR E cI N fr pos ops (i + 1) l ((st.know (.tmp t) false).put o.dst (.c undef)) K) (stepE E cI fr ((10 + i) :: pos) o (st.know (.tmp t) false) fun st' => runR E cI N fr pos ops (i + 1) l st' K))
    | .bad => False) False
variable {E : Env D} {cI : CallI D} {fr : List (Nat × Blk D)} {F : List Ent} {w0 w : World} {H0 H : Hp} {R : List Ent} {ρ : RM} {L : List Ent} {st : St D} {σ : Nat → Value}
def Goes (fr : List (Nat × Blk D)) (F : List Ent) (w0 : World) (H0 : Hp) (R : List Ent) (H : Hp) (ρ : RM) (K : St D → Prop) (T : (Nat → Value) → World → Prop) : Prop := ∀ st' σ' w' H' ρ' L', K st' → H.le H' → RM.le ρ ρ' → Sat fr F w0 H0 R H' ρ' L' st' σ' w' → T σ' w'
theorem Goes.mono {H' : Hp} {ρ' : RM} {K : St D → Prop} {T : (Nat → Value) → World → Prop} (h : Goes fr F w0 H0 R H ρ K T) (hH : H.le H') (hρ : RM.le ρ ρ') : Goes fr F w0 H0 R H' ρ' K T := fun st σ w H2 ρ2 L hk h1 h2 hs => h st σ w H2 ρ2 L hk (hH.trans h1) (hρ.trans h2) hs
theorem Goes.go {K : St D → Prop} {T : (Nat → Value) → World → Prop} (h : Goes fr F w0 H0 R H ρ K T) (hk : K st) (hs : Sat fr F w0 H0 R H ρ L st σ w) : T σ w := h _ _ _ _ _ _ hk (Hp.le.refl _) (RM.le.refl _) hs
theorem mapEv_ok (hs : Sat fr F w0 H0 R H ρ L st σ w) : ∀ {xs : List Operand} {vs : List (SV D)}, mapO (evO st.sl) xs = some vs → RvL H ρ (xs.map (ev σ)) vs
  | [], vs, h => by cases h; rfl
  | x :: r, vs, h => by
    unfold mapO at h
    split at h
    · cases h
    · rename_i y hy
      split at h
      · cases h
      · rename_i l hl
        cases h
        exact ⟨_, _, rfl, evO_ok hs.sl hy, mapEv_ok hs hl⟩
theorem Out.put {v : SV D} {x : Value} (h : Out fr F w0 H0 R H ρ σ st v x w) (d : Option Nat) {K : St D → Prop} {T : (Nat → Value) → World → Prop} (hg : Goes fr F w0 H0 R H ρ K T) (hk : K (st.put d v)) : T (upd σ d x) w := by
  obtain ⟨H', ρ', L, h1, h2, h3, h4⟩ := h
  exact hg _ _ _ _ _ _ hk h1 h2 (h3.put h4 d)
theorem callE_ok (hE : E.Ok) (h0 : E.G H0) (hI : CallOk E.P E.G cI) {pos : List Nat} {g : Operand} {xs : Array Operand} {tys : Array TypeId} {d : Option Tmp} {ty : TypeId} {ps : String} {af : Array Edge} {gd : Option (Nat × Bool)} {K : St D → Prop} {r : Option Nat} {md N : Nat} {ops : Array Oper} {l : List Oper} {Q : Exit → List Deferred → (Nat → Value) → World → Prop} {Dd : List Deferred} (hs : Sat fr F w0 H0 R H ρ L st σ w) (h : callE E cI fr pos g xs.toList d st K)
    (hg : gdOk ops σ gd = true) (hd : dstOk d N = true) (k : Goes fr F w0 H0 R H ρ K fun σ' w' => RW r md E.P N ops l Q Dd σ' w') : RW r md E.P N ops (⟨d, .call ⟨.value g, xs, tys⟩, ty, ps, af, gd⟩ :: l) Q Dd σ w := by
  unfold callE at h
  split at h
  · rename_i f caps hf
    obtain ⟨v0, hv0, hv1⟩ := Option.map_eq_some_iff.1 hf
    have hv2 := hs.res (evO_ok hs.sl hv0)
    rw [hv1] at hv2
    obtain ⟨cs, e1, e2⟩ := hv2
    split at h
    · rename_i c hc
      obtain ⟨hen, h2⟩ := cifP h
      obtain ⟨hok, hcf⟩ := findC_ok hE.cts hc
      subst hcf
      obtain rfl : cs = [] := e2
      refine ctF_ok hE.tb hE.gm h0 hs hok (entB_ok hen) e1 h2 hg hd fun x w' ⟨s, st', hk, h1, h2, ho⟩ => ho.out.put d k hk
    · split at h
      · rename_i vs hvs
        have hA := (mapEv_ok hs hvs).append e2
        obtain ⟨hen, hcalls⟩ := hI f _ st fr pos _ F w0 H0 R H ρ L σ w _ h h0 hs hA
        refine RW.enter hen e1 (by simp) hg hd (hcalls.mono fun e w' ⟨v, h1, h2⟩ => ⟨v, h1, (h2 : (fun v w' => ∃ (s : SV D) (st' : St D), K ⟨putS st.sl d s, st'.bk, st'.kn, st'.nx⟩ ∧ Out fr F w0 H0 R H ρ (fun _ => undef) ⟨[], st'.bk, st'.kn, st'.nx⟩ s v w') v w')⟩) fun v w' ⟨s, st', hk, H', ρ', L', h1, h2, h3, h4⟩ => ?_
        exact k _ _ _ _ _ _ hk h1 h2 ⟨h3.mem, (hs.sl.mono h1 h2).put h4 d, h3.bk, h3.fr, h3.kn, h3.nx⟩
      · exact h.elim
  · exact h.elim
theorem stepE_ok (hE : E.Ok) (h0 : E.G H0) (hI : CallOk E.P E.G cI) {pos : List Nat} {o : Oper} {K : St D → Prop} {r : Option Nat} {md N : Nat} {ops : Array Oper} {l : List Oper} {Q : Exit → List Deferred → (Nat → Value) → World → Prop} {Dd : List Deferred} (hs : Sat fr F w0 H0 R H ρ L st σ w) (h : stepE E cI fr pos o st K)
    (hg : gdOk ops σ o.guard = true) (hd : dstOk o.dst N = true) (k : Goes fr F w0 H0 R H ρ K fun σ' w' => RW r md E.P N ops l Q Dd σ' w') : RW r md E.P N ops (o :: l) Q Dd σ w := by
  obtain ⟨d, op, ty, ps, af, gd⟩ := o
  unfold stepE at h
  split at h
  · rename_i x hop
    have hop : op = .move x := hop
    subst hop
    split at h
    · rename_i v hv
      exact RW.step (Ex.move _ rfl) rfl hg hd (k.go h (hs.put (evO_ok hs.sl hv) d))
    · exact h.elim
  · rename_i x hop
    have hop : op = .assign x := hop
    subst hop
    split at h
    · rename_i v hv
      exact RW.step (Ex.assign _ rfl) rfl hg hd (k.go h (hs.put (evO_ok hs.sl hv) d))
    · exact h.elim
  · rename_i c a b hop
    have hop : op = .pick c a b := hop
    subst hop
    split at h
    · rename_i v hc ha
      obtain ⟨v0, hv0, hv1⟩ := Option.map_eq_some_iff.1 hc
      have hv2 := hs.res (evO_ok hs.sl hv0)
      rw [hv1] at hv2
      exact RW.step (Ex.pickT _ hv2 rfl) rfl hg hd (k.go h (hs.put (evO_ok hs.sl ha) d))
    · rename_i v hc hb
      obtain ⟨v0, hv0, hv1⟩ := Option.map_eq_some_iff.1 hc
      have hv2 := hs.res (evO_ok hs.sl hv0)
      rw [hv1] at hv2
      exact RW.step (Ex.pickF _ hv2 rfl) rfl hg hd (k.go h (hs.put (evO_ok hs.sl hb) d))
    · rename_i s v u hc ha hb
      obtain ⟨v0, hv0, hv1⟩ := Option.map_eq_some_iff.1 hc
      have hv2 := hs.res (evO_ok hs.sl hv0)
      rw [hv1] at hv2
      rcases askF_ok hv2 h with ⟨e, h⟩ | ⟨e, h⟩
      · exact RW.step (Ex.pickT _ e rfl) rfl hg hd (k.go h ((hs.know e).put (evO_ok hs.sl ha) d))
      · exact RW.step (Ex.pickF _ e rfl) rfl hg hd (k.go h ((hs.know e).put (evO_ok hs.sl hb) d))
    · exact h.elim
  · rename_i g xs tys hop
    have hop : op = .call ⟨.value g, xs, tys⟩ := hop
    subst hop
    exact callE_ok hE h0 hI hs h hg hd k
  · cases hdf : isDefer op with
    | true => rw [hdf] at h; exact (show False from h).elim
    | false =>
      rw [hdf, cdP_false] at h
      split at h
      · rename_i vs0 hvs0
        split at h
        · rename_i vs hvs
          obtain ⟨H1, L1, hle1, hs1⟩ := hs.frzL (prepIds op vs0)
          have hV := opVals_ok hs1 hvs
          split at h
          · rename_i p b hq
            obtain ⟨z, hz1, hz2⟩ := nqE_ok (ty := ty) hs1 hV hq
            refine RW.step hz1 hdf hg hd ?_
            by_cases hzb : z = b
            · exact k _ _ _ _ _ _ (h.1 (hz2 hzb)) hle1 (RM.le.refl _) (hs1.put (v := .k b) (by rw [hzb]; rfl) d)
            · have : z = !b := by cases z <;> cases b <;> simp_all
              exact k _ _ _ _ _ _ h.2 hle1 (RM.le.refl _) (hs1.put (v := .k (!b)) (by rw [this]; rfl) d)
          · split at h
            · rename_i gs v st' ho
              obtain ⟨hgs, hk⟩ := AndL_ok h
              refine opE_ok (ty := ty) hE.tb hs1 hdf hV ho hgs hg hd fun x w' ho' => ho'.out.put d (k.mono hle1 (RM.le.refl _)) hk
            · exact h.elim
        · exact h.elim
      · exact h.elim
theorem runR_ok (hE : E.Ok) (h0 : E.G H0) (hI : CallOk E.P E.G cI) {pos : List Nat} {r : Option Nat} {md N : Nat} {ops : Array Oper} {Q : Exit → List Deferred → (Nat → Value) → World → Prop} {Dd : List Deferred} {K : St D → Prop} : ∀ {l : List Oper} {i : Nat} {st : St D} {H : Hp} {ρ : RM} {L : List Ent} {σ : Nat → Value} {w : World}, Sat fr F w0 H0 R H ρ L st σ w → runR E cI N fr pos ops i l st K → Goes fr F w0 H0 R H ρ K (fun σ' w' => Q .normal Dd σ' w') → RW r md E.P N ops l Q Dd σ w
  | [], i, st, H, ρ, L, σ, w, hs, h, k => RW.nil (k.go h hs)
  | o :: l, i, st, H, ρ, L, σ, w, hs, h, k => by
    unfold runR at h
    obtain ⟨hd, h⟩ := cifP h
    have rest : ∀ {st' : St D} {σ' : Nat → Value} {w' : World} {H' : Hp} {ρ' : RM} {L' : List Ent}, runR E cI N fr pos ops (i + 1) l st' K → H.le H' → RM.le ρ ρ' → Sat fr F w0 H0 R H' ρ' L' st' σ' w' → RW r md E.P N ops l Q Dd σ' w' := fun h1 h2 h3 h4 => runR_ok hE h0 hI h4 h1 (k.mono h2 h3)
    have pass : ∀ {st : St D}, Sat fr F w0 H0 R H ρ L st σ w → gdOk ops σ o.guard = false → runR E cI N fr pos ops (i + 1) l (st.put o.dst (.c undef)) K → RW r md E.P N ops (o :: l) Q Dd σ w := fun hs hgf h => by
      obtain ⟨d, op, ty, ps, af, gd⟩ := o
      exact RW.pass hgf hd (rest h (Hp.le.refl _) (RM.le.refl _) (hs.putU d))
    have step : ∀ {st : St D}, Sat fr F w0 H0 R H ρ L st σ w → gdOk ops σ o.guard = true → stepE E cI fr ((10 + i) :: pos) o st (fun st' => runR E cI N fr pos ops (i + 1) l st' K) → RW r md E.P N ops (o :: l) Q Dd σ w := fun hs hgt h => stepE_ok hE h0 hI hs h hgt hd fun st' σ' w' H' ρ' L' h1 h2 h3 h4 => rest h1 h2 h3 h4
    have gok : ∀ {j want d} {x : Bool}, o.guard = some (j, want) → (ops[j]?).bind (·.dst) = some d → σ d = .bool x → gdOk ops σ o.guard = (x == want) := fun h1 h2 h3 => by
      unfold gdOk
      rw [h1]
      simp only [h2, h3]
    unfold gdE at h
    cases hgd : o.guard with
    | none =>
      simp only [hgd] at h
      exact step hs (by rw [hgd]; rfl) h
    | some jw =>
      obtain ⟨j, want⟩ := jw
      simp only [hgd] at h
      cases hj : (ops[j]?).bind (·.dst) with
      | none =>
        simp only [hj] at h
        refine pass hs ?_ h
        unfold gdOk
        rw [hgd]
        simp only [hj]
      | some d =>
        simp only [hj] at h
        cases hsl : (getS st.sl d).map (res st.kn) with
        | none => simp only [hsl] at h
        | some s =>
          obtain ⟨v0, hv0, hv1⟩ := Option.map_eq_some_iff.1 hsl
          have hv2 := hs.res (hs.sl _ _ hv0)
          rw [hv1] at hv2
          simp only [hsl] at h
          have ask : ∀ {v : SV D}, Rv H ρ (σ d) v → askF v (cdP want (stepE E cI fr ((10 + i) :: pos) o (st.know (.tmp d) true) (fun st' => runR E cI N fr pos ops (i + 1) l st' K)) (runR E cI N fr pos ops (i + 1) l ((st.know (.tmp d) true).put o.dst (.c undef)) K))
              (cdP want (runR E cI N fr pos ops (i + 1) l ((st.know (.tmp d) false).put o.dst (.c undef)) K) (stepE E cI fr ((10 + i) :: pos) o (st.know (.tmp d) false) fun st' => runR E cI N fr pos ops (i + 1) l st' K)) → RW r md E.P N ops (o :: l) Q Dd σ w := fun hv h => by
            rcases askF_ok hv h with ⟨e, h⟩ | ⟨e, h⟩
            · have hk := hs.know (c := .tmp d) (b := true) e
              have hgg := gok hgd hj e
              cases want with
              | true => exact step hk hgg h
              | false => exact pass hk hgg h
            · have hk := hs.know (c := .tmp d) (b := false) e
              have hgg := gok hgd hj e
              cases want with
              | true => exact pass hk hgg h
              | false => exact step hk hgg h
          cases s with
          | k b =>
            simp only at h
            have hgg := gok hgd hj (show σ d = .bool b from hv2)
            cases hb : b == want with
            | true => rw [hb] at h; exact step hs (hgg.trans hb) h
            | false => rw [hb] at h; exact pass hs (hgg.trans hb) h
          | c v =>
            simp only at h
            cases hb : isBoolV v with
            | true => rw [hb] at h; exact h.elim
            | false =>
              rw [hb] at h
              refine pass hs ?_ h
              unfold gdOk
              rw [hgd]
              simp only [hj, show σ d = v from hv2]
              cases v <;> first | rfl | cases hb
          | b x => exact ask hv2 h
          | p p i => exact ask hv2 h
          | _ => exact h.elim
end
end
section
section
variable {D : Nat → Type} [∀ t, Dt (D t)]
mutual
def lowV (n : Nat) : SV D → Bool
  | .ptr id _ => Nat.blt id n
  | .own id => Nat.blt id n
  | .oel id _ _ _ => Nat.blt id n
  | .vw id _ _ => Nat.blt id n
  | .kp id => Nat.blt id n
  | .agg l => lowL n l
  | .tup l => lowL n l
  | .fn _ l => lowL n l
  | _ => true
def lowL (n : Nat) : List (SV D) → Bool
  | [] => true
  | v :: r => lowV n v && lowL n r
end
theorem blt_lt {a b : Nat} (h : Nat.blt a b = true) : a < b := by simpa [Nat.blt_eq] using h
mutual
theorem lowV_ok {H : Hp} {ρ ρ' : RM} {n : Nat} (hl : ∀ id, id < n → ρ' id = ρ id) : ∀ (s : SV D) {x : Value}, lowV n s = true → Rv H ρ x s → Rv H ρ' x s
  | .i _ _, _, _, h => h
  | .w _, _, _, h => h
  | .y _, _, _, h => h
  | .k _, _, _, h => h
  | .b _, _, _, h => h
  | .p _ _, _, _, h => h
  | .c _, _, _, h => h
  | .nil, _, _, h => h
  | .ptr id off, _, hn, ⟨b, h1, h2⟩ => ⟨b, (hl _ (blt_lt hn)).trans h1, h2⟩
  | .fsl _ _, _, _, h => h
  | .own id, _, hn, ⟨A, n, c, h1, h2⟩ => ⟨A, n, c, (hl _ (blt_lt hn)).trans h1, h2⟩
  | .fel _ _ _ _, _, _, h => h
  | .oel id _ _ _, _, hn, ⟨A, n, c, h1, h2⟩ => ⟨A, n, c, (hl _ (blt_lt hn)).trans h1, h2⟩
  | .agg l, _, hn, ⟨vs, h1, h2⟩ => ⟨vs, h1, lowL_ok hl l (by simpa [lowV] using hn) h2⟩
  | .tup l, _, hn, ⟨vs, h1, h2⟩ => ⟨vs, h1, lowL_ok hl l (by simpa [lowV] using hn) h2⟩
  | .fn _ l, _, hn, ⟨vs, h1, h2⟩ => ⟨vs, h1, lowL_ok hl l (by simpa [lowV] using hn) h2⟩
  | .kp id, _, hn, h => (hl _ (blt_lt hn)).trans h
  | .vw id _ _, _, hn, ⟨A, n, c, A', n', c', h1, h2⟩ => ⟨A, n, c, A', n', c', (hl _ (blt_lt hn)).trans h1, h2⟩
theorem lowL_ok {H : Hp} {ρ ρ' : RM} {n : Nat} (hl : ∀ id, id < n → ρ' id = ρ id) : ∀ (l : List (SV D)) {vs : List Value}, lowL n l = true → RvL H ρ vs l → RvL H ρ' vs l
  | [], _, _, h => h
  | s :: l, _, hn, ⟨v, r, h1, h2, h3⟩ => by
    have hn : lowV n s = true ∧ lowL n l = true := by simpa [lowL, Bool.and_eq_true] using hn
    exact ⟨v, r, h1, lowV_ok hl s hn.1 h2, lowL_ok hl l hn.2 h3⟩
end
def lowB (n : Nat) : Blk D → Bool
  | .box _ cs => lowL n cs
  | .fbx _ cs => lowL n cs
  | _ => true
def lowK (n : Nat) : List (Nat × Blk D) → Bool
  | [] => true
  | (id, b) :: r => Nat.blt id n && (lowB n b && lowK n r)
theorem lowK_ok {H : Hp} {ρ ρ' : RM} {n : Nat} (hl : ∀ id, id < n → ρ' id = ρ id) : ∀ {bk : List (Nat × Blk D)} {L : List Ent}, lowK n bk = true → BkR H ρ bk L → BkR H ρ' bk L
  | [], _, _, h => h
  | (id, b) :: r, _, hn, ⟨S, L', h1, h2, h3⟩ => by
    simp only [lowK, Bool.and_eq_true] at hn
    obtain ⟨g1, g2, g3⟩ := hn
    have e := hl id (blt_lt g1)
    refine ⟨S, L', h1, ?_, lowK_ok hl g3 h3⟩
    cases b with
    | box T cs => obtain ⟨b, vs, k1, k2, k3⟩ := h2; exact ⟨b, vs, e.trans k1, k2, lowL_ok hl cs g2 k3⟩
    | row e' xs => obtain ⟨A, m, c, s, k1, k2⟩ := h2; exact ⟨A, m, c, s, e.trans k1, k2⟩
    | frz e' xs => obtain ⟨k0, A, m, c, s, k1, k2⟩ := h2; exact ⟨k0, A, m, c, s, e.trans k1, k2⟩
    | fbx T cs => obtain ⟨k0, b, vs, k1, k2, k3⟩ := h2; exact ⟨k0, b, vs, e.trans k1, k2, lowL_ok hl cs g2 k3⟩
def lowS (n : Nat) : List (Nat × SV D) → Bool
  | [] => true
  | (_, v) :: r => lowV n v && lowS n r
theorem lowS_ok {H : Hp} {ρ ρ' : RM} {n : Nat} (hl : ∀ id, id < n → ρ' id = ρ id) : ∀ {l : List (Nat × SV D)} {σ : Nat → Value}, lowS n l = true → SlR H ρ l σ → SlR H ρ' l σ := by
  intro l
  induction l with
  | nil => intro σ _ _ t v h; cases h
  | cons p r ih =>
    obtain ⟨t0, v0⟩ := p
    intro σ hn hs t v hg
    simp only [lowS, Bool.and_eq_true] at hn
    unfold getS at hg
    cases hb : Nat.beq t t0 with
    | true =>
      rw [hb] at hg
      cases hg
      exact lowV_ok hl v0 hn.1 (hs t v0 (by unfold getS; rw [hb]; rfl))
    | false =>
      rw [hb] at hg
      have hlow : ∀ {l : List (Nat × SV D)} {v : SV D}, lowS n l = true → getS l t = some v → lowV n v = true := by
        intro l
        induction l with
        | nil => intro v _ h; cases h
        | cons q s ih2 =>
          obtain ⟨a, b⟩ := q
          intro v hl h
          simp only [lowS, Bool.and_eq_true] at hl
          unfold getS at h
          cases hc : Nat.beq t a with
          | true => rw [hc] at h; cases h; exact hl.1
          | false => rw [hc] at h; exact ih2 hl.2 h
      exact lowV_ok hl v (hlow hn.2 hg) (hs t v (by unfold getS; rw [hb]; exact hg))
structure Rc (D : Nat → Type) where
  sl : List (Nat × SV D)
  us : List Nat
  bi : List (Nat × Blk D)
  eat : Bool
  lo : Nat
  hi : Nat
  u : SV D
  kv : Option Bool
  g : Bool
  nb : List (Nat × Blk D)
def Quiet (P : Program) (G : Hp → Prop) (fr : List (Nat × Blk D)) (kn : List (Nat × SV D)) (ops : Array Oper) (o : Oper) (rc : Rc D) : Prop :=
  ∀ {F : List Ent} {w0 w : World} {H0 H : Hp} {R : List Ent} {ρ : RM} {L : List Ent} {σ : Nat → Value} {r : Option Nat} {md N : Nat} {Q : Exit → List Deferred → (Nat → Value) → World → Prop} {Dd : List Deferred}, G H0 → Sat fr F w0 H0 R H ρ L ⟨rc.sl, rc.bi, kn, rc.lo⟩ σ w → gdOk ops σ o.guard = rc.g → dstOk o.dst N = true →
    (∀ x w', (∀ M, Mem w0 H0 w H M → Mem w0 H0 w' H M) → Rv H ρ x rc.u → RW r md P N ops [] Q Dd (upd σ o.dst x) w') → RW r md P N ops [o] Q Dd σ w
def Takes (P : Program) (G : Hp → Prop) (fr : List (Nat × Blk D)) (kn : List (Nat × SV D)) (ops : Array Oper) (o : Oper) (rc : Rc D) : Prop :=
  ∀ {F : List Ent} {w0 w : World} {H0 H : Hp} {R : List Ent} {ρ : RM} {L : List Ent} {σ : Nat → Value} {r : Option Nat} {md N : Nat} {Q : Exit → List Deferred → (Nat → Value) → World → Prop} {Dd : List Deferred}, G H0 → Sat fr F w0 H0 R H ρ L ⟨rc.sl, rc.bi, kn, rc.lo⟩ σ w → gdOk ops σ o.guard = rc.g → dstOk o.dst N = true →
    (∀ x w', OutN rc.lo fr F w0 H0 R H ρ (fun _ => undef) ⟨[], rc.nb, kn, rc.hi⟩ rc.u x w' → RW r md P N ops [] Q Dd (upd σ o.dst x) w') → RW r md P N ops [o] Q Dd σ w
def rch (ops : Array Oper) : Nat → Nat → Nat → Bool
  | 0, _, _ => false
  | f + 1, i, j => hasEdge ops i j || (List.range i).any fun k => Nat.blt j k && (hasEdge ops i k && rch ops f k j)
def done (ls : Array Bool) (i : Nat) : Prop := ls.getD i false = true
theorem rch_ok {ops : Array Oper} {ls : Array Bool} (hcl : ∀ i j, done ls i → hasEdge ops i j = true → done ls j) : ∀ (f i j : Nat), rch ops f i j = true → done ls i → done ls j
  | 0, _, _, h, _ => by cases h
  | f + 1, i, j, h, hi => by
    simp only [rch, Bool.or_eq_true, List.any_eq_true, Bool.and_eq_true] at h
    rcases h with h | ⟨k, _, _, h1, h2⟩
    · exact hcl i j hi h
    · exact rch_ok hcl f k j h2 (hcl i k hi h1)
def nbU (recs : List (Rc D)) (bk : List (Nat × Blk D)) (n u : Nat) : List (Nat × Blk D) := bif Nat.blt u n then (match recs[u]? with
    | some r => r.nb
    | none => []) else (match bk[u - n]? with
    | some q => [q]
    | none => [])
def eatsU (recs : List (Rc D)) (k u : Nat) : Bool := match recs[k]? with
  | some r => r.eat && r.us.any (Nat.beq u)
  | none => false
def nodupN : List Nat → Bool
  | [] => true
  | a :: l => !(l.any (Nat.beq a)) && nodupN l
def chkU (ops : Array Oper) (n b : Nat) (recs : List (Rc D)) (i : Nat) (r : Rc D) : Bool := nodupN r.us && r.us.all fun u => Nat.blt u (n + b) && ((!(Nat.blt u n) || rch ops 40 i u) && (List.range n).all fun k => !(eatsU recs k u) || (Nat.beq k i || rch ops 40 k i))
def chkE (ops : Array Oper) (N : Nat) : Bool := ((List.range ops.size).all fun i => match ops[i]? with
    | some o => (o.after.all fun e => !(Region.binds .any e) || Nat.blt e.on i) && dstOk o.dst N
    | none => true) && (List.range ops.size).all fun i => (List.range ops.size).all fun j => Nat.beq i j || !(sameB ops i j)
def chkR (ops : Array Oper) (n b : Nat) (recs : List (Rc D)) : Nat → List (Rc D) → Bool
  | _, [] => true
  | i, r :: l => chkU ops n b recs i r && chkR ops n b recs (i + 1) l
omit [∀ t, Dt (D t)] in
theorem chkR_ok {ops : Array Oper} {n b : Nat} {recs : List (Rc D)} : ∀ {l : List (Rc D)} {i j : Nat} {r : Rc D}, chkR ops n b recs i l = true → l[j]? = some r → chkU ops n b recs (i + j) r = true
  | [], _, _, _, _, h => by cases h
  | q :: l, i, 0, r, h, hj => by
    simp only [chkR, Bool.and_eq_true] at h
    cases hj
    exact h.1
  | q :: l, i, j + 1, r, h, hj => by
    simp only [chkR, Bool.and_eq_true] at h
    have := chkR_ok h.2 (j := j) (by simpa using hj)
    rw [show i + (j + 1) = i + 1 + j by omega]
    exact this
def chain : Nat → List (Rc D) → Nat → Bool
  | n, [], m => Nat.beq n m
  | n, r :: l, m => Nat.beq n r.lo && (Nat.ble r.lo r.hi && chain r.hi l m)
omit [∀ t, Dt (D t)] in
theorem chain_le : ∀ {l : List (Rc D)} {n m : Nat}, chain n l m = true → n ≤ m
  | [], n, m, h => by rw [Nat.eq_of_beq_eq_true h]; exact Nat.le_refl _
  | r :: l, n, m, h => by
    simp only [chain, Bool.and_eq_true] at h
    have h1 := Nat.eq_of_beq_eq_true h.1
    have h2 := Nat.le_of_ble_eq_true h.2.1
    have := chain_le h.2.2
    omega
omit [∀ t, Dt (D t)] in
theorem chain_get : ∀ {l : List (Rc D)} {n m j : Nat} {r : Rc D}, chain n l m = true → l[j]? = some r → n ≤ r.lo ∧ r.lo ≤ r.hi ∧ r.hi ≤ m
  | [], _, _, _, _, _, h => by cases h
  | q :: l, n, m, 0, r, h, hj => by
    cases hj
    simp only [chain, Bool.and_eq_true] at h
    have h1 := Nat.eq_of_beq_eq_true h.1
    exact ⟨by omega, Nat.le_of_ble_eq_true h.2.1, chain_le h.2.2⟩
  | q :: l, n, m, j + 1, r, h, hj => by
    simp only [chain, Bool.and_eq_true] at h
    have h1 := Nat.eq_of_beq_eq_true h.1
    have h2 := Nat.le_of_ble_eq_true h.2.1
    have := chain_get h.2.2 (j := j) (by simpa using hj)
    exact ⟨by omega, this.2⟩
omit [∀ t, Dt (D t)] in
theorem chain_lt : ∀ {l : List (Rc D)} {n m i j : Nat} {r q : Rc D}, chain n l m = true → l[i]? = some r → l[j]? = some q → i < j → r.hi ≤ q.lo
  | [], _, _, _, _, _, _, _, h, _, _ => by cases h
  | p :: l, n, m, 0, j + 1, r, q, h, hi, hj, _ => by
    cases hi
    simp only [chain, Bool.and_eq_true] at h
    exact (chain_get h.2.2 (j := j) (by simpa using hj)).1
  | p :: l, n, m, i + 1, j + 1, r, q, h, hi, hj, hij => by
    simp only [chain, Bool.and_eq_true] at h
    exact chain_lt h.2.2 (by simpa using hi) (by simpa using hj) (by omega)
  | p :: l, n, m, i, 0, _, _, _, _, _, h => by omega
theorem rch_ready {ops : Array Oper} {ls : Array Bool} (hcl : ∀ i j, done ls i → hasEdge ops i j = true → done ls j) {i : Nat} (hr : ∀ j, hasEdge ops i j = true → done ls j) : ∀ {f j : Nat}, rch ops f i j = true → done ls j
  | 0, _, h => by cases h
  | f + 1, j, h => by
    simp only [rch, Bool.or_eq_true, List.any_eq_true, Bool.and_eq_true] at h
    rcases h with h | ⟨k, _, _, h1, h2⟩
    · exact hr j h
    · exact rch_ok hcl f k j h2 (hr k h1)
structure Good (P : Program) (G : Hp → Prop) (fr : List (Nat × Blk D)) (base : St D) (ops : Array Oper) (recs : List (Rc D)) (i : Nat) (o : Oper) (r : Rc D) : Prop where
  sl : ∀ t s, getS r.sl t = some s → (∃ j rj, recs[j]? = some rj ∧ dstOf ops j = some t ∧ rch ops 40 i j = true ∧ (s = rj.u ∨ ∃ b, rj.kv = some b ∧ s = .k b)) ∨ ((∀ j, dstOf ops j = some t → rch ops 40 j i = true) ∧ getS base.sl t = some s)
  gd : match o.guard with
    | none => r.g = true
    | some (j, want) => ∃ rj d, recs[j]? = some rj ∧ dstOf ops j = some d ∧ rch ops 40 i j = true ∧ ((∃ b, rj.kv = some b ∧ r.g = (b == want)) ∨ (∃ v, rj.u = .c v ∧ isBoolV v = false ∧ r.g = false))
  kv : ∀ b, r.kv = some b → ∀ (H : Hp) (ρ : RM) (x : Value), Rv H ρ x r.u → x = .bool b
  bi : r.bi = r.us.flatMap (nbU recs base.bk ops.size)
  low : (lowS r.lo r.sl && (lowK r.lo r.bi && (lowV r.hi r.u && lowK r.hi r.nb))) = true
  run : (r.eat = false ∧ r.nb = [] ∧ Quiet P G fr base.kn ops o r) ∨ (r.eat = true ∧ Takes P G fr base.kn ops o r)
end
end
section
section
variable {D : Nat → Type} [∀ t, Dt (D t)]
def clr (us : List Nat) (X : Nat → List Ent) (u : Nat) : List Ent := bif us.any (Nat.beq u) then [] else X u
theorem flatX_get (X : Nat → List Ent) {i T : Nat} (hi : i < T) : (flatX X T).Perm (X i ++ flatX (setX X i []) T) := by
  have h := flatX_perm X hi (X i)
  have e : setX X i (X i) = X := by
    funext j; unfold setX; split
    · rename_i h; rw [h]
    · rfl
  rwa [e] at h
theorem flatX_set (X : Nat → List Ent) {i T : Nat} (hi : i < T) (h0 : X i = []) (E : List Ent) : (flatX (setX X i E) T).Perm (E ++ flatX X T) := by
  have h := flatX_perm X hi E
  have e : setX X i [] = X := by
    funext j; unfold setX; split
    · rename_i h; rw [h, h0]
    · rfl
  rwa [e] at h
theorem flatX_us {T : Nat} : ∀ (us : List Nat) (X : Nat → List Ent), nodupN us = true → (∀ u ∈ us, u < T) → (flatX X T).Perm (us.flatMap X ++ flatX (clr us X) T)
  | [], X, _, _ => by
    have e : clr [] X = X := rfl
    rw [e]; exact List.Perm.refl _
  | a :: us, X, hd, hT => by
    simp only [nodupN, Bool.and_eq_true, Bool.not_eq_true'] at hd
    have h1 := flatX_get X (hT a (by simp))
    have h2 := flatX_us us (setX X a []) hd.2 fun u hu => hT u (by simp [hu])
    have e1 : us.flatMap (setX X a []) = us.flatMap X := flatMap_congr' us fun u hu => by
      unfold setX
      split
      · rename_i h
        subst h
        have := hd.1
        rw [List.any_eq_false] at this
        exact absurd (Nat.beq_refl u) (this u hu)
      · rfl
    have e2 : clr us (setX X a []) = clr (a :: us) X := by
      funext u
      unfold clr setX
      rw [List.any_cons]
      by_cases h : u = a
      · subst h
        simp [Nat.beq_refl]
      · have hb : Nat.beq u a = false := by
          cases hx : Nat.beq u a with
          | true => exact absurd (Nat.eq_of_beq_eq_true hx) h
          | false => rfl
        rw [if_neg h, hb, Bool.false_or]
    rw [List.flatMap_cons, List.append_assoc]
    rw [e1, e2] at h2
    exact h1.trans (h2.append_left _)
theorem BkR.units {H : Hp} {ρ : RM} {f : Nat → List (Nat × Blk D)} {X : Nat → List Ent} : ∀ {us : List Nat}, (∀ u ∈ us, BkR H ρ (f u) (X u)) → BkR H ρ (us.flatMap f) (us.flatMap X)
  | [], _ => rfl
  | a :: us, h => by
    rw [List.flatMap_cons, List.flatMap_cons]
    exact (h a (by simp)).append (BkR.units fun u hu => h u (by simp [hu]))
theorem BkR.each {H : Hp} {ρ : RM} : ∀ {bk : List (Nat × Blk D)} {L : List Ent}, BkR H ρ bk L → ∃ Y : Nat → List Ent, L = (List.range bk.length).flatMap Y ∧ ∀ j q, bk[j]? = some q → BkR H ρ [q] (Y j)
  | [], L, h => ⟨fun _ => [], h, fun _ _ h => by cases h⟩
  | (id, b) :: r, L, ⟨S, L', h1, h2, h3⟩ => by
    obtain ⟨Y, h4, h5⟩ := BkR.each h3
    refine ⟨fun j => match j with | 0 => S | j + 1 => Y j, ?_, ?_⟩
    · rw [List.length_cons, List.range_succ_eq_map, List.flatMap_cons, List.flatMap_map, h1, h4]
    · intro j q hq
      cases j with
      | zero => cases hq; exact ⟨S, [], by simp, h2, rfl⟩
      | succ j => exact h5 j q hq
def valR (r : Rc D) : SV D := match r.kv with
  | some b => .k b
  | none => r.u
def finSl (ops : Array Oper) : Nat → List (Rc D) → List (Nat × SV D) → List (Nat × SV D)
  | _, [], sl => sl
  | i, r :: l, sl => finSl ops (i + 1) l (putS sl (dstOf ops i) (valR r))
def deadU (recs : List (Rc D)) (n u : Nat) : Bool := (List.range n).any fun k => eatsU recs k u
def finBk (recs : List (Rc D)) (bk : List (Nat × Blk D)) (n T : Nat) : List (Nat × Blk D) := (List.range T).flatMap fun u => bif deadU recs n u then [] else nbU recs bk n u
omit [∀ t, Dt (D t)] in
theorem finSl_get {ops : Array Oper} {t : Nat} {s : SV D} : ∀ {l : List (Rc D)} {i : Nat} {sl : List (Nat × SV D)}, getS (finSl ops i l sl) t = some s → (∃ j r, l[j]? = some r ∧ dstOf ops (i + j) = some t ∧ s = valR r) ∨ (getS sl t = some s ∧ ∀ j, j < l.length → dstOf ops (i + j) ≠ some t)
  | [], i, sl, h => .inr ⟨h, fun j hj => by cases hj⟩
  | r :: l, i, sl, h => by
    rcases finSl_get (l := l) (i := i + 1) h with ⟨j, r', h1, h2, h3⟩ | ⟨h1, h2⟩
    · exact .inl ⟨j + 1, r', by simpa using h1, by rw [show i + (j + 1) = i + 1 + j by omega]; exact h2, h3⟩
    · have hrest : ∀ j, j < l.length → dstOf ops (i + (j + 1)) ≠ some t := fun j hj => by rw [show i + (j + 1) = i + 1 + j by omega]; exact h2 j hj
      cases hd : dstOf ops i with
      | none =>
        rw [hd] at h1
        refine .inr ⟨h1, fun j hj => ?_⟩
        cases j with
        | zero => rw [Nat.add_zero, hd]; intro h; cases h
        | succ j => exact hrest j (by simpa using hj)
      | some d =>
        rw [hd] at h1
        simp only [putS, getS_setS] at h1
        cases hb : Nat.beq t d with
        | true =>
          rw [hb] at h1
          obtain rfl := Nat.eq_of_beq_eq_true hb
          exact .inl ⟨0, r, rfl, hd, (Option.some.inj h1).symm⟩
        | false =>
          rw [hb] at h1
          refine .inr ⟨h1, fun j hj => ?_⟩
          cases j with
          | zero => rw [Nat.add_zero, hd]; intro h; cases h; rw [Nat.beq_refl] at hb; cases hb
          | succ j => exact hrest j (by simpa using hj)
def liveU (recs : List (Rc D)) (n : Nat) (ls : Array Bool) (u : Nat) : Prop := (u < n → done ls u) ∧ ∀ k, k < n → done ls k → eatsU recs k u = false
structure DrI (fr : List (Nat × Blk D)) (F : List Ent) (w0 : World) (H0 : Hp) (R : List Ent) (H : Hp) (ρ : RM) (σ : Nat → Value) (base : St D) (nx : Nat) (N : Nat) (Dd : List Deferred) (ops : Array Oper) (recs : List (Rc D)) (ls : Array Bool) (σ' : Nat → Value) (H' : Hp) (ρ' : RM) (X : Nat → List Ent) (w' : World) : Prop where
  hH : H.le H'
  hρ : RM.le ρ ρ'
  low : ∀ id, id < base.nx → ρ' id = ρ id
  mem : Mem w0 H0 w' H' (flatX X (ops.size + base.bk.length) ++ (F ++ R))
  val : ∀ i r d, done ls i → recs[i]? = some r → dstOf ops i = some d → Rv H' ρ' (σ' d) r.u
  live : ∀ u, u < ops.size + base.bk.length → liveU recs ops.size ls u → BkR H' ρ' (nbU recs base.bk ops.size u) (X u)
  dead : ∀ u, u < ops.size + base.bk.length → ¬ liveU recs ops.size ls u → X u = []
  free : ∀ i r, recs[i]? = some r → ¬ done ls i → ∀ id, r.lo ≤ id → id < r.hi → ρ' id = none
  nx : ∀ id, nx ≤ id → ρ' id = none
  old : ∀ t, (∀ j, done ls j → dstOf ops j ≠ some t) → σ' t = σ t
  cl : ∀ i j, done ls i → hasEdge ops i j = true → done ls j
section
variable {P : Program} {fr : List (Nat × Blk D)} {F : List Ent} {w0 w : World} {H0 H : Hp} {R : List Ent} {ρ : RM} {L : List Ent} {base : St D} {σ : Nat → Value} {nx N : Nat} {Dd : List Deferred} {ops : Array Oper} {recs : List (Rc D)}
theorem DrI.step {ls : Array Bool} {σ' : Nat → Value} {H' : Hp} {ρ' : RM} {X : Nat → List Ent} {w' : World} (hI : DrI fr F w0 H0 R H ρ σ base nx N Dd ops recs ls σ' H' ρ' X w') {i : Nat} (hi : i < ops.size) (hsz : ls.size = ops.size) (hnd : ¬ done ls i) (hed : ∀ j, hasEdge ops i j = true → done ls j)
    (hdist : ∀ i j, i < ops.size → j < ops.size → i ≠ j → ∀ d, dstOf ops i = some d → dstOf ops j ≠ some d) (hlen : recs.length = ops.size)
    {r : Rc D} (hr : recs[i]? = some r) (hself : eatsU recs i i = false) (heat : ∀ k, k < ops.size → done ls k → eatsU recs k i = false)
    {x : Value} {w2 : World} {H2 : Hp} {ρ2 : RM} {X2 : Nat → List Ent} (hH2 : H'.le H2) (hρ2 : RM.le ρ' ρ2) (hlow : ∀ id, id < base.nx → ρ2 id = ρ' id) (hM : Mem w0 H0 w2 H2 (flatX X2 (ops.size + base.bk.length) ++ (F ++ R))) (hx : Rv H2 ρ2 x r.u)
    (hX : ∀ u, u ≠ i → X2 u = bif eatsU recs i u then [] else X u) (hXi : BkR H2 ρ2 r.nb (X2 i))
    (hfree : ∀ j q, recs[j]? = some q → j ≠ i → ¬ done ls j → ∀ id, q.lo ≤ id → id < q.hi → ρ2 id = ρ' id) (hnx : ∀ id, nx ≤ id → ρ2 id = none) :
    DrI fr F w0 H0 R H ρ σ base nx N Dd ops recs (ls.setIfInBounds i true) (upd σ' (dstOf ops i) x) H2 ρ2 X2 w2 := by
  have hset : ∀ j, done (ls.setIfInBounds i true) j ↔ j = i ∨ done ls j := by
    intro j
    unfold done
    rw [Array.getD_eq_getD_getElem?, Array.getD_eq_getD_getElem?, Array.getElem?_setIfInBounds]
    by_cases h : j = i
    · subst h; simp [hsz, hi]
    · rw [if_neg (by omega)]; simp [h]
  have hnb : nbU recs base.bk ops.size i = r.nb := by
    unfold nbU
    rw [show Nat.blt i ops.size = true by simpa [Nat.blt_eq] using hi, cond_true, hr]
  have hlive : ∀ u, u ≠ i → (liveU recs ops.size (ls.setIfInBounds i true) u ↔ (liveU recs ops.size ls u ∧ eatsU recs i u = false)) := by
    intro u hu
    constructor
    · rintro ⟨h1, h2⟩
      exact ⟨⟨fun hn => ((hset u).1 (h1 hn)).resolve_left hu, fun k hk hd => h2 k hk ((hset k).2 (.inr hd))⟩, h2 i hi ((hset i).2 (.inl rfl))⟩
    · rintro ⟨⟨h1, h2⟩, h3⟩
      exact ⟨fun hn => (hset u).2 (.inr (h1 hn)), fun k hk hd => by
        rcases (hset k).1 hd with rfl | hd
        · exact h3
        · exact h2 k hk hd⟩
  have hlivei : liveU recs ops.size (ls.setIfInBounds i true) i := ⟨fun _ => (hset i).2 (.inl rfl), fun k hk hd => by
    rcases (hset k).1 hd with rfl | hd
    · exact hself
    · exact heat k hk hd⟩
  refine ⟨hI.hH.trans hH2, hI.hρ.trans hρ2, fun id hid => (hlow id hid).trans (hI.low id hid), hM, ?_, ?_, ?_, ?_, hnx, ?_, ?_⟩
  · intro j q d hd hq hdj
    by_cases hji : j = i
    · subst hji
      rw [hr] at hq; cases hq
      rw [hdj]
      show Rv H2 ρ2 (bif Nat.beq d d then x else σ' d) r.u
      rw [Nat.beq_refl]; exact hx
    · have hdl := ((hset j).1 hd).resolve_left hji
      have hj : j < ops.size := by rw [← hlen]; exact (List.getElem?_eq_some_iff.1 hq).1
      have hv := (hI.val j q d hdl hq hdj).mono hH2 hρ2
      have : upd σ' (dstOf ops i) x d = σ' d := by
        cases hdi : dstOf ops i with
        | none => rfl
        | some d' =>
          show (bif Nat.beq d d' then x else σ' d) = σ' d
          cases hb : Nat.beq d d' with
          | true =>
            obtain rfl := Nat.eq_of_beq_eq_true hb
            exact absurd hdj (hdist i j hi hj (Ne.symm hji) d hdi)
          | false => rfl
      rw [this]; exact hv
  · intro u hu hl
    by_cases hui : u = i
    · subst hui; rw [hnb]; exact hXi
    · obtain ⟨h1, h2⟩ := (hlive u hui).1 hl
      rw [hX u hui, h2]
      exact (hI.live u hu h1).mono hH2 hρ2
  · intro u hu hl
    by_cases hui : u = i
    · subst hui; exact absurd hlivei hl
    · rw [hX u hui]
      cases he : eatsU recs i u with
      | true => rfl
      | false => exact hI.dead u hu fun h => hl ((hlive u hui).2 ⟨h, he⟩)
  · intro j q hq hd id h1 h2
    have hji : j ≠ i := fun h => hd ((hset j).2 (.inl h))
    have hdl : ¬ done ls j := fun h => hd ((hset j).2 (.inr h))
    rw [hfree j q hq hji hdl id h1 h2]
    exact hI.free j q hq hdl id h1 h2
  · intro t ht
    rw [← hI.old t fun j hd => ht j ((hset j).2 (.inr hd))]
    cases hdi : dstOf ops i with
    | none => rfl
    | some d' =>
      show (bif Nat.beq t d' then x else σ' t) = σ' t
      cases hb : Nat.beq t d' with
      | true =>
        obtain rfl := Nat.eq_of_beq_eq_true hb
        exact absurd hdi (ht i ((hset i).2 (.inl rfl)))
      | false => rfl
  · intro j k hd he
    rcases (hset j).1 hd with rfl | hd
    · exact (hset k).2 (.inr (hed k he))
    · exact (hset k).2 (.inr (hI.cl j k hd he))
theorem range_flat (X : Nat → List Ent) (n b : Nat) : flatX X (n + b) = flatX X n ++ (List.range b).flatMap fun j => X (n + j) := by
  unfold flatX
  rw [List.range_add, List.flatMap_append, List.flatMap_map]
theorem DrI.init (hs : Sat fr F w0 H0 R H ρ L base σ w) (hch : chain base.nx recs nx = true) : ∃ X, DrI fr F w0 H0 R H ρ σ base nx N Dd ops recs (Array.replicate ops.size false) σ H ρ X w.drew := by
  obtain ⟨Y, h1, h2⟩ := hs.bk.each
  have hg2 : ∀ i, ¬ done (Array.replicate ops.size false) i := by
    intro i
    unfold done
    rw [Array.getD_eq_getD_getElem?]
    simp only [Array.getElem?_replicate]
    split <;> simp
  refine ⟨fun u => if u < ops.size then [] else Y (u - ops.size), Hp.le.refl _, RM.le.refl _, fun _ _ => rfl, ?_, fun i _ _ h => absurd h (hg2 i), ?_, ?_, ?_, fun id hid => hs.nx _ (Nat.le_trans (chain_le hch) hid), fun _ _ => rfl, fun i _ h => absurd h (hg2 i)⟩
  · have e1 : flatX (fun u => if u < ops.size then [] else Y (u - ops.size)) ops.size = [] := by
      unfold flatX
      rw [flatMap_congr' (g := fun _ => []) _ fun u hu => if_pos (List.mem_range.1 hu)]
      simp
    have e2 : ((List.range base.bk.length).flatMap fun j => if ops.size + j < ops.size then [] else Y (ops.size + j - ops.size)) = (List.range base.bk.length).flatMap Y := flatMap_congr' _ fun j _ => by
      rw [if_neg (by omega), Nat.add_sub_cancel_left]
    rw [range_flat, e1, e2, ← h1]
    exact hs.mem.drew
  · intro u hu hl
    have hn : ¬ u < ops.size := fun h => hg2 u (hl.1 h)
    have hb : Nat.blt u ops.size = false := by
      cases hx : Nat.blt u ops.size with
      | true => exact absurd (blt_lt hx) hn
      | false => rfl
    unfold nbU
    rw [hb, cond_false]
    obtain ⟨q, hq⟩ : ∃ q, base.bk[u - ops.size]? = some q := ⟨base.bk[u - ops.size]'(by omega), List.getElem?_eq_getElem (by omega)⟩
    rw [hq]
    show BkR H ρ [q] (if u < ops.size then [] else Y (u - ops.size))
    rw [if_neg hn]
    exact h2 _ _ hq
  · intro u hu hl
    by_cases hn : u < ops.size
    · exact if_pos hn
    · exact absurd ⟨fun h => absurd h hn, fun k _ h => absurd h (hg2 k)⟩ hl
  · intro i r hr _ id h1 _
    exact hs.nx _ (Nat.le_trans (chain_get hch hr).1 h1)
theorem DrI.op {G : Hp → Prop} (h0 : G H0) (hs : Sat fr F w0 H0 R H ρ L base σ w) (hch : chain base.nx recs nx = true) (hR : chkR ops ops.size base.bk.length recs 0 recs = true) (hlen : recs.length = ops.size)
    (hdist : ∀ i j, i < ops.size → j < ops.size → i ≠ j → ∀ d, dstOf ops i = some d → dstOf ops j ≠ some d)
    {ls : Array Bool} {σ' : Nat → Value} {H' : Hp} {ρ' : RM} {X : Nat → List Ent} {w' : World} (hI : DrI fr F w0 H0 R H ρ σ base nx N Dd ops recs ls σ' H' ρ' X w') {i : Nat} (hi : i < ops.size) (hsz : ls.size = ops.size) (hnd : ¬ done ls i) (hed : ∀ j, hasEdge ops i j = true → done ls j)
    {o : Oper} (ho : ops[i]? = some o) (hdst : dstOk o.dst N = true) {r : Rc D} (hr : recs[i]? = some r) (hgd : ∀ j o r, ops[j]? = some o → recs[j]? = some r → Good P G fr base ops recs j o r) {rr : Option Nat} {md : Nat} {Q : Exit → List Deferred → (Nat → Value) → World → Prop}
    (hQ : ∀ σ2 w2, (∃ H2 ρ2 X2, DrI fr F w0 H0 R H ρ σ base nx N Dd ops recs (ls.setIfInBounds i true) σ2 H2 ρ2 X2 w2) → RW rr md P N ops [] Q Dd σ2 w2) :
    RW rr md P N ops [o] Q Dd σ' w' := by
  have hg := hgd i o r ho hr
  obtain ⟨c1, c2, c3⟩ := chain_get hch hr
  have hu := chkR_ok hR hr
  simp only [Nat.zero_add, chkU, Bool.and_eq_true, List.all_eq_true] at hu
  obtain ⟨u1, u2⟩ := hu
  have u3 : ∀ u ∈ r.us, u < ops.size + base.bk.length := fun u hu => blt_lt (u2 u hu).1
  have u4 : ∀ u ∈ r.us, liveU recs ops.size ls u := fun u hu => by
    obtain ⟨_, h2, h3⟩ := u2 u hu
    refine ⟨fun hn => ?_, fun k hk hd => ?_⟩
    · rw [show Nat.blt u ops.size = true by simpa [Nat.blt_eq] using hn] at h2
      exact rch_ready hI.cl hed (by simpa using h2)
    · cases he : eatsU recs k u with
      | false => rfl
      | true =>
        have h4 := h3 k (List.mem_range.2 hk)
        rw [he] at h4
        simp only [Bool.not_true, Bool.false_or, Bool.or_eq_true] at h4
        rcases h4 with h4 | h4
        · rw [Nat.eq_of_beq_eq_true h4] at hd; exact absurd hd hnd
        · exact absurd (rch_ok hI.cl 40 k i h4 hd) hnd
  have hown : ∀ k q, recs[k]? = some q → (k = i ∨ done ls k) → i ∈ q.us → False := by
    intro k q hq hk hiu
    have h := chkR_ok hR hq
    simp only [Nat.zero_add, chkU, Bool.and_eq_true, List.all_eq_true] at h
    obtain ⟨_, h2, _⟩ := h.2 i hiu
    rw [show Nat.blt i ops.size = true by simpa [Nat.blt_eq] using hi] at h2
    have h2 : rch ops 40 k i = true := by simpa using h2
    rcases hk with rfl | hk
    · exact hnd (rch_ready hI.cl hed h2)
    · exact hnd (rch_ok hI.cl 40 k i h2 hk)
  have hmem : ∀ {q : Rc D} {u : Nat}, (q.us.any (Nat.beq u)) = true → u ∈ q.us := by
    intro q u h
    obtain ⟨v, hv, hb⟩ := List.any_eq_true.1 h
    rwa [Nat.eq_of_beq_eq_true hb]
  have heats : ∀ k, (k = i ∨ done ls k) → eatsU recs k i = false := by
    intro k hk
    unfold eatsU
    cases hq : recs[k]? with
    | none => rfl
    | some q =>
      show (q.eat && q.us.any (Nat.beq i)) = false
      cases hx : q.us.any (Nat.beq i) with
      | false => exact Bool.and_false _
      | true => exact (hown k q hq hk (hmem hx)).elim
  have hXi : X i = [] := hI.dead i (by omega) fun h => hnd (h.1 hi)
  -- the numbers that it may see
  let ρm : RM := fun id => bif Nat.blt id r.lo then ρ' id else none
  have m1 : ∀ id, id < r.lo → ρm id = ρ' id := fun id h => by
    show (bif Nat.blt id r.lo then ρ' id else none) = _
    rw [show Nat.blt id r.lo = true by simpa [Nat.blt_eq] using h]; rfl
  have m2 : ∀ id, r.lo ≤ id → ρm id = none := fun id h => by
    show (bif Nat.blt id r.lo then ρ' id else none) = _
    have : Nat.blt id r.lo = false := by
      cases hx : Nat.blt id r.lo with
      | true => exact absurd (blt_lt hx) (by omega)
      | false => rfl
    rw [this]; rfl
  have m3 : RM.le ρm ρ' := fun id q h => by
    rcases Nat.lt_or_ge id r.lo with h1 | h1
    · rwa [m1 id h1] at h
    · rw [m2 id h1] at h; cases h
  have m4 : RM.le ρ ρm := fun id q h => by
    rcases Nat.lt_or_ge id base.nx with h1 | h1
    · rw [m1 id (by omega)]; exact hI.hρ _ _ h
    · rw [hs.nx _ h1] at h; cases h
  have hlow := hg.low
  simp only [Bool.and_eq_true] at hlow
  obtain ⟨l1, l2, l3, l4⟩ := hlow
  have hval : ∀ j rj t, recs[j]? = some rj → dstOf ops j = some t → rch ops 40 i j = true → Rv H' ρ' (σ' t) rj.u := fun j rj t h1 h2 h3 => hI.val j rj t (rch_ready hI.cl hed h3) h1 h2
  have hkv : ∀ j rj, recs[j]? = some rj → dstOf ops j ≠ none → ∀ b, rj.kv = some b → ∀ {x : Value}, Rv H' ρ' x rj.u → x = .bool b := fun j rj h1 h2 b h3 x hx => by
    cases hoj : ops[j]? with
    | none => exact absurd (by unfold dstOf; rw [hoj]; rfl) h2
    | some oj => exact (hgd j oj rj hoj h1).kv b h3 _ _ _ hx
  have hSl : SlR H' ρ' r.sl σ' := by
    intro t s hts
    rcases hg.sl t s hts with ⟨j, rj, h1, h2, h3, h4⟩ | ⟨h1, h2⟩
    · have hv := hval j rj t h1 h2 h3
      rcases h4 with rfl | ⟨b, h5, rfl⟩
      · exact hv
      · exact hkv j rj h1 (by rw [h2]; simp) b h5 hv
    · rw [hI.old t fun j hd hj => hnd (rch_ok hI.cl 40 j i (h1 j hj) hd)]; exact (hs.sl t s h2).mono hI.hH hI.hρ
  have hgo : gdOk ops σ' o.guard = r.g := by
    have h := hg.gd
    cases hgu : o.guard with
    | none => rw [hgu] at h; exact h.symm
    | some jw =>
      obtain ⟨j, want⟩ := jw
      rw [hgu] at h
      obtain ⟨rj, d, h1, h2, h3, h4⟩ := h
      have h2' : (ops[j]?).bind (·.dst) = some d := h2
      have hv := hval j rj d h1 h2 h3
      show (match (ops[j]?).bind (·.dst) with
        | some d => match σ' d with
          | .bool b => b == want
          | _ => false
        | none => false) = r.g
      rw [h2']
      rcases h4 with ⟨b, h5, h6⟩ | ⟨v, h5, h6, h7⟩
      · have hb : σ' d = .bool b := hkv j rj h1 (by rw [h2]; simp) b h5 hv
        rw [h6]
        show (match σ' d with
          | .bool b => b == want
          | _ => false) = _
        rw [hb]
      · rw [h5] at hv
        have hv : σ' d = v := hv
        rw [h7]
        show (match σ' d with
          | .bool b => b == want
          | _ => false) = _
        rw [hv]
        cases v <;> first | rfl | (exact absurd h6 (by simp [isBoolV]))
  have hL : BkR H' ρ' r.bi (r.us.flatMap X) := by
    rw [hg.bi]
    exact BkR.units fun u hu => hI.live u (u3 u hu) (u4 u hu)
  have hperm : (flatX X (ops.size + base.bk.length) ++ (F ++ R)).Perm (r.us.flatMap X ++ (F ++ (flatX (clr r.us X) (ops.size + base.bk.length) ++ R))) := by
    refine ((flatX_us r.us X u1 u3).append_right (F ++ R)).trans ?_
    rw [List.append_assoc]
    refine List.Perm.append_left _ ?_
    rw [← List.append_assoc, ← List.append_assoc]
    exact List.perm_append_comm.append_right R
  have hSat : Sat fr F w0 H0 (flatX (clr r.us X) (ops.size + base.bk.length) ++ R) H' ρm (r.us.flatMap X) ⟨r.sl, r.bi, base.kn, r.lo⟩ σ' w' :=
    ⟨hI.mem.perm hperm, lowS_ok m1 l1 hSl, lowK_ok m1 l2 hL, hs.fr.mono hI.hH m4, hs.kn.mono hI.hH m4, fun id h => m2 id h⟩
  have hde : o.dst = dstOf ops i := by unfold dstOf; rw [ho]; rfl
  rcases hg.run with ⟨k1, k2, k3⟩ | ⟨k1, k3⟩
  · refine k3 h0 hSat hgo hdst fun x w2 hx1 hx2 => ?_
    rw [hde]
    refine hQ _ _ ⟨H', ρ', X, hI.step hi hsz hnd hed hdist hlen hr (heats i (.inl rfl)) (fun k _ hk => heats k (.inr hk)) (Hp.le.refl _) (RM.le.refl _) (fun _ _ => rfl) (hx1 _ hI.mem) (hx2.mono (Hp.le.refl _) m3) (fun u hu => ?_) ?_ (fun _ _ _ _ _ _ _ _ => rfl) hI.nx⟩
    · have : eatsU recs i u = false := by unfold eatsU; rw [hr]; show (r.eat && _) = false; rw [k1]; rfl
      rw [this]; rfl
    · rw [k2, hXi]; rfl
  · refine k3 h0 hSat hgo hdst fun x w2 hO => ?_
    obtain ⟨H2, ρ2, L2, o1, o2, o3, o4, o5⟩ := hO
    rw [hde]
    let ρ3 : RM := fun id => bif (Nat.ble r.lo id && Nat.blt id r.hi) then ρ2 id else ρ' id
    have n1 : ∀ id, r.lo ≤ id → id < r.hi → ρ3 id = ρ2 id := fun id h1 h2 => by
      show (bif (Nat.ble r.lo id && Nat.blt id r.hi) then ρ2 id else ρ' id) = _
      rw [Nat.ble_eq_true_of_le h1, show Nat.blt id r.hi = true by simpa [Nat.blt_eq] using h2]; rfl
    have n2 : ∀ id, ¬ (r.lo ≤ id ∧ id < r.hi) → ρ3 id = ρ' id := fun id h => by
      show (bif (Nat.ble r.lo id && Nat.blt id r.hi) then ρ2 id else ρ' id) = _
      cases hx : (Nat.ble r.lo id && Nat.blt id r.hi) with
      | false => rfl
      | true =>
        rw [Bool.and_eq_true] at hx
        exact absurd ⟨Nat.le_of_ble_eq_true hx.1, blt_lt hx.2⟩ h
    have n3 : ∀ id, id < r.hi → ρ3 id = ρ2 id := fun id h => by
      rcases Nat.lt_or_ge id r.lo with h1 | h1
      · rw [n2 id (by omega), o3 id h1, m1 id h1]
      · exact n1 id h1 h
    have n4 : RM.le ρ' ρ3 := fun id q h => by
      by_cases h1 : r.lo ≤ id ∧ id < r.hi
      · rw [hI.free i r hr hnd id h1.1 h1.2] at h; cases h
      · rwa [n2 id h1]
    have hcl : ∀ u, u ≠ i → setX (clr r.us X) i L2 u = bif eatsU recs i u then [] else X u := fun u hu => by
      unfold setX clr eatsU
      rw [if_neg hu, hr]
      show _ = bif (r.eat && r.us.any (Nat.beq u)) then [] else X u
      rw [k1, Bool.true_and]
    have hni : clr r.us X i = [] := by
      unfold clr
      rw [hXi]; cases r.us.any (Nat.beq i) <;> rfl
    refine hQ _ _ ⟨H2, ρ3, setX (clr r.us X) i L2, hI.step hi hsz hnd hed hdist hlen hr (heats i (.inl rfl)) (fun k _ hk => heats k (.inr hk)) o1 n4 (fun id h => n2 id (by omega)) ?_ (lowV_ok n3 r.u l3 o5) hcl ?_ (fun j q hq hj hd id h1 h2 => n2 id fun h3 => ?_) fun id h => ?_⟩
    · refine o4.mem.perm ?_
      have h1 := flatX_set (clr r.us X) (T := ops.size + base.bk.length) (i := i) (by omega) hni L2
      refine List.Perm.symm ((h1.append_right (F ++ R)).trans ?_)
      rw [List.append_assoc]
      refine List.Perm.append_left _ ?_
      rw [← List.append_assoc, ← List.append_assoc]
      exact List.perm_append_comm.append_right R
    · have : setX (clr r.us X) i L2 i = L2 := by unfold setX; rw [if_pos rfl]
      rw [this]
      exact lowK_ok n3 l4 o4.bk
    · rcases Nat.lt_or_gt_of_ne hj with h4 | h4
      · have := chain_lt hch hq hr h4; omega
      · have := chain_lt hch hr hq h4; omega
    · rw [n2 id (by omega)]; exact hI.nx id h
theorem drawD_ok {G : Hp → Prop} (h0 : G H0) {id : Nat} {rr : Option Nat} {md : Nat} {Q : Exit → List Deferred → (Nat → Value) → World → Prop} (hm : P.follows .mixedOrders = true) (hs : Sat fr F w0 H0 R H ρ L base σ w) (hE : chkE ops N = true) (hch : chain base.nx recs nx = true) (hR : chkR ops ops.size base.bk.length recs 0 recs = true) (hlen : recs.length = ops.size) (hgd : ∀ j o r, ops[j]? = some o → recs[j]? = some r → Good P G fr base ops recs j o r)
    (hK : ∀ H' ρ' L' σ' w', H.le H' → RM.le ρ ρ' → (∀ id, id < base.nx → ρ' id = ρ id) → Sat fr F w0 H0 R H' ρ' L' ⟨finSl ops 0 recs base.sl, finBk recs base.bk ops.size (ops.size + base.bk.length), base.kn, nx⟩ σ' w' → Q .normal Dd σ' w') :
    CW rr md P N (.region id ops true) Q Dd σ w := by
  intro a ha
  simp only [chkE, Bool.and_eq_true, List.all_eq_true, List.mem_range] at hE
  obtain ⟨hback, hdist⟩ := hE
  have hdist : ∀ i j, i < ops.size → j < ops.size → i ≠ j → ∀ d, dstOf ops i = some d → dstOf ops j ≠ some d := by
    intro i j hi hj hij d h1 h2
    have h := hdist i hi j hj
    have h7 : sameB ops i j = true := by
      rw [sameB, h1]
      show isDst ops j d = true
      rw [isDst, h2]
      exact Nat.beq_refl d
    simp only [h7, Bool.not_true, Bool.or_false] at h
    exact hij (Nat.eq_of_beq_eq_true h)
  have hprog : ∀ ls : Array Bool, ls.size = ops.size → Region.ready .any ops ls = [] → ∀ i, i < ops.size → ls.getD i true = true := by
    intro ls hs hr i
    induction i using Nat.strongRecOn with
    | _ i ih =>
      intro hi
      cases hx : ls.getD i true with
      | true => rfl
      | false =>
        have : i ∈ Region.ready .any ops ls := by
          refine mem_ready.2 ⟨hi, hx, fun o ho e he hb => ?_⟩
          have h1 := hback i hi
          rw [ho] at h1
          simp only [Bool.and_eq_true] at h1
          have h2 := (Array.all_eq_true_iff_forall_mem.1 h1.1) e he
          have h3 : e.on < i := by simpa [hb, Nat.blt_eq] using h2
          have h4 := ih e.on h3 (by omega)
          rw [Array.getD_eq_getD_getElem?] at h4 ⊢
          rw [Array.getElem?_eq_getElem (by omega)] at h4 ⊢
          exact h4
        rw [hr] at this
        simp at this
  refine wpIn_region_any hm (wpAnyIn_inv (fun ls a w' => ls.size = ops.size ∧ ∃ σ' H' ρ' X, Rep N Dd σ' a ∧ DrI fr F w0 H0 R H ρ σ base nx N Dd ops recs ls σ' H' ρ' X w') ?_ ?_ ?_ _ _ _ _ ?_ ?_)
  · intro ls a w' ⟨hsz, σ', H', ρ', X, hrep, hI⟩ hr
    have hall : ∀ i, i < ops.size → done ls i := fun i hi => by
      have := hprog ls hsz hr i hi
      unfold done
      rw [Array.getD_eq_getD_getElem?, Array.getElem?_eq_getElem (by omega)] at this ⊢
      exact this
    have hlive : ∀ u, deadU recs ops.size u = false → liveU recs ops.size ls u := fun u hu => ⟨fun h => hall u h, fun k hk _ => by
      cases he : eatsU recs k u with
      | false => rfl
      | true =>
        have : deadU recs ops.size u = true := List.any_eq_true.2 ⟨k, List.mem_range.2 hk, he⟩
        rw [hu] at this; cases this⟩
    have hdead : ∀ u, deadU recs ops.size u = true → ¬ liveU recs ops.size ls u := fun u hu h => by
      obtain ⟨k, hk, he⟩ := List.any_eq_true.1 hu
      have hk := List.mem_range.1 hk
      rw [h.2 k hk (hall k hk)] at he; cases he
    refine ⟨Dd, σ', hrep, hK H' ρ' (flatX X (ops.size + base.bk.length)) σ' w' hI.hH hI.hρ hI.low ⟨hI.mem, ?_, ?_, hs.fr.mono hI.hH hI.hρ, hs.kn.mono hI.hH hI.hρ, hI.nx⟩⟩
    · intro t s hts
      rcases finSl_get hts with ⟨j, r, h1, h2, h3⟩ | ⟨h1, h2⟩
      · rw [Nat.zero_add] at h2
        have hj : j < ops.size := by rw [← hlen]; exact (List.getElem?_eq_some_iff.1 h1).1
        have hv := hI.val j r t (hall j hj) h1 h2
        rw [h3]
        unfold valR
        cases hk : r.kv with
        | none => exact hv
        | some b => exact (hgd j _ r (Array.getElem?_eq_getElem hj) h1).kv b hk _ _ _ hv
      · rw [hI.old t fun j _ hj => ?_]
        · exact (hs.sl t s h1).mono hI.hH hI.hρ
        · rcases Nat.lt_or_ge j ops.size with h3 | h3
          · exact h2 j (by omega) (by rw [Nat.zero_add]; exact hj)
          · rw [dstOf, Array.getElem?_eq_none_iff.2 h3] at hj; cases hj
    · have : ∀ T, T ≤ ops.size + base.bk.length → BkR H' ρ' (finBk recs base.bk ops.size T) (flatX X T) := by
        intro T
        induction T with
        | zero => intro _; rfl
        | succ T ih =>
          intro hT
          unfold finBk flatX
          rw [List.range_succ, List.flatMap_append, List.flatMap_append, List.flatMap_singleton, List.flatMap_singleton]
          refine (ih (by omega)).append ?_
          cases hd : deadU recs ops.size T with
          | true => exact hI.dead T (by omega) (hdead T hd)
          | false => exact hI.live T (by omega) (hlive T hd)
      exact this _ (Nat.le_refl _)
  · intro ls a w' h; exact h.1
  · intro ls a w' i ⟨hsz, σ', H', ρ', X, hrep, hI⟩ hi
    obtain ⟨hi1, hi2, hi3⟩ := mem_ready.1 hi
    have hget : ops[i]? = some ops[i] := Array.getElem?_eq_getElem hi1
    obtain ⟨r, hr⟩ : ∃ r, recs[i]? = some r := ⟨recs[i]'(by omega), List.getElem?_eq_getElem (by omega)⟩
    have hnd : ¬ done ls i := by
      intro h
      unfold done at h
      rw [Array.getD_eq_getD_getElem?, Array.getElem?_eq_getElem (by omega)] at h hi2
      have h : ls[i] = true := h
      have hi2 : ls[i] = false := hi2
      rw [h] at hi2; cases hi2
    have hedge : ∀ j, hasEdge ops i j = true → done ls j := by
      intro j hj
      rw [hasEdge, hget] at hj
      simp only [← Array.any_toList, List.any_eq_true, Bool.and_eq_true] at hj
      obtain ⟨e, he, hb, hon⟩ := hj
      have := hi3 _ hget e (Array.mem_toList_iff.1 he) hb
      rwa [Nat.eq_of_beq_eq_true hon] at this
    have hb := hback i hi1
    rw [hget] at hb
    simp only [Bool.and_eq_true] at hb
    refine wpOpIn_of_list1 (Q1 := lift N (fun e D' σ2 w2 => e = .normal ∧ D' = Dd ∧ ∃ H2 ρ2 X2, DrI fr F w0 H0 R H ρ σ base nx N Dd ops recs (ls.setIfInBounds i true) σ2 H2 ρ2 X2 w2)) hget (hI.op h0 hs hch hR hlen hdist hi1 hsz hnd hedge hget hb.2 hr hgd (fun σ2 w2 h => ?_) a hrep) (fun a' w'' hq => ?_) (fun c a' w'' hq => ?_) (fun hq => ?_)
    · intro a2 ha2
      exact ⟨Dd, σ2, ha2, rfl, rfl, h⟩
    · obtain ⟨D', σ'', hr1, _, rfl, H2, ρ2, X2, h2⟩ := hq
      exact ⟨by simpa using hsz, σ'', H2, ρ2, X2, hr1, h2⟩
    · obtain ⟨_, _, _, hn, _⟩ := hq
      cases hn
    · obtain ⟨_, _, _, _, _, hn, _⟩ := hq
      cases hn
  · obtain ⟨X, hI⟩ := DrI.init (F := F) (fr := fr) (N := N) (Dd := Dd) (ops := ops) hs hch
    exact ⟨by simp, σ, H, ρ, X, ha, hI⟩
  · unfold unlisted
    exact Nat.le_trans (List.length_filter_le _ _) (by simp)
end
end
end
section
section
variable {D : Nat → Type} [∀ t, Dt (D t)]
mutual
def idsV : SV D → List Nat
  | .ptr id _ => [id]
  | .own id => [id]
  | .oel id _ _ _ => [id]
  | .vw id _ _ => [id]
  | .agg l => idsVL l
  | .tup l => idsVL l
  | .fn _ l => idsVL l
  | _ => []
def idsVL : List (SV D) → List Nat
  | [] => []
  | v :: r => idsV v ++ idsVL r
end
def idsB : Blk D → List Nat
  | .box _ cs => idsVL cs
  | .fbx _ cs => idsVL cs
  | _ => []
def hitB (ids : List Nat) (l : List (Nat × Blk D)) : Bool := l.any fun q => ids.any (Nat.beq q.1)
def pickU : Nat → List Nat → List (Nat × List (Nat × Blk D)) → List Nat
  | 0, _, _ => []
  | f + 1, ids, av => match av.filter fun q => hitB ids q.2 with
    | [] => []
    | q :: hit => (q :: hit).map (·.1) ++ pickU f ((q :: hit).flatMap fun q => q.2.flatMap fun b => idsB b.2) (av.filter fun q => !(hitB ids q.2))
def availU (recs : List (Rc D)) (bk : List (Nat × Blk D)) (n : Nat) : List (Nat × List (Nat × Blk D)) := ((List.range recs.length ++ (List.range bk.length).map (n + ·)).filter fun u => !(deadU recs recs.length u)).map fun u => (u, nbU recs bk n u)
def seeT (ops : Array Oper) (base : St D) (recs : List (Rc D)) (i t : Nat) : Option (SV D) := match (List.range recs.length).find? fun j => isDst ops j t && rch ops 40 i j with
  | some j => (recs[j]?).map valR
  | none => bif (List.range ops.size).all fun j => !(isDst ops j t) || rch ops 40 j i then getS base.sl t else none
def seeS (ops : Array Oper) (base : St D) (recs : List (Rc D)) (i : Nat) : List Operand → List (Nat × SV D)
  | [] => []
  | x :: r => match x with
    | .tmp t => match seeT ops base recs i t with
      | some v => (t, v) :: seeS ops base recs i r
      | none => seeS ops base recs i r
    | _ => seeS ops base recs i r
def miniS (ops : Array Oper) (base : St D) (recs : List (Rc D)) (i : Nat) (o : Oper) : List (Nat × SV D) := seeS ops base recs i o.op.operands.toList
def blind : Op → Bool
  | .move _ | .assign _ | .pick _ _ _ | .extract _ _ | .field _ _ _ | .build _ _ | .makeFunc _ _ _ => true
  | _ => false
def miniU (ops : Array Oper) (base : St D) (recs : List (Rc D)) (i : Nat) (o : Oper) : List Nat := bif blind o.op then [] else pickU 4 (idsVL ((miniS ops base recs i o).map fun q => res base.kn q.2)) (availU recs base.bk ops.size)
omit [∀ t, Dt (D t)] in
theorem isDst_ok {ops : Array Oper} {j t : Nat} (h : isDst ops j t = true) : dstOf ops j = some t := by
  unfold isDst at h
  split at h
  · rename_i d hd; rw [hd, Nat.eq_of_beq_eq_true h]
  · cases h
omit [∀ t, Dt (D t)] in
theorem seeS_get {ops : Array Oper} {base : St D} {recs : List (Rc D)} {i t : Nat} {s : SV D} : ∀ {l : List Operand}, getS (seeS ops base recs i l) t = some s → seeT ops base recs i t = some s
  | [], h => by cases h
  | x :: r, h => by
    unfold seeS at h
    split at h
    · rename_i u
      split at h
      · rename_i v hv
        unfold getS at h
        cases hb : Nat.beq t u with
        | true =>
          rw [hb] at h
          rw [Nat.eq_of_beq_eq_true hb, hv]; exact h
        | false => rw [hb] at h; exact seeS_get h
      · exact seeS_get h
    · exact seeS_get h
omit [∀ t, Dt (D t)] in
theorem seeT_ok {ops : Array Oper} {base : St D} {recs : List (Rc D)} {i t : Nat} {s : SV D} (h : seeT ops base recs i t = some s) : (∃ j rj, recs[j]? = some rj ∧ dstOf ops j = some t ∧ rch ops 40 i j = true ∧ (s = rj.u ∨ ∃ b, rj.kv = some b ∧ s = .k b)) ∨ ((∀ j, dstOf ops j = some t → rch ops 40 j i = true) ∧ getS base.sl t = some s) := by
  unfold seeT at h
  split at h
  · rename_i j hj
    have hj := List.find?_some hj
    simp only [Bool.and_eq_true] at hj
    obtain ⟨rj, h1, h2⟩ := Option.map_eq_some_iff.1 h
    refine .inl ⟨j, rj, h1, isDst_ok hj.1, hj.2, ?_⟩
    unfold valR at h2
    split at h2
    · rename_i b hb; exact .inr ⟨b, hb, h2.symm⟩
    · exact .inl h2.symm
  · obtain ⟨h1, h2⟩ := cif h
    refine .inr ⟨fun j hj => ?_, h2⟩
    rw [List.all_eq_true] at h1
    have hjn : j < ops.size := by
      rcases Nat.lt_or_ge j ops.size with h3 | h3
      · exact h3
      · rw [dstOf, Array.getElem?_eq_none_iff.2 h3] at hj; cases hj
    have h3 := h1 j (List.mem_range.2 hjn)
    have : isDst ops j t = true := by
      unfold isDst; rw [hj]; exact Nat.beq_refl t
    rw [this] at h3
    simpa using h3
def quE (P : Program) (tb : Tb D) (st : St D) (fr : List (Nat × Blk D)) (op : Op) (vs : List (SV D)) : OR D := match exE P tb (st.lk fr) op vs with
  | some r => some r
  | none => opSl P st fr op vs
def ctD (P : Program) (tb : Tb D) (c : Ct D) (st : St D) (fr : List (Nat × Blk D)) (xs : List Operand) (K : SV D → Bool → List (Nat × Blk D) → Nat → Prop) : Prop := match vals2 st fr xs with
  | some vs => match ctData P tb c (st.frzL (ownIdsL vs)) fr xs with
    | some x => ∃ y, c.W x (fun z => z = y) ∧ (match resE P tb c.rs c.own y st.nx with
      | some (s, b, m) => match c.bw with
        | true => cdP (scal s) (K s false [] st.nx) False
        | false => K s true (b ++ (st.frzL (ownIdsL vs)).bk) m
      | none => False)
    | none => False
  | none => False
def stepD (E : Env D) (fr : List (Nat × Blk D)) (o : Oper) (st : St D) (K : SV D → Bool → List (Nat × Blk D) → Nat → Prop) : Prop := match o.op with
  | .move x => match evO st.sl x with
    | some v => K v false [] st.nx
    | none => False
  | .assign x => match evO st.sl x with
    | some v => K v false [] st.nx
    | none => False
  | .pick c a b => match (evO st.sl c).map (res st.kn), evO st.sl a, evO st.sl b with
    | some (.k true), some v, _ => K v false [] st.nx
    | some (.k false), _, some v => K v false [] st.nx
    | _, _, _ => False
  | .call ⟨.value g, xs, _⟩ => match (evO st.sl g).map (res st.kn) with
    | some (.fn f []) => match findC f E.cts with
      | some c => cdP (entB E.P f) (ctD E.P E.tb c st fr xs.toList K) False
      | none => False
    | _ => False
  | op => cdP (isDefer op) False <| match opVals st fr op with
    | some vs0 => match prepIds op vs0, quE E.P E.tb st fr op vs0 with
      | [], some (gs, v) => AndL gs (K v false [] st.nx)
      | ids, _ => match opVals (st.frzL ids) fr op with
        | some vs => match opE E.P E.tb (st.frzL ids) fr op vs with
          | some (gs, v, st') => AndL gs (K v true st'.bk st'.nx)
          | none => False
        | none => False
    | none => False
variable {E : Env D} {fr : List (Nat × Blk D)} {F : List Ent} {w0 w : World} {H0 H : Hp} {R : List Ent} {ρ : RM} {L : List Ent} {st : St D} {σ : Nat → Value}
omit [∀ t, Dt (D t)] in
theorem eff_kn (st : St D) (e : Ef D) : (st.eff e).kn = st.kn := by cases e <;> rfl
theorem opE_kn {P : Program} {tb : Tb D} {st st' : St D} {op : Op} {vs : List (SV D)} {gs : List Prop} {v : SV D} (h : opE P tb st fr op vs = some (gs, v, st')) : st'.kn = st.kn := by
  unfold opE at h
  split at h
  · cases h; rfl
  · split at h
    · cases h; rfl
    · split at h
      · cases h; exact eff_kn _ _
      · cases h
def RunOk (P : Program) (G : Hp → Prop) (fr : List (Nat × Blk D)) (kn : List (Nat × SV D)) (ops : Array Oper) (o : Oper) (r : Rc D) : Prop := (r.eat = false ∧ r.nb = [] ∧ Quiet P G fr kn ops o r) ∨ (r.eat = true ∧ Takes P G fr kn ops o r)
theorem RunOk.ex {P : Program} {G : Hp → Prop} {ops : Array Oper} {o : Oper} {v : SV D} {us : List Nat} {kv : Option Bool} {hi : Nat} (hnd : isDefer o.op = false) (h : ∀ {F : List Ent} {w0 w : World} {H0 H : Hp} {R : List Ent} {ρ : RM} {L : List Ent} {σ : Nat → Value}, Sat fr F w0 H0 R H ρ L st σ w → ∃ z, Ex P σ o.op o.type w z w ∧ Rv H ρ z v) : RunOk P G fr st.kn ops o ⟨st.sl, us, st.bk, false, st.nx, hi, v, kv, true, []⟩ := by
  refine .inl ⟨rfl, rfl, fun _ hs hg hd k => ?_⟩
  obtain ⟨z, h1, h2⟩ := h (show Sat _ _ _ _ _ _ _ _ st _ _ from hs)
  obtain ⟨d, op, ty, ps, af, gd⟩ := o
  exact RW.step h1 hnd hg hd (k z _ (fun _ h => h) h2)
theorem RunOk.dn {P : Program} {G : Hp → Prop} {ops : Array Oper} {o : Oper} {v : SV D} {us : List Nat} {kv : Option Bool} {st' : St D} (hkn : st'.kn = st.kn) (h : ∀ {F : List Ent} {w0 w : World} {H0 H : Hp} {R : List Ent} {ρ : RM} {L : List Ent} {σ : Nat → Value}, Sat fr F w0 H0 R H ρ L st σ w → ∃ H1, H.le H1 ∧ Dn P σ o.op o.type w (OutN st.nx fr F w0 H0 R H1 ρ σ st' v)) : RunOk P G fr st.kn ops o ⟨st.sl, us, st.bk, true, st.nx, st'.nx, v, kv, true, st'.bk⟩ := by
  refine .inr ⟨rfl, fun _ hs hg hd k => ?_⟩
  obtain ⟨H1, h0, h1⟩ := h (show Sat _ _ _ _ _ _ _ _ st _ _ from hs)
  obtain ⟨d, op, ty, ps, af, gd⟩ := o
  refine h1 hg hd fun x w' ho => k x w' ?_
  obtain ⟨H', ρ', L', h2, h3, h4, h5, h6⟩ := ho
  exact ⟨H', ρ', L', h0.trans h2, h3, h4, ⟨h5.mem, (fun t v hv => nomatch hv), h5.bk, h5.fr, hkn ▸ h5.kn, h5.nx⟩, h6⟩
theorem quE_ok {P : Program} {tb : Tb D} {ty : TypeId} (htb : TbOk tb) (hs : Sat fr F w0 H0 R H ρ L st σ w) {op : Op} {vs : List (SV D)} {gs : List Prop} {v : SV D} (hv : RvL H ρ (op.operands.toList.map (ev σ)) vs) (h : quE P tb st fr op vs = some (gs, v)) (hg : AllP gs) : ∃ z, Ex P σ op ty w z w ∧ Rv H ρ z v := by
  unfold quE at h
  split at h
  · rename_i r hr
    cases h
    exact exE_ok htb hs hv hr hg
  · exact opSl_ok hs hv h hg
theorem ctD_ok {G : Hp → Prop} (hG : GUp G) {P : Program} {tb : Tb D} {ops : Array Oper} {o : Oper} (htb : TbOk tb) {c : Ct D} {xs : Array Operand} {tys : Array TypeId} {g : Operand} (hc : c.Ok P tb G) (he : Enters P c.f) (ho : o.op = .call ⟨.value g, xs, tys⟩) (hgv : ∀ {H : Hp} {ρ : RM} {σ : Nat → Value}, SlR H ρ st.sl σ → KnR H ρ st.kn → ev σ g = .func (.func c.f) #[] #[]) {K : SV D → Bool → List (Nat × Blk D) → Nat → Prop} (h : ctD P tb c st fr xs.toList K) :
    ∃ v e nb hi, K v e nb hi ∧ ∀ us kv, RunOk P G fr st.kn ops o ⟨st.sl, us, st.bk, e, st.nx, hi, v, kv, true, nb⟩ := by
  unfold ctD at h
  split at h
  · rename_i vs hv
    split at h
    · rename_i x hx
      obtain ⟨y, hW, h⟩ := h
      split at h
      · rename_i s b m hre
        obtain ⟨d, op, ty, ps, af, gd⟩ := o
        have ho : op = .call ⟨.value g, xs, tys⟩ := ho
        subst ho
        have run : ∀ {F : List Ent} {w0 w : World} {H0 H : Hp} {R : List Ent} {ρ : RM} {L : List Ent} {σ : Nat → Value} {r : Option Nat} {md N : Nat} {Q : Exit → List Deferred → (Nat → Value) → World → Prop} {Dd : List Deferred}, G H0 → Sat fr F w0 H0 R H ρ L st σ w → gdOk ops σ gd = true → dstOk d N = true →
            (∀ v w' H1 L1 H' ρ' L', H.le H1 → Sat fr F w0 H0 R H1 ρ L1 (st.frzL (ownIdsL vs)) σ w → Mem w H1 w' H' L' → RM.le ρ ρ' → (∀ id, m ≤ id → ρ' id = none) → (∀ id, id < st.nx → ρ' id = ρ id) → Rv H' ρ' v s → BkR H' ρ' b L' → RW r md P N ops [] Q Dd (upd σ d v) w') → RW r md P N ops [⟨d, .call ⟨.value g, xs, tys⟩, ty, ps, af, gd⟩] Q Dd σ w := by
          intro F w0 w H0 H R ρ L σ r md N Q Dd h0 hs hgd hd k
          obtain ⟨H1, L1, hle1, hs1⟩ := hs.frzL (ownIdsL vs)
          have hA := ctData_ok htb hs1 hx
          have hR := hc x _ hW H1 _ (hG _ _ h0 hs1.mem.old) hA
          refine RW.enter he (hgv hs.sl hs.kn) (by simp) hgd hd ((hR w hs1.mem.agree).mono fun e w' ⟨v, H', L', h1, h2, h3⟩ => ⟨v, h1, (show ∃ H' L', Mem w H1 w' H' L' ∧ ∃ y', y' = y ∧ ResR P tb c.rs c.own y' H' v L' from ⟨H', L', h2, h3⟩)⟩) fun v w' ⟨H', L', hM, y', hy, hr⟩ => ?_
          subst hy
          obtain ⟨ρ', hρ, hm, hn, hlo, hvs, hb⟩ := hr st.nx ρ hs.nx s b m hre
          exact k v w' H1 L1 H' ρ' L' hle1 hs1 hM hρ hn hlo hvs hb
        split at h
        · obtain ⟨h1, h2⟩ := cifP h
          refine ⟨_, _, _, _, h2, fun us kv => .inl ⟨rfl, rfl, fun h0 hs hg hd k => ?_⟩⟩
          have hs : Sat _ _ _ _ _ _ _ _ st _ _ := hs
          exact run h0 hs hg hd fun v w' H1 L1 H' ρ' L' _ _ hM _ _ _ hvs _ => k v w' (fun M hMM => hMM.frame hM.below) (scal_ok h1 hvs)
        · refine ⟨_, _, _, _, h, fun us kv => .inr ⟨rfl, fun h0 hs hg hd k => ?_⟩⟩
          have hs : Sat _ _ _ _ _ _ _ _ st _ _ := hs
          refine run h0 hs hg hd fun v w' H1 L1 H' ρ' L' hle1 hs1 hM hρ hn hlo hvs hb => k v w' ⟨H', ρ', L' ++ L1, hle1.trans hM.old, hρ, hlo, ⟨?_, (fun t v hv => nomatch hv), hb.append (hs1.bk.mono hM.old hρ), hs.fr.mono (hle1.trans hM.old) hρ, hs.kn.mono (hle1.trans hM.old) hρ, hn⟩, hvs⟩
          rw [List.append_assoc]
          exact hs1.mem.comp hM
      · exact h.elim
    · exact h.elim
  · exact h.elim
theorem stepD_ok (hE : E.Ok) {ops : Array Oper} {o : Oper} {K : SV D → Bool → List (Nat × Blk D) → Nat → Prop} (h : stepD E fr o st K) : ∃ v e nb hi, K v e nb hi ∧ ∀ us kv, RunOk E.P E.G fr st.kn ops o ⟨st.sl, us, st.bk, e, st.nx, hi, v, kv, true, nb⟩ := by
  unfold stepD at h
  split at h
  · rename_i x hop
    split at h
    · rename_i v hv
      exact ⟨_, _, _, _, h, fun us kv => RunOk.ex (by rw [hop]; rfl) fun hs => ⟨_, by rw [hop]; exact Ex.move _ rfl, evO_ok hs.sl hv⟩⟩
    · exact h.elim
  · rename_i x hop
    split at h
    · rename_i v hv
      exact ⟨_, _, _, _, h, fun us kv => RunOk.ex (by rw [hop]; rfl) fun hs => ⟨_, by rw [hop]; exact Ex.assign _ rfl, evO_ok hs.sl hv⟩⟩
    · exact h.elim
  · rename_i c a b hop
    split at h
    · rename_i v hc ha
      obtain ⟨v0, hv0, hv1⟩ := Option.map_eq_some_iff.1 hc
      refine ⟨_, _, _, _, h, fun us kv => RunOk.ex (by rw [hop]; rfl) fun hs => ⟨_, ?_, evO_ok hs.sl ha⟩⟩
      have hv2 := hs.res (evO_ok hs.sl hv0)
      rw [hv1] at hv2
      rw [hop]; exact Ex.pickT _ hv2 rfl
    · rename_i v hc hb
      obtain ⟨v0, hv0, hv1⟩ := Option.map_eq_some_iff.1 hc
      refine ⟨_, _, _, _, h, fun us kv => RunOk.ex (by rw [hop]; rfl) fun hs => ⟨_, ?_, evO_ok hs.sl hb⟩⟩
      have hv2 := hs.res (evO_ok hs.sl hv0)
      rw [hv1] at hv2
      rw [hop]; exact Ex.pickF _ hv2 rfl
    · exact h.elim
  · rename_i g xs tys hop
    split at h
    · rename_i f hf
      obtain ⟨v0, hv0, hv1⟩ := Option.map_eq_some_iff.1 hf
      split at h
      · rename_i c hc
        obtain ⟨hen, h2⟩ := cifP h
        obtain ⟨hok, hcf⟩ := findC_ok hE.cts hc
        subst hcf
        refine ctD_ok hE.gm hE.tb hok (entB_ok hen) hop (fun hsl hkn => ?_) h2
        have hv2 := res_ok hkn (evO_ok hsl hv0)
        rw [hv1] at hv2
        obtain ⟨cs, e1, e2⟩ := hv2
        obtain rfl : cs = [] := e2
        exact e1
      · exact h.elim
    · exact h.elim
  · cases hdf : isDefer o.op with
    | true => rw [hdf] at h; exact (show False from h).elim
    | false =>
      rw [hdf, cdP_false] at h
      split at h
      · rename_i vs0 hvs0
        split at h
        · rename_i gs v hp hq
          obtain ⟨hgs, hk⟩ := AndL_ok h
          exact ⟨_, _, _, _, hk, fun us kv => RunOk.ex hdf fun hs => quE_ok hE.tb hs (opVals_ok hs hvs0) hq hgs⟩
        · split at h
          · rename_i vs hvs
            split at h
            · rename_i gs v st' ho
              obtain ⟨hgs, hk⟩ := AndL_ok h
              have hfz := frzL_sl (prepIds o.op vs0) st
              refine ⟨_, _, _, _, hk, fun us kv => RunOk.dn (st' := st') ?_ fun hs => ?_⟩
              · rw [opE_kn ho, hfz.2.1]
              · obtain ⟨H1, L1, hle1, hs1⟩ := hs.frzL (prepIds o.op vs0)
                refine ⟨H1, hle1, ?_⟩
                rw [← hfz.2.2]
                exact opE_ok hE.tb hs1 hdf (opVals_ok hs1 hvs) ho hgs
            · exact h.elim
          · exact h.elim
      · exact h.elim
end
end
section
section
variable {D : Nat → Type} [∀ t, Dt (D t)]
def passR (nx : Nat) : Rc D := ⟨[], [], [], false, nx, nx, .c undef, none, false, []⟩
def knowR : List (Rc D) → Nat → Bool → List (Rc D)
  | [], _, _ => []
  | r :: l, 0, b => ⟨r.sl, r.us, r.bi, r.eat, r.lo, r.hi, r.u, some b, r.g, r.nb⟩ :: l
  | r :: l, j + 1, b => r :: knowR l j b
def kvOf : SV D → Option Bool
  | .k b => some b
  | _ => none
inductive GdD (D : Nat → Type) where
  | yes | no | bad
  | ask (j : Nat) (v : SV D) (want : Bool)
def gdD (ops : Array Oper) (recs : List (Rc D)) (i : Nat) (gd : Option (Nat × Bool)) : GdD D := match gd with
  | none => .yes
  | some (j, want) => bif (dstOf ops j).isSome && rch ops 40 i j then (match recs[j]? with
    | some rj => match rj.kv with
      | some b => bif b == want then .yes else .no
      | none => match rj.u with
        | .c v => bif isBoolV v then .bad else .no
        | .b x => .ask j (.b x) want
        | .p p d => .ask j (.p p d) want
        | _ => .bad
    | none => .bad) else .bad
def oneD (E : Env D) (fr : List (Nat × Blk D)) (ops : Array Oper) (base : St D) (i : Nat) (o : Oper) (recs : List (Rc D)) (nx : Nat) (K : List (Rc D) → Nat → Prop) : Prop :=
  stepD E fr o ⟨miniS ops base recs i o, (miniU ops base recs i o).flatMap (nbU recs base.bk ops.size), base.kn, nx⟩ fun v e nb hi =>
    cdP ((lowS nx (miniS ops base recs i o) && (lowK nx ((miniU ops base recs i o).flatMap (nbU recs base.bk ops.size)) && (lowV hi v && lowK hi nb))) && (miniU ops base recs i o).all fun u => Nat.blt u recs.length || Nat.ble ops.size u) (K (recs ++ [⟨miniS ops base recs i o, miniU ops base recs i o, (miniU ops base recs i o).flatMap (nbU recs base.bk ops.size), e, nx, hi, v, kvOf v, true, nb⟩]) hi) False
def drawE (E : Env D) (fr : List (Nat × Blk D)) (ops : Array Oper) (base : St D) : Nat → List Oper → List (Rc D) → Nat → (List (Rc D) → Nat → Prop) → Prop
  | _, [], recs, nx, K => K recs nx
  | i, o :: l, recs, nx, K => match gdD ops recs i o.guard with
    | .yes => oneD E fr ops base i o recs nx fun recs nx => drawE E fr ops base (i + 1) l recs nx K
    | .no => drawE E fr ops base (i + 1) l (recs ++ [passR nx]) nx K
    | .ask j v want => askF v
        (cdP want (oneD E fr ops base i o (knowR recs j true) nx (fun recs nx => drawE E fr ops base (i + 1) l recs nx K)) (drawE E fr ops base (i + 1) l (knowR recs j true ++ [passR nx]) nx K))
        (cdP want (drawE E fr ops base (i + 1) l (knowR recs j false ++ [passR nx]) nx K) (oneD E fr ops base i o (knowR recs j false) nx fun recs nx => drawE E fr ops base (i + 1) l recs nx K))
    | .bad => False
def fzAt (pos : List Nat) : List PE → List Nat
  | [] => []
  | p :: r => bif eqL p.pos pos then p.fz else fzAt pos r
def drawF (E : Env D) (N : Nat) (fr : List (Nat × Blk D)) (ops : Array Oper) (st : St D) (K : St D → Prop) : Prop :=
  drawE E fr ops st 0 ops.toList [] st.nx fun recs nx => cdP (chkE ops N && (chain st.nx recs nx && chkR ops ops.size st.bk.length recs 0 recs)) (K ⟨finSl ops 0 recs st.sl, finBk recs st.bk ops.size (ops.size + st.bk.length), st.kn, nx⟩) False
def ExtR (recs recs' : List (Rc D)) : Prop := ∀ (j : Nat) (r : Rc D), recs[j]? = some r → ∃ r' : Rc D, recs'[j]? = some r' ∧ r'.u = r.u ∧ r'.nb = r.nb ∧ ∀ b, r.kv = some b → r'.kv = some b
omit [∀ t, Dt (D t)] in
theorem ExtR.snoc (recs : List (Rc D)) (r : Rc D) : ExtR recs (recs ++ [r]) := fun j q hq => ⟨q, by rw [List.getElem?_append_left (List.getElem?_eq_some_iff.1 hq).1]; exact hq, rfl, rfl, fun _ h => h⟩
omit [∀ t, Dt (D t)] in
theorem knowR_get : ∀ {recs : List (Rc D)} {j k : Nat} {b : Bool} {r : Rc D}, recs[k]? = some r → (knowR recs j b)[k]? = some (if k = j then ⟨r.sl, r.us, r.bi, r.eat, r.lo, r.hi, r.u, some b, r.g, r.nb⟩ else r)
  | [], _, _, _, _, h => by cases h
  | q :: l, 0, 0, b, r, h => by cases h; rfl
  | q :: l, 0, k + 1, b, r, h => by rw [if_neg (by omega)]; exact h
  | q :: l, j + 1, 0, b, r, h => by rw [if_neg (by omega)]; exact h
  | q :: l, j + 1, k + 1, b, r, h => by
    have := knowR_get (recs := l) (j := j) (k := k) (b := b) (r := r) (by simpa using h)
    show (knowR l j b)[k]? = _
    rw [this]
    by_cases hk : k = j
    · rw [if_pos hk, if_pos (by omega)]
    · rw [if_neg hk, if_neg (by omega)]
omit [∀ t, Dt (D t)] in
theorem knowR_len : ∀ {recs : List (Rc D)} {j : Nat} {b : Bool}, (knowR recs j b).length = recs.length
  | [], _, _ => rfl
  | _ :: _, 0, _ => rfl
  | _ :: l, j + 1, b => by
    show (knowR l j b).length + 1 = l.length + 1
    rw [knowR_len]
omit [∀ t, Dt (D t)] in
theorem ExtR.know {recs : List (Rc D)} {j : Nat} {b : Bool} (h : ∀ r : Rc D, recs[j]? = some r → r.kv = none) : ExtR recs (knowR recs j b) := fun k r hr => by
  refine ⟨_, knowR_get hr, ?_, ?_, fun c hc => ?_⟩
  · split <;> rfl
  · split <;> rfl
  · split
    · rename_i hk
      subst hk
      rw [h r hr] at hc; cases hc
    · exact hc
variable {E : Env D} {fr : List (Nat × Blk D)} {base : St D} {ops : Array Oper}
theorem Good.ext {P : Program} {G : Hp → Prop} {recs recs' : List (Rc D)} {i : Nat} {o : Oper} {r : Rc D} (hx : ExtR recs recs') (hu : ∀ u ∈ r.us, u < ops.size → u < recs.length) (h : Good P G fr base ops recs i o r) : Good P G fr base ops recs' i o r := by
  refine ⟨fun t s hts => ?_, ?_, h.kv, ?_, h.low, h.run⟩
  · rcases h.sl t s hts with ⟨j, rj, h1, h2, h3, h4⟩ | h5
    · obtain ⟨r', e1, e2, _, e3⟩ := hx j rj h1
      refine .inl ⟨j, r', e1, h2, h3, ?_⟩
      rcases h4 with h4 | ⟨b, h5, h6⟩
      · exact .inl (h4.trans e2.symm)
      · exact .inr ⟨b, e3 b h5, h6⟩
    · exact .inr h5
  · have hg := h.gd
    cases hgu : o.guard with
    | none => rw [hgu] at hg; exact hg
    | some jw =>
      obtain ⟨j, want⟩ := jw
      rw [hgu] at hg
      obtain ⟨rj, d, h1, h2, h3, h4⟩ := hg
      obtain ⟨r', e1, e2, _, e3⟩ := hx j rj h1
      refine ⟨r', d, e1, h2, h3, ?_⟩
      rcases h4 with ⟨b, h5, h6⟩ | ⟨v, h5, h6⟩
      · exact .inl ⟨b, e3 b h5, h6⟩
      · exact .inr ⟨v, e2.trans h5, h6⟩
  · rw [h.bi]
    have : ∀ (l : List Nat), (∀ u ∈ l, u < ops.size → u < recs.length) → l.flatMap (nbU recs base.bk ops.size) = l.flatMap (nbU recs' base.bk ops.size) := by
      intro l
      induction l with
      | nil => intro _; rfl
      | cons u l ih =>
        intro hl
        rw [List.flatMap_cons, List.flatMap_cons, ih fun v hv => hl v (by simp [hv])]
        congr 1
        unfold nbU
        cases hb : Nat.blt u ops.size with
        | false => rfl
        | true =>
          have hlt := hl u (by simp) (blt_lt hb)
          obtain ⟨r', e1, _, e2, _⟩ := hx u recs[u] (List.getElem?_eq_getElem hlt)
          rw [cond_true, cond_true, e1, List.getElem?_eq_getElem hlt]
          exact e2.symm
    exact this _ hu
def InvR (P : Program) (G : Hp → Prop) (fr : List (Nat × Blk D)) (base : St D) (ops : Array Oper) (recs : List (Rc D)) : Prop := ∀ (j : Nat) (o : Oper) (r : Rc D), ops[j]? = some o → recs[j]? = some r → Good P G fr base ops recs j o r ∧ ∀ u ∈ r.us, u < ops.size → u < recs.length
theorem InvR.snoc {P : Program} {G : Hp → Prop} {recs : List (Rc D)} {r : Rc D} {o : Oper} (hI : InvR P G fr base ops recs) (ho : ops[recs.length]? = some o) (hg : Good P G fr base ops recs recs.length o r) (hu : ∀ u ∈ r.us, u < ops.size → u < recs.length) : InvR P G fr base ops (recs ++ [r]) := by
  intro j o' q ho' hq
  rw [List.length_append]
  rcases Nat.lt_or_ge j recs.length with h | h
  · rw [List.getElem?_append_left h] at hq
    obtain ⟨h1, h2⟩ := hI j o' q ho' hq
    exact ⟨h1.ext (ExtR.snoc _ _) h2, fun u hu hn => Nat.lt_of_lt_of_le (h2 u hu hn) (Nat.le_add_right _ _)⟩
  · have hj : j = recs.length := by
      have := (List.getElem?_eq_some_iff.1 hq).1
      rw [List.length_append] at this
      have : j < recs.length + 1 := this
      omega
    subst hj
    rw [List.getElem?_append_right (Nat.le_refl _), Nat.sub_self] at hq
    cases hq
    rw [ho] at ho'; cases ho'
    exact ⟨hg.ext (ExtR.snoc _ _) hu, fun u hu' hn => Nat.lt_of_lt_of_le (hu u hu' hn) (Nat.le_add_right _ _)⟩
omit [∀ t, Dt (D t)] in
theorem getR_len {recs : List (Rc D)} {j : Nat} {r : Rc D} {recs' : List (Rc D)} (hlen : recs'.length = recs.length) (h : recs'[j]? = some r) : ∃ q, recs[j]? = some q := ⟨recs[j]'(by rw [← hlen]; exact (List.getElem?_eq_some_iff.1 h).1), List.getElem?_eq_getElem _⟩
theorem InvR.know {P : Program} {G : Hp → Prop} {recs : List (Rc D)} {j : Nat} {b : Bool} (hI : InvR P G fr base ops recs) (hn : ∀ r : Rc D, recs[j]? = some r → r.kv = none) (hb : ∀ r : Rc D, recs[j]? = some r → ∀ (H : Hp) (ρ : RM) (x : Value), Rv H ρ x r.u → x = .bool b) : InvR P G fr base ops (knowR recs j b) := by
  intro k o q ho hq
  obtain ⟨r, hr⟩ := getR_len knowR_len hq
  rw [knowR_get hr] at hq
  obtain ⟨h1, h2⟩ := hI k o r ho hr
  have h3 := h1.ext (ExtR.know (b := b) hn) h2
  cases hq
  split
  · rename_i hk
    subst hk
    exact ⟨⟨h3.sl, h3.gd, fun c hc H ρ x hx => by cases hc; exact hb r hr H ρ x hx, h3.bi, h3.low, h3.run⟩, fun u hu hlt => by rw [knowR_len]; exact h2 u hu hlt⟩
  · exact ⟨h3, fun u hu hlt => by rw [knowR_len]; exact h2 u hu hlt⟩
theorem askF_or {v : SV D} {a b : Prop} (h : askF v a b) : (a ∧ ∀ (H : Hp) (ρ : RM) (x : Value), Rv H ρ x v → x = .bool true) ∨ (b ∧ ∀ (H : Hp) (ρ : RM) (x : Value), Rv H ρ x v → x = .bool false) := by
  unfold askF at h
  split at h
  · rename_i y
    cases y with
    | true => exact .inl ⟨h.1 rfl, fun H ρ x hx => hx⟩
    | false => exact .inr ⟨h.2 (by simp), fun H ρ x hx => hx⟩
  · rename_i p d
    by_cases hp : p
    · exact .inl ⟨h.1 hp, fun H ρ x hx => (show x = _ from hx).trans (by rw [decide_eq_true hp])⟩
    · exact .inr ⟨h.2 hp, fun H ρ x hx => (show x = _ from hx).trans (by rw [decide_eq_false hp])⟩
  · exact h.elim
def GdOk (ops : Array Oper) (recs : List (Rc D)) (i : Nat) (gd : Option (Nat × Bool)) (g : Bool) : Prop := match gd with
  | none => g = true
  | some (j, want) => ∃ rj d, recs[j]? = some rj ∧ dstOf ops j = some d ∧ rch ops 40 i j = true ∧ ((∃ b, rj.kv = some b ∧ g = (b == want)) ∨ (∃ v, rj.u = .c v ∧ isBoolV v = false ∧ g = false))
omit [∀ t, Dt (D t)] in
theorem gdD_ok {recs : List (Rc D)} {i : Nat} {gd : Option (Nat × Bool)} : match gdD ops recs i gd with
    | .yes => GdOk ops recs i gd true
    | .no => GdOk ops recs i gd false
    | .ask j v want => ∃ rj, recs[j]? = some rj ∧ rj.kv = none ∧ rj.u = v ∧ ∀ b, GdOk ops (knowR recs j b) i gd (b == want)
    | .bad => True := by
  unfold gdD
  cases gd with
  | none => rfl
  | some jw =>
    obtain ⟨j, want⟩ := jw
    simp only
    cases hc : (dstOf ops j).isSome && rch ops 40 i j with
    | false => simp only [cond_false]
    | true =>
      simp only [cond_true]
      rw [Bool.and_eq_true] at hc
      obtain ⟨d, hd⟩ := Option.isSome_iff_exists.1 hc.1
      cases hr : recs[j]? with
      | none => trivial
      | some rj =>
        simp only
        cases hk : rj.kv with
        | some b =>
          simp only
          cases hb : b == want with
          | true => exact ⟨rj, d, hr, hd, hc.2, .inl ⟨b, hk, hb.symm⟩⟩
          | false => exact ⟨rj, d, hr, hd, hc.2, .inl ⟨b, hk, hb.symm⟩⟩
        | none =>
          simp only
          have ask : ∀ b, GdOk ops (knowR recs j b) i (some (j, want)) (b == want) := fun b => ⟨_, d, knowR_get hr, hd, hc.2, .inl ⟨b, by rw [if_pos rfl], rfl⟩⟩
          cases hu : rj.u with
          | c v =>
            simp only
            cases hv : isBoolV v with
            | true => trivial
            | false => exact ⟨rj, d, hr, hd, hc.2, .inr ⟨v, hu, hv, rfl⟩⟩
          | b x => exact ⟨rj, hr, hk, hu, ask⟩
          | p p i => exact ⟨rj, hr, hk, hu, ask⟩
          | _ => trivial
theorem passR_ok {P : Program} {G : Hp → Prop} {recs : List (Rc D)} {i nx : Nat} {o : Oper} (hg : GdOk ops recs i o.guard false) : Good P G fr base ops recs i o (passR nx) := by
  refine ⟨(fun t s h => by cases h), hg, (fun b h => by cases h), rfl, rfl, .inl ⟨rfl, rfl, fun _ hs hgd hd k => ?_⟩⟩
  obtain ⟨d, op, ty, ps, af, gd⟩ := o
  exact RW.pass hgd hd (k undef _ (fun _ h => h) rfl)
theorem oneD_ok (hE : E.Ok) {i nx : Nat} {o : Oper} {recs : List (Rc D)} {K : List (Rc D) → Nat → Prop} (hI : InvR E.P E.G fr base ops recs) (hlen : recs.length = i) (ho : ops[i]? = some o) (hg : GdOk ops recs i o.guard true) (h : oneD E fr ops base i o recs nx K) : ∃ recs' nx', K recs' nx' ∧ recs'.length = i + 1 ∧ InvR E.P E.G fr base ops recs' := by
  unfold oneD at h
  obtain ⟨v, e, nb, hi, h1, h2⟩ := stepD_ok (ops := ops) hE h
  obtain ⟨hc, hk⟩ := cifP h1
  rw [Bool.and_eq_true, List.all_eq_true] at hc
  have hu : ∀ u ∈ miniU ops base recs i o, u < ops.size → u < recs.length := fun u hu hn => by
    have := hc.2 u hu
    rw [Bool.or_eq_true] at this
    rcases this with h3 | h3
    · exact blt_lt h3
    · have := Nat.le_of_ble_eq_true h3; omega
  refine ⟨_, _, hk, by rw [List.length_append, hlen]; rfl, hI.snoc (by rw [hlen]; exact ho) ?_ hu⟩
  rw [hlen]
  refine ⟨fun t s hts => seeT_ok (seeS_get hts), hg, fun b hb H ρ x hx => ?_, rfl, hc.1, h2 _ _⟩
  have hb : kvOf v = some b := hb
  have hx : Rv H ρ x v := hx
  cases v <;> first | (cases hb; exact hx) | cases hb
theorem drawE_ok (hE : E.Ok) {K : List (Rc D) → Nat → Prop} : ∀ {l : List Oper} {i nx : Nat} {recs : List (Rc D)}, InvR E.P E.G fr base ops recs → recs.length = i → i + l.length = ops.size → (∀ k o, l[k]? = some o → ops[i + k]? = some o) → drawE E fr ops base i l recs nx K → ∃ recs' nx', K recs' nx' ∧ recs'.length = ops.size ∧ InvR E.P E.G fr base ops recs'
  | [], i, nx, recs, hI, hlen, hn, _, h => ⟨recs, nx, h, by rw [hlen, ← hn]; rfl, hI⟩
  | o :: l, i, nx, recs, hI, hlen, hn, hl, h => by
    have ho : ops[i]? = some o := hl 0 o rfl
    have hn' : i + 1 + l.length = ops.size := by rw [← hn, List.length_cons]; omega
    have hl' : ∀ k o, l[k]? = some o → ops[i + 1 + k]? = some o := fun k o' hk => by
      rw [show i + 1 + k = i + (k + 1) by omega]
      exact hl (k + 1) o' (by simpa using hk)
    have pass : ∀ {recs : List (Rc D)}, InvR E.P E.G fr base ops recs → recs.length = i → GdOk ops recs i o.guard false → drawE E fr ops base (i + 1) l (recs ++ [passR nx]) nx K → ∃ recs' nx', K recs' nx' ∧ recs'.length = ops.size ∧ InvR E.P E.G fr base ops recs' := fun hI hlen hg h =>
      drawE_ok hE (hI.snoc (by rw [hlen]; exact ho) (by rw [hlen]; exact passR_ok hg) fun u hu => by cases hu) (by rw [List.length_append, hlen]; rfl) hn' hl' h
    have one : ∀ {recs : List (Rc D)}, InvR E.P E.G fr base ops recs → recs.length = i → GdOk ops recs i o.guard true → (oneD E fr ops base i o recs nx fun recs nx => drawE E fr ops base (i + 1) l recs nx K) → ∃ recs' nx', K recs' nx' ∧ recs'.length = ops.size ∧ InvR E.P E.G fr base ops recs' := fun hI hlen hg h => by
      obtain ⟨recs', nx', h1, h2, h3⟩ := oneD_ok hE hI hlen ho hg h
      exact drawE_ok hE h3 h2 hn' hl' h1
    unfold drawE at h
    have hgd := gdD_ok (ops := ops) (recs := recs) (i := i) (gd := o.guard)
    split at h
    · rename_i hq; rw [hq] at hgd; exact one hI hlen hgd h
    · rename_i hq; rw [hq] at hgd; exact pass hI hlen hgd h
    · rename_i j v want hq
      rw [hq] at hgd
      obtain ⟨rj, hr, hk, hu, hgd⟩ := hgd
      have hn1 : ∀ r : Rc D, recs[j]? = some r → r.kv = none := fun r h => by rw [hr] at h; cases h; exact hk
      rcases askF_or h with ⟨h, hb⟩ | ⟨h, hb⟩
      · have hI' := hI.know (b := true) hn1 fun r h => by rw [hr] at h; cases h; rw [hu]; exact hb
        have := hgd true
        cases want with
        | true => exact one hI' (knowR_len.trans hlen) this h
        | false => exact pass hI' (knowR_len.trans hlen) this h
      · have hI' := hI.know (b := false) hn1 fun r h => by rw [hr] at h; cases h; rw [hu]; exact hb
        have := hgd false
        cases want with
        | true => exact pass hI' (knowR_len.trans hlen) this h
        | false => exact one hI' (knowR_len.trans hlen) this h
    · exact h.elim
theorem drawF_ok (hE : E.Ok) (hm : E.P.follows .mixedOrders = true) {F : List Ent} {w0 w : World} {H0 H : Hp} (h0 : E.G H0) {R : List Ent} {ρ : RM} {L : List Ent} {st : St D} {σ : Nat → Value} {N id : Nat} {rr : Option Nat} {md : Nat} {Q : Exit → List Deferred → (Nat → Value) → World → Prop} {Dd : List Deferred} {K : St D → Prop} (hs : Sat fr F w0 H0 R H ρ L st σ w) (h : drawF E N fr ops st K) (k : Goes fr F w0 H0 R H ρ K fun σ' w' => Q .normal Dd σ' w') : CW rr md E.P N (.region id ops true) Q Dd σ w := by
  unfold drawF at h
  obtain ⟨recs, nx, h1, h2, h3⟩ := drawE_ok (base := st) (ops := ops) (l := ops.toList) (i := 0) (recs := []) hE (fun j o r _ hr => by simp at hr) rfl (by rw [Nat.zero_add]; exact Array.length_toList) (fun k o hk => by rw [Nat.zero_add]; simpa using hk) h
  obtain ⟨hc, hk⟩ := cifP h1
  simp only [Bool.and_eq_true] at hc
  exact drawD_ok h0 hm hs hc.1 hc.2.1 hc.2.2 h2 (fun j o r ho hr => (h3 j o r ho hr).1) fun H' ρ' L' σ' w' g1 g2 _ g3 => k _ _ _ _ _ _ hk g1 g2 g3
end
end
section
section
variable {r : Option Nat} {m : Nat} {P : Program} {N : Nat} {Q : Exit → List Deferred → (Nat → Value) → World → Prop} {D : List Deferred} {σ : Nat → Value} {w : World}
theorem CW.loopD {c : Code} {β : Type} (Inv : β → List Deferred → (Nat → Value) → World → Prop) (μ : β → Nat) (b : β) (h0 : Inv b D σ w)
    (hr : ∀ b D σ w, Inv b D σ w → CW r m P N c (thenQ (fun D' σ' w' => ∃ b', Inv b' D' σ' w' ∧ μ b' < μ b) Q) D σ w) : CW r m P N (.loop c) Q D σ w := by
  intro a ha
  have hmin : ∀ (a : Act) (w : World), (∃ b D σ, Rep N D σ a ∧ Inv b D σ w) → ∃ k, (∃ b D σ, Rep N D σ a ∧ Inv b D σ w ∧ μ b = k) ∧ ∀ j, (∃ b D σ, Rep N D σ a ∧ Inv b D σ w ∧ μ b = j) → k ≤ j := by
    intro a w ⟨b, D, σ, h1, h2⟩
    exact least_of (fun k => ∃ b D σ, Rep N D σ a ∧ Inv b D σ w ∧ μ b = k) (μ b) ⟨b, D, σ, h1, h2, rfl⟩
  let M : Act → World → Nat := fun a w => by
    classical
    exact if h : ∃ b D σ, Rep N D σ a ∧ Inv b D σ w then Classical.choose (hmin a w h) else 0
  have hM : ∀ a w (h : ∃ b D σ, Rep N D σ a ∧ Inv b D σ w), (∃ b D σ, Rep N D σ a ∧ Inv b D σ w ∧ μ b = M a w) ∧ ∀ j, (∃ b D σ, Rep N D σ a ∧ Inv b D σ w ∧ μ b = j) → M a w ≤ j := by
    intro a w h
    have := Classical.choose_spec (hmin a w h)
    have e : M a w = Classical.choose (hmin a w h) := dif_pos h
    rw [e]
    exact this
  refine wpIn_loop (fun a w => ∃ b D σ, Rep N D σ a ∧ Inv b D σ w) M ⟨b, D, σ, ha, h0⟩ ?_
  intro a w hI
  obtain ⟨b, D, σ, h1, h2, h3⟩ := (hM a w hI).1
  refine wpIn_mono (hr b D σ w h2 a h1) ?_
  rintro e a' w' ⟨D', σ', h4, h5⟩
  cases e with
  | normal =>
    obtain ⟨b', h6, h7⟩ := h5
    have hI' : ∃ b D σ, Rep N D σ a' ∧ Inv b D σ w' := ⟨b', D', σ', h4, h6⟩
    refine ⟨hI', Nat.lt_of_le_of_lt ((hM a' w' hI').2 _ ⟨b', D', σ', h4, h6, rfl⟩) ?_⟩
    rw [← h3]
    exact h7
  | _ => exact ⟨D', σ', h4, h5⟩
end
def mkD (ms : List Nat) : List Deferred := ms.map mark
def mkO (ms : List Nat) : List Ent := ms.map fun b => .obj b ddO
theorem Iter.congr {P : Program} {g : FuncId} {lb : List Value} {H : Hp} {n : Nat} {args args' : Nat → List Value} (h : Iter P g lb H n args) (he : ∀ k, k < n → args k = args' k) : Iter P g lb H n args' := by
  intro l J Jx W h1 h2 h3 h4 h5
  exact h l J Jx W h1 h2 h3 (fun k A hk hJ hA => by rw [he k hk]; exact h4 k A hk hJ hA) h5
def Join {S : Type} (b : S → Prop) (r : (S → Prop) → Prop) : Prop := r b
section
variable {D : Nat → Type} [∀ t, Dt (D t)] {H : Hp} {ρ : RM}
def PksR (P : Program) : List Nat → List Value → List (List Value) → Prop
  | [], vs, cs => vs = [] ∧ cs = []
  | t :: r, vs, cs => ∃ v q c d, vs = v :: q ∧ cs = c :: d ∧ PkR P t v c ∧ PksR P r q d
def RvLL (H : Hp) (ρ : RM) : List (List Value) → List (List (SV D)) → Prop
  | us, [] => us = []
  | us, l :: m => ∃ u r, us = u :: r ∧ RvL H ρ u l ∧ RvLL H ρ r m
theorem argsC_cells {P : Program} : ∀ {ts : List Nat} {vs : List (SV D)} {xs : List Value} {ls : List (List (SV D))}, RvL H ρ xs vs → argsC P ts vs = some ls → ∃ cs, PksR P ts xs cs ∧ RvLL H ρ cs ls
  | [], [], xs, ls, hv, h => by cases h; exact ⟨[], ⟨hv, rfl⟩, rfl⟩
  | [], _ :: _, _, _, _, h => by cases h
  | _ :: _, [], _, _, _, h => by cases h
  | t :: r, v :: vs, xs, ls, ⟨y, q, e, h1, h2⟩, h => by
    rw [argsC] at h
    cases hl : argC P t v with
    | none => simp only [hl] at h; cases h
    | some l =>
      cases hm : argsC P r vs with
      | none => simp only [hl, hm] at h; cases h
      | some m =>
        simp only [hl, hm] at h
        cases h
        obtain ⟨c, g1, g2⟩ := argC_ok h1 hl
        obtain ⟨d, g3, g4⟩ := argsC_cells h2 hm
        exact ⟨c :: d, ⟨y, q, c, d, e, rfl, g1, g3⟩, c, d, rfl, g2, g4⟩
theorem packs_ok {P : Program} : ∀ {ts : List Nat} {ls : List (List (SV D))} {vs : List (SV D)} {xs : List Value} {cs : List (List Value)}, PksR P ts xs cs → RvLL H ρ cs ls → packs P ts ls = some vs → RvL H ρ xs vs
  | [], [], vs, xs, cs, ⟨h1, _⟩, _, h => by cases h; exact h1
  | [], _ :: _, _, _, _, _, _, h => by cases h
  | _ :: _, [], _, _, _, _, _, h => by cases h
  | t :: r, l :: m, vs, xs, cs, ⟨v, q, c, d, e1, e2, h1, h2⟩, ⟨u, s, e3, h3, h4⟩, h => by
    subst e2
    cases e3
    rw [packs] at h
    cases ha : packT P t l with
    | none => simp only [ha] at h; cases h
    | some a =>
      cases hb : packs P r m with
      | none => simp only [ha, hb] at h; cases h
      | some b =>
        simp only [ha, hb] at h
        cases h
        exact ⟨v, q, e1, packT_ok h1 h3 ha, packs_ok h2 h4 hb⟩
theorem argsR_cells {P : Program} {tb : Tb D} (htb : TbOk tb) : ∀ {ts : List Nat} {x : TupD D ts} {xs : List Value} {ls : List (List (SV D))}, ArgsR P H ts x xs → tupC tb ts x = some ls → ∃ cs, PksR P ts xs cs ∧ RvLL H ρ cs ls
  | [], x, xs, ls, h, hl => by cases hl; exact ⟨[], ⟨h, rfl⟩, rfl⟩
  | t :: r, x, xs, ls, ⟨v, cs, q, e, h1, h2, h3⟩, hl => by
    rw [tupC] at hl
    cases ha : toC tb t x.1 with
    | none => simp only [ha] at hl; cases hl
    | some a =>
      cases hb : tupC tb r x.2 with
      | none => simp only [ha, hb] at hl; cases hl
      | some b =>
        simp only [ha, hb] at hl
        cases hl
        obtain ⟨d, g1, g2⟩ := argsR_cells htb h3 hb
        exact ⟨cs :: d, ⟨v, q, cs, d, e, rfl, h1, g1⟩, cs, d, rfl, toC_ok htb ha h2, g2⟩
theorem argsR_len {P : Program} : ∀ {ts : List Nat} {x : TupD D ts} {xs : List Value}, ArgsR P H ts x xs → xs.length = ts.length
  | [], _, _, h => by rw [show _ = ([] : List Value) from h]; rfl
  | _ :: r, _, _, ⟨v, cs, q, e, _, _, h⟩ => by rw [e, List.length_cons, argsR_len h, List.length_cons]
def parS : List Nat → List (SV D) → List (Nat × SV D) → List (Nat × SV D)
  | p :: ps, v :: vs, l => parS ps vs (setS l p v)
  | _, _, l => l
theorem parS_ok : ∀ {ps : List Nat} {vs : List (SV D)} {xs : List Value} {l : List (Nat × SV D)} {σ : Nat → Value}, SlR H ρ l σ → RvL H ρ xs vs → SlR H ρ (parS ps vs l) (slp ps xs σ)
  | [], _, _, _, _, h, _ => by simpa [parS, slp] using h
  | _ :: _, [], xs, _, _, h, hv => by
    rw [show xs = ([] : List Value) from hv]
    simpa [parS, slp] using h
  | p :: ps, v :: vs, _, l, σ, h, ⟨x, q, e, h1, h2⟩ => by
    subst e
    exact parS_ok (ps := ps) (h.put h1 (some p)) h2
variable {fr : List (Nat × Blk D)} {F : List Ent} {w0 w : World} {H0 : Hp} {R L : List Ent} {st : St D} {σ : Nat → Value}
theorem mapRs_ok (hs : Sat fr F w0 H0 R H ρ L st σ w) : ∀ {l : List (SV D)} {vs : List Value}, RvL H ρ vs l → RvL H ρ vs (l.map fun v => rsD (st.lk fr) (resD st.kn v))
  | [], _, h => h
  | _ :: _, _, ⟨v, r, h1, h2, h3⟩ => ⟨v, r, h1, rsD_ok hs (resD_ok hs h2), mapRs_ok hs h3⟩
def capE (tb : Tb D) (st : St D) (fr : List (Nat × Blk D)) (t : Nat) (v : SV D) : Option (D t) := match v with
  | .ptr id 0 => match st.lk fr id with
    | some (.fbx T us) => bif Nat.beq T t then ofC tb t (us.map fun v => rsD (st.lk fr) (resD st.kn v)) else none
    | _ => none
  | _ => none
def capsE (tb : Tb D) (st : St D) (fr : List (Nat × Blk D)) : (cs : List Nat) → List (SV D) → Option (TupD D cs)
  | [], [] => some ()
  | [], _ :: _ => none
  | _ :: _, [] => none
  | t :: r, v :: q => match capE tb st fr t v, capsE tb st fr r q with
    | some x, some y => some (x, y)
    | _, _ => none
theorem capE_ok {tb : Tb D} (htb : TbOk tb) (hs : Sat fr F w0 H0 R H ρ L st σ w) {t : Nat} {v : SV D} {y : Value} {x : D t} (hv : Rv H ρ y v) (h : capE tb st fr t v = some x) : ∃ b us, y = .pointer (some ⟨b, 0, none⟩) ∧ H b = some (.cells (us : List Value).toArray t (0, 0)) ∧ Dt.rd (α := D t) H us x := by
  unfold capE at h
  split at h
  · rename_i id
    split at h
    · rename_i T us hl
      have hT := cif h
      clear h
      obtain ⟨hT, h⟩ := hT
      obtain rfl := Nat.eq_of_beq_eq_true hT
      obtain ⟨L1, S, L2, ⟨_, c, vs, g1, g2, g3⟩, _⟩ := hs.read hl
      obtain ⟨c', g4, g5⟩ := hv
      rw [g1] at g4; cases g4
      exact ⟨c, vs, g5, g2, ofC_ok htb h (mapRs_ok hs g3)⟩
    · cases h
  · cases h
theorem capsE_ok {tb : Tb D} (htb : TbOk tb) (hs : Sat fr F w0 H0 R H ρ L st σ w) : ∀ {cs : List Nat} {l : List (SV D)} {lb : List Value} {x : TupD D cs}, RvL H ρ lb l → capsE tb st fr cs l = some x → CapsR H cs x lb
  | [], [], _, _, hv, _ => hv
  | [], _ :: _, _, _, _, h => by cases h
  | _ :: _, [], _, _, _, h => by cases h
  | t :: r, v :: q, lb, x, ⟨y, p, e, h1, h2⟩, h => by
    rw [capsE] at h
    cases ha : capE tb st fr t v with
    | none => simp only [ha] at h; cases h
    | some a =>
      cases hb : capsE tb st fr r q with
      | none => simp only [ha, hb] at h; cases h
      | some b =>
        simp only [ha, hb] at h
        cases h
        obtain ⟨c, us, g1, g2, g3⟩ := capE_ok htb hs h1 ha
        exact ⟨c, us, p, by rw [e, g1], g2, g3, capsE_ok htb hs h2 hb⟩
end
section
variable {D : Nat → Type} [∀ t, Dt (D t)]
def partB (ids : List Nat) : List (Nat × Blk D) → List (Nat × Blk D) × List (Nat × Blk D)
  | [] => ([], [])
  | q :: r => match partB ids r with
    | (a, b) => bif ids.any (Nat.beq q.1) then (q :: a, b) else (a, q :: b)
theorem partB_ok {ids : List Nat} {H : Hp} {ρ : RM} : ∀ {bk a b : List (Nat × Blk D)} {L : List Ent}, BkR H ρ bk L → partB ids bk = (a, b) → ∃ La Lb, L.Perm (Lb ++ La) ∧ BkR H ρ a La ∧ BkR H ρ b Lb
  | [], a, b, L, h, hp => by
    cases hp
    exact ⟨[], [], by rw [show L = [] from h]; exact List.Perm.refl _, rfl, rfl⟩
  | (id, q) :: r, a, b, L, ⟨S, L', h1, h2, h3⟩, hp => by
    rcases hr : partB ids r with ⟨a', b'⟩
    obtain ⟨La, Lb, g1, g2, g3⟩ := partB_ok h3 hr
    unfold partB at hp
    rw [hr] at hp
    cases hb : ids.any (Nat.beq id) with
    | true =>
      simp only [hb, cond_true] at hp
      cases hp
      refine ⟨S ++ La, Lb, ?_, ⟨S, La, rfl, h2, g2⟩, g3⟩
      rw [h1]
      refine (List.Perm.append_left S g1).trans ?_
      rw [← List.append_assoc, ← List.append_assoc]
      exact List.Perm.append_right La List.perm_append_comm
    | false =>
      simp only [hb, cond_false] at hp
      cases hp
      refine ⟨La, S ++ Lb, ?_, g2, S, Lb, rfl, h2, g3⟩
      rw [h1, List.append_assoc]
      exact List.Perm.append_left S g1
def findP (pos : List Nat) : List PE → Option PE
  | [] => none
  | p :: r => bif eqL p.pos pos then some p else findP pos r
def splitE (pe : PE) (st : St D) : List (Nat × Blk D) × St D := match (st.frzL pe.fz).tag with
  | ⟨sl, bk, kn, nx⟩ => match partB pe.kp bk with
    | (k, v) => (k, ⟨sl, v, kn, nx⟩)
def fillE (tp : Tp) (nx : Nat) (st : St D) (fr : List (Nat × Blk D)) : Option (TupV D tp.vts) := match insT tp nx st fr with
  | some cs => tyL tp.vts cs
  | none => none
def makeE (tp : Tp) (nx : Nat) (kn : List (Nat × SV D)) (s : TupV D tp.vts) : Option (St D) := mkT tp nx kn (cvL tp.vts s)
def St.back (st : St D) (kept : List (Nat × Blk D)) : St D := ⟨st.sl, st.bk ++ kept, st.kn, st.nx⟩
def St.withSl (st : St D) (l : List (Nat × SV D)) : St D := ⟨l, st.bk, st.kn, st.nx⟩
def runC (E : Env D) (cI : CallI D) (N : Nat) (rd : Bool) : Code → List Nat → List (Nat × Blk D) → St D → (Exit → St D → Prop) → Prop
  | .skip, _, _, st, K => K .normal st
  | .ret, _, _, st, K => K .ret st
  | .exit id, _, _, st, K => K (.exit id) st
  | .region _ ops false, pos, fr, st, K => runR E cI N fr pos ops 0 ops.toList st (K .normal)
  | .region _ ops true, pos, fr, st, K => drawF E N fr ops (st.frzL (fzAt pos E.plan)) (K .normal)
  | .cond c a b, pos, fr, st, K => match (evO st.sl c).map (res st.kn) with
    | some (.k true) => runC E cI N rd a (2 :: pos) fr st K
    | some (.k false) => runC E cI N rd b (3 :: pos) fr st K
    | some s => askF s (runC E cI N rd a (2 :: pos) fr (st.know c true) K) (runC E cI N rd b (3 :: pos) fr (st.know c false) K)
    | none => False
  | .block id c, pos, fr, st, K => runC E cI N rd c (4 :: pos) fr st fun e st' => match e with
    | .exit id' => cdP (Nat.beq id' id) (K .normal st') (K (.exit id') st')
    | e => K e st'
  | .seq a b, pos, fr, st, K => match findP pos E.plan with
    | none => runC E cI N rd a (0 :: pos) fr st fun e st' => match e with
      | .normal => runC E cI N rd b (1 :: pos) fr st' K
      | e => K e st'
    | some pe => match splitE pe st with
      | (kept, st1) => Join (fun s => match makeE pe.tp st1.nx st1.kn s with
        | some st2 => runC E cI N rd b (1 :: pos) fr (st2.back kept) K
        | none => False) fun J => runC E cI N rd a (0 :: pos) (kept ++ fr) st1 fun e st' => match e with
        | .normal => match fillE pe.tp st1.nx st' (kept ++ fr) with
          | some s => J s
          | none => False
        | e => K e (st'.back kept)
  | .loop c, pos, fr, st, K => match findP pos E.plan with
    | none => False
    | some pe => match splitE pe st with
      | (kept, st1) => match fillE pe.tp st1.nx st1 (kept ++ fr) with
        | some s0 => LoopW (fun s rec => match makeE pe.tp st1.nx st1.kn s with
          | some st2 => runC E cI N rd c (5 :: pos) (kept ++ fr) st2 fun e st' => match e with
            | .normal => match fillE pe.tp st1.nx st' (kept ++ fr) with
              | some s' => rec s'
              | none => False
            | e => K e (st'.back kept)
          | none => False) s0
        | none => False
  | .rangeFunc g ps assign body, pos, fr, st, K => match rd with
    | true => False
    | false => match (evO st.sl g).map (res st.kn) with
      | some (.fn gf caps) => match findP pos E.plan with
        | some pe => match findI gf E.its with
          | some it => cdP (entB E.P gf && ((ps.toList.all fun p => Nat.blt p N) && Nat.beq ps.size it.ts.length)) (match splitE pe st with
            | (kept, st1) => match capsE E.tb st1 (kept ++ fr) it.cs caps with
              | some cx => match fillE pe.tp st1.nx st1 (kept ++ fr) with
                | some s0 => ∃ l, it.W cx l ∧ LoopW (fun (q : List (TupD D it.ts) × TupV D pe.tp.vts) rec => match makeE pe.tp st1.nx st1.kn q.2 with
                  | some st2 => match q.1 with
                    | [] => K .normal ((st2.withSl st1.sl).back kept)
                    | x :: r => match tupC E.tb it.ts x with
                      | some ls => match packs E.P it.ts ls with
                        | some vs => runC E cI N true assign (6 :: pos) (kept ++ fr) (st2.withSl (parS ps.toList vs st1.sl)) fun e st3 => match e with
                          | .normal => runC E cI N true body (7 :: pos) (kept ++ fr) st3 fun e st4 => match e with
                            | .normal => match fillE pe.tp st1.nx st4 (kept ++ fr) with
                              | some s' => rec (r, s')
                              | none => False
                            | .ret => K .ret ((st4.withSl st1.sl).back kept)
                            | .exit id => K (.exit id) ((st4.withSl st1.sl).back kept)
                            | _ => False
                          | _ => False
                        | none => False
                      | none => False
                  | none => False) (l, s0)
                | none => False
              | none => False) False
          | none => False
        | none => False
      | _ => False
  | _, _, _, _, _ => False
variable {E : Env D} {cI : CallI D} {fr : List (Nat × Blk D)} {F : List Ent} {w0 w : World} {H0 H : Hp} {R : List Ent} {ρ : RM} {L : List Ent} {st : St D} {σ : Nat → Value}
theorem splitE_ok {pe : PE} {kept : List (Nat × Blk D)} {st1 : St D} (hs : Sat fr F w0 H0 R H ρ L st σ w) (h : splitE pe st = (kept, st1)) : ∃ H1 ρ1 Lk Lv, H.le H1 ∧ RM.le ρ ρ1 ∧ BkR H1 ρ1 kept Lk ∧ BkR H1 ρ1 fr F ∧ Sat (kept ++ fr) (Lk ++ F) w0 H0 R H1 ρ1 Lv st1 σ w := by
  obtain ⟨H1, L1, h1, hs1⟩ := hs.frzL pe.fz
  obtain ⟨ρ1, h2, hs2⟩ := hs1.tag
  unfold splitE at h
  generalize (st.frzL pe.fz).tag = st2 at h hs2
  obtain ⟨sl, bk, kn, nx⟩ := st2
  rcases hp : partB pe.kp bk with ⟨k, v⟩
  simp only [hp] at h
  cases h
  obtain ⟨La, Lb, g1, g2, g3⟩ := partB_ok hs2.bk hp
  refine ⟨H1, ρ1, La, Lb, h1, h2, g2, hs2.fr, ?_, hs2.sl, g3, g2.append hs2.fr, hs2.kn, hs2.nx⟩
  refine hs2.mem.perm ?_
  have := g1.append_right (F ++ R)
  rwa [List.append_assoc, ← List.append_assoc La] at this
theorem Sat.back {kept : List (Nat × Blk D)} {Lk : List Ent} (hs : Sat (kept ++ fr) (Lk ++ F) w0 H0 R H ρ L st σ w) (hk : BkR H ρ kept Lk) (hf : BkR H ρ fr F) : Sat fr F w0 H0 R H ρ (L ++ Lk) (st.back kept) σ w :=
  ⟨by have := hs.mem; rwa [List.append_assoc Lk, ← List.append_assoc] at this, hs.sl, hs.bk.append hk, hf, hs.kn, hs.nx⟩
theorem le_low {ρ1 ρ ρ' : RM} {nx : Nat} (h1 : ∀ id, nx ≤ id → ρ1 id = none) (h2 : RM.le ρ1 ρ) (h3 : ∀ n, n < nx → ρ' n = ρ n) : RM.le ρ1 ρ' := fun id q hq => by
  have : id < nx := by
    rcases Nat.lt_or_ge id nx with h | h
    · exact h
    · rw [h1 id h] at hq; cases hq
  rw [h3 id this]
  exact h2 id q hq
theorem fillE_ok {tp : Tp} {nx : Nat} {kn : List (Nat × SV D)} {s : TupV D tp.vts} {H1 : Hp} {ρ1 : RM} (h1 : ∀ id, nx ≤ id → ρ1 id = none) (hH : H1.le H) (hρ : RM.le ρ1 ρ) (hkn : KnR H1 ρ1 kn) (hfr : BkR H1 ρ1 fr F) (hs : Sat fr F w0 H0 R H ρ L st σ w) (h : fillE tp nx st fr = some s) : ∃ ρ' L' st', makeE tp nx kn s = some st' ∧ RM.le ρ1 ρ' ∧ Sat fr F w0 H0 R H ρ' L' st' σ w := by
  unfold fillE at h
  split at h
  · rename_i cs hcs
    obtain ⟨ρ', L', st', h2, h3, h4⟩ := insT_ok (kn := kn) hs (fun ρ' hl => hkn.mono hH (le_low h1 hρ hl)) (fun ρ' hl => hfr.mono hH (le_low h1 hρ hl)) hcs
    refine ⟨ρ', L', st', ?_, le_low h1 hρ h3, h4⟩
    unfold makeE
    rw [tyL_ok h]
    exact h2
  · cases h
def GoesM (rd : Bool) (ms : List Nat) (fr : List (Nat × Blk D)) (F : List Ent) (w0 : World) (H0 : Hp) (R : List Ent) (H : Hp) (ρ : RM) (K : St D → Prop) (T : List Nat → (Nat → Value) → World → Prop) : Prop := ∀ ms' st' σ' w' H' ρ' L', K st' → (rd = true → ms' = ms) → H.le H' → RM.le ρ ρ' → Sat fr F w0 H0 (mkO ms' ++ R) H' ρ' L' st' σ' w' → T ms' σ' w'
theorem GoesM.mono {rd : Bool} {ms ms1 : List Nat} {H' : Hp} {ρ' : RM} {K : St D → Prop} {T : List Nat → (Nat → Value) → World → Prop} (h : GoesM rd ms fr F w0 H0 R H ρ K T) (hm : rd = true → ms1 = ms) (hH : H.le H') (hρ : RM.le ρ ρ') : GoesM rd ms1 fr F w0 H0 R H' ρ' K T := fun ms' st σ w H2 ρ2 L hk hm' h1 h2 hs => h ms' st σ w H2 ρ2 L hk (fun e => (hm' e).trans (hm e)) (hH.trans h1) (hρ.trans h2) hs
theorem GoesM.go {rd : Bool} {ms : List Nat} {K : St D → Prop} {T : List Nat → (Nat → Value) → World → Prop} (h : GoesM rd ms fr F w0 H0 R H ρ K T) (hk : K st) (hs : Sat fr F w0 H0 (mkO ms ++ R) H ρ L st σ w) : T ms σ w := h _ _ _ _ _ _ _ hk (fun _ => rfl) (Hp.le.refl _) (RM.le.refl _) hs
theorem GoesM.goes {rd : Bool} {ms : List Nat} {K : St D → Prop} {T : List Nat → (Nat → Value) → World → Prop} (h : GoesM rd ms fr F w0 H0 R H ρ K T) : Goes fr F w0 H0 (mkO ms ++ R) H ρ K (T ms) := fun st σ w H2 ρ2 L hk h1 h2 hs => h ms st σ w H2 ρ2 L hk (fun _ => rfl) h1 h2 hs
theorem Sat.withSl (hs : Sat fr F w0 H0 R H ρ L st σ w) {l : List (Nat × SV D)} {σ' : Nat → Value} (h : SlR H ρ l σ') : Sat fr F w0 H0 R H ρ L (st.withSl l) σ' w := ⟨hs.mem, h, hs.bk, hs.fr, hs.kn, hs.nx⟩
theorem Sat.reR {R' : List Ent} {w' : World} (hs : Sat fr F w0 H0 R H ρ L st σ w) (h : Mem w0 H0 w' H (L ++ (F ++ R'))) : Sat fr F w0 H0 R' H ρ L st σ w' := ⟨h, hs.sl, hs.bk, hs.fr, hs.kn, hs.nx⟩
theorem perm_end (A B C : List Ent) (x : Ent) (R : List Ent) : (A ++ (B ++ (C ++ R)) ++ [x]).Perm (A ++ (B ++ (x :: C ++ R))) := by
  rw [List.append_assoc, List.append_assoc]
  refine List.Perm.append_left A (List.Perm.append_left B ?_)
  exact List.perm_append_comm
theorem runC_ok (hE : E.Ok) (h0 : E.G H0) (hI : CallOk E.P E.G cI) {N : Nat} : ∀ (c : Code) {rd : Bool} {ms : List Nat} {R : List Ent} {pos : List Nat} {fr : List (Nat × Blk D)} {F : List Ent} {H : Hp} {ρ : RM} {L : List Ent} {st : St D} {σ : Nat → Value} {w : World} {K : Exit → St D → Prop} {Q : Exit → List Deferred → (Nat → Value) → World → Prop} {r : Option Nat} {md : Nat},
    (rd = false → r = none ∧ md = 0) → Sat fr F w0 H0 (mkO ms ++ R) H ρ L st σ w → runC E cI N rd c pos fr st K → (∀ e, GoesM rd ms fr F w0 H0 R H ρ (K e) fun ms' σ' w' => Q e (mkD ms') σ' w') → CW r md E.P N c Q (mkD ms) σ w := by
  intro c
  induction c with
  | skip => intro rd ms R pos fr F H ρ L st σ w K Q r md hr hs h hk; exact CW.skip ((hk _).go h hs)
  | ret => intro rd ms R pos fr F H ρ L st σ w K Q r md hr hs h hk; exact CW.ret ((hk _).go h hs)
  | exit id => intro rd ms R pos fr F H ρ L st σ w K Q r md hr hs h hk; exact CW.exit ((hk _).go h hs)
  | region id ops draw =>
    intro rd ms R pos fr F H ρ L st σ w K Q r md hr hs h hk
    cases draw with
    | false =>
      obtain ⟨l⟩ := ops
      exact CW.region (runR_ok hE h0 hI hs h (hk .normal).goes)
    | true =>
      obtain ⟨H1, L1, h1, hs1⟩ := hs.frzL (fzAt pos E.plan)
      exact drawF_ok hE hE.mo h0 hs1 h ((hk .normal).goes.mono h1 (RM.le.refl _))
  | cond c a b iha ihb =>
    intro rd ms R pos fr F H ρ L st σ w K Q r md hr hs h hk
    unfold runC at h
    cases hc : (evO st.sl c).map (res st.kn) with
    | none => simp only [hc] at h
    | some s =>
      obtain ⟨v0, hv0, hv1⟩ := Option.map_eq_some_iff.1 hc
      have hv2 := hs.res (evO_ok hs.sl hv0)
      rw [hv1] at hv2
      simp only [hc] at h
      have ask : askF s (runC E cI N rd a (2 :: pos) fr (st.know c true) K) (runC E cI N rd b (3 :: pos) fr (st.know c false) K) → CW r md E.P N (.cond c a b) Q (mkD ms) σ w := fun h => by
        rcases askF_ok hv2 h with ⟨e, h⟩ | ⟨e, h⟩
        · exact CW.cond_true e (iha hr (hs.know e) h hk)
        · exact CW.cond_false e (ihb hr (hs.know e) h hk)
      cases s with
      | k x =>
        cases x with
        | true => exact CW.cond_true hv2 (iha hr hs h hk)
        | false => exact CW.cond_false hv2 (ihb hr hs h hk)
      | _ => exact ask h
  | block id c ih =>
    intro rd ms R pos fr F H ρ L st σ w K Q r md hr hs h hk
    refine CW.block (ih hr hs h fun e => ?_)
    intro ms' st' σ' w' H' ρ' L' h1 hm h2 h3 h4
    cases e with
    | exit id' =>
      show bif Nat.beq id' id then Q .normal _ σ' w' else Q (.exit id') _ σ' w'
      have h1 : cdP (Nat.beq id' id) (K .normal st') (K (.exit id') st') := h1
      cases hb : Nat.beq id' id with
      | true => rw [hb] at h1; exact hk _ _ _ _ _ _ _ _ h1 hm h2 h3 h4
      | false => rw [hb] at h1; exact hk _ _ _ _ _ _ _ _ h1 hm h2 h3 h4
    | _ => exact hk _ _ _ _ _ _ _ _ h1 hm h2 h3 h4
  | seq a b iha ihb =>
    intro rd ms R pos fr F H ρ L st σ w K Q r md hr hs h hk
    unfold runC at h
    split at h
    · refine CW.seq (iha hr hs h fun e => ?_)
      intro ms' st' σ' w' H' ρ' L' h1 hm h2 h3 h4
      cases e with
      | normal => exact ihb hr h4 h1 fun e => (hk e).mono hm h2 h3
      | _ => exact hk _ _ _ _ _ _ _ _ h1 hm h2 h3 h4
    · rename_i pe hpe
      rcases hsp : splitE pe st with ⟨kept, st1⟩
      simp only [hsp, Join] at h
      obtain ⟨H1, ρ1, Lk, Lv, g1, g2, g3, g4, g5⟩ := splitE_ok hs hsp
      refine CW.seq (iha hr g5 h fun e => ?_)
      intro ms' st' σ' w' H' ρ' L' h1 hm h2 h3 h4
      cases e with
      | normal =>
        show CW r md E.P N b Q _ σ' w'
        simp only at h1
        split at h1
        · rename_i s hfill
          obtain ⟨ρ2, L2, st2, e1, e2, e3⟩ := fillE_ok (kn := st1.kn) g5.nx h2 h3 g5.kn g5.fr h4 hfill
          simp only [e1] at h1
          exact ihb hr (e3.back (g3.mono h2 e2) (g4.mono h2 e2)) h1 fun e => (hk e).mono hm (g1.trans h2) (g2.trans e2)
        · exact h1.elim
      | _ => exact hk _ _ _ _ _ _ _ _ h1 hm (g1.trans h2) (g2.trans h3) (h4.back (g3.mono h2 h3) (g4.mono h2 h3))
  | loop c ih =>
    intro rd ms R pos fr F H ρ L st σ w K Q r md hr hs h hk
    unfold runC at h
    split at h
    · exact h.elim
    · rename_i pe hpe
      rcases hsp : splitE pe st with ⟨kept, st1⟩
      simp only [hsp] at h
      obtain ⟨H1, ρ1, Lk, Lv, g1, g2, g3, g4, g5⟩ := splitE_ok hs hsp
      split at h
      · rename_i s0 hs0
        obtain ⟨m, hm⟩ := h
        generalize hstep : (fun (s : TupV D pe.tp.vts) (rec : TupV D pe.tp.vts → Prop) => _) = step at hm
        obtain ⟨ρ2, L2, st2, e1, e2, e3⟩ := fillE_ok (kn := st1.kn) g5.nx (Hp.le.refl _) (RM.le.refl _) g5.kn g5.fr g5 hs0
        refine CW.loopD (β := Nat) (fun n D σ w => ∃ ms' s H' ρ' L' st', D = mkD ms' ∧ (rd = true → ms' = ms) ∧ H1.le H' ∧ RM.le ρ1 ρ' ∧ makeE pe.tp st1.nx st1.kn s = some st' ∧ Sat (kept ++ fr) (Lk ++ F) w0 H0 (mkO ms' ++ R) H' ρ' L' st' σ w ∧ LoopN step n s) (fun n => n) m ⟨ms, s0, H1, ρ2, L2, st2, rfl, fun _ => rfl, Hp.le.refl _, e2, e1, e3, hm⟩ ?_
        rintro n D' σ w ⟨ms', s, H', ρ', L', st', rfl, hm', f1, f2, f3, f4, f5⟩
        cases n with
        | zero => exact f5.elim
        | succ n =>
          have f5 : step s (LoopN step n) := f5
          rw [← hstep] at f5
          simp only [f3] at f5
          refine ih hr f4 f5 fun e => ?_
          intro ms3 st3 σ3 w3 H3 ρ3 L3 h1 hm3 h2 h3 h4
          cases e with
          | normal =>
            simp only at h1
            split at h1
            · rename_i s' hfill
              obtain ⟨ρ4, L4, st4, i1, i2, i3⟩ := fillE_ok (kn := st1.kn) g5.nx (f1.trans h2) (f2.trans h3) g5.kn g5.fr h4 hfill
              exact ⟨n, ⟨ms3, s', H3, ρ4, L4, st4, rfl, fun e => (hm3 e).trans (hm' e), f1.trans h2, i2, i1, i3, by rw [hstep] at h1; exact h1⟩, Nat.lt_succ_self _⟩
            · exact h1.elim
          | _ => exact hk _ _ _ _ _ _ _ _ h1 (fun e => (hm3 e).trans (hm' e)) ((g1.trans f1).trans h2) ((g2.trans f2).trans h3) (h4.back (g3.mono (f1.trans h2) (f2.trans h3)) (g4.mono (f1.trans h2) (f2.trans h3)))
      · exact h.elim
  | rangeFunc g ps assign body iha ihb =>
    intro rd ms R pos fr F H ρ L st σ w K Q r md hr hs h hk
    unfold runC at h
    cases rd with
    | true => exact h.elim
    | false =>
      obtain ⟨rfl, rfl⟩ := hr rfl
      simp only at h
      split at h
      · rename_i gf caps hg
        split at h
        · rename_i pe hpe
          split at h
          · rename_i it hit
            have hq := cifP h
            clear h
            obtain ⟨hb, h⟩ := hq
            simp only [Bool.and_eq_true] at hb
            obtain ⟨hen, hpN, hps⟩ := hb
            rcases hsp : splitE pe st with ⟨kept, st1⟩
            simp only [hsp] at h
            obtain ⟨H1, ρ1, Lk, Lv, g1, g2, g3, g4, g5⟩ := splitE_ok hs hsp
            split at h
            · rename_i cx hcx
              split at h
              · rename_i s0 hs0
                obtain ⟨hok, hf⟩ := findI_ok hE.its hit
                subst hf
                obtain ⟨v0, hv0, hv1⟩ := Option.map_eq_some_iff.1 hg
                have hv2 := hs.res (evO_ok hs.sl hv0)
                rw [hv1] at hv2
                obtain ⟨lb, e1, e2⟩ := hv2
                obtain ⟨l, hW, h⟩ := h
                have hiter := hok cx l hW H1 lb (hE.gm _ _ h0 g5.mem.old) (capsE_ok hE.tb g5 (RvL.mono g1 g2 _ e2) hcx)
                have hlen : ∀ (k : Nat) (vs : List Value), (∃ y : TupD D it.ts, l[k]? = some y ∧ ArgsR E.P H1 it.ts y vs) → vs.length = ps.size := fun k vs ⟨y, _, hy⟩ => (argsR_len hy).trans (Nat.eq_of_beq_eq_true hps).symm
                obtain ⟨m, hm⟩ := h
                generalize hstep : (fun (q : List (TupD D it.ts) × TupV D pe.tp.vts) (rec : List (TupD D it.ts) × TupV D pe.tp.vts → Prop) => _) = step at hm
                obtain ⟨ρ2, L2, st2, f1, f2, f3⟩ := fillE_ok (kn := st1.kn) g5.nx (Hp.le.refl _) (RM.le.refl _) g5.kn g5.fr g5 hs0
                have satOf : ∀ {H' : Hp} {ρ' : RM} {st' : St D} {Lx R' : List Ent} {W : World} {l' : List (Nat × SV D)} {σ' : Nat → Value}, H1.le H' → RM.le ρ1 ρ' → BkR H' ρ' st'.bk Lx → KnR H' ρ' st'.kn → (∀ id, st'.nx ≤ id → ρ' id = none) → SlR H' ρ' l' σ' → Mem w0 H0 W H' (Lx ++ ((Lk ++ F) ++ R')) → Sat (kept ++ fr) (Lk ++ F) w0 H0 R' H' ρ' Lx (st'.withSl l') σ' W := fun b1 b2 b3 b4 b5 b6 b7 => ⟨b7, b6, b3, g5.fr.mono b1 b2, b4, b5⟩
                refine CW.rangeR (H := H1) (H1 := H1) (L := L2 ++ ((Lk ++ F) ++ (mkO ms ++ R))) (fun k H' L' => ∃ m s ρ' st' Lx, RM.le ρ1 ρ' ∧ makeE pe.tp st1.nx st1.kn s = some st' ∧ L' = Lx ++ ((Lk ++ F) ++ (mkO ms ++ R)) ∧ BkR H' ρ' st'.bk Lx ∧ KnR H' ρ' st'.kn ∧ (∀ id, st'.nx ≤ id → ρ' id = none) ∧ LoopN step m (l.drop k, s)) f3.mem e1 (entB_ok hen) (Hp.le.refl _) hiter hlen hpN ⟨m, s0, ρ2, st2, L2, f2, f1, rfl, f3.bk, f3.kn, f3.nx, hm⟩ ?_ ?_
                · rintro l0 D0 rdy bsy k av H' L' W hkl ⟨ay, hay, hargs⟩ hle ⟨m, s, ρ', st', Lx, a1, a2, rfl, a3, a4, a5, a6⟩ hM
                  cases m with
                  | zero => exact a6.elim
                  | succ m =>
                    have a6 : step (l.drop k, s) (LoopN step m) := a6
                    rw [← hstep] at a6
                    obtain rfl : l[k] = ay := by rw [List.getElem?_eq_getElem hkl] at hay; exact Option.some.inj hay
                    simp only [a2, List.drop_eq_getElem_cons hkl] at a6
                    split at a6
                    · rename_i ls hls
                      split at a6
                      · rename_i vs hvs
                        obtain ⟨cs, b1, b2⟩ := argsR_cells (ρ := ρ1) hE.tb hargs hls
                        have b3 := packs_ok b1 b2 hvs
                        have b4 : SlR H' ρ' (parS ps.toList vs st1.sl) (slp ps.toList av σ) := parS_ok (g5.sl.mono hle a1) (RvL.mono hle a1 _ b3)
                        refine iha (rd := true) (ms := []) (R := (mkO ms ++ R) ++ [.obj l0 rdy, .obj D0 ddO]) (fun h => by cases h) (satOf hle a1 a3 a4 a5 b4 (by simpa [mkO] using hM)) a6 fun e => ?_
                        intro ms' st3 σ3 W3 H3 ρ3 L3 h1 hm3 h2 h3 h4
                        obtain rfl := hm3 rfl
                        cases e with
                        | normal =>
                          refine ⟨rfl, H3, L3 ++ ((Lk ++ F) ++ (mkO ms ++ R)), hle.trans h2, by simpa [mkO] using h4.mem, fun W4 hW4 => ?_⟩
                          refine ihb (rd := true) (ms := []) (R := (mkO ms ++ R) ++ [.obj l0 bsy, .obj D0 ddO]) (fun h => by cases h) (h4.reR (by simpa [mkO] using hW4)) h1 fun e => ?_
                          intro ms' st4 σ4 W5 H4 ρ4 L4 k1 km k2 k3 k4
                          obtain rfl := km rfl
                          have kM : Mem w0 H0 W5 H4 ((L4 ++ ((Lk ++ F) ++ (mkO ms ++ R))) ++ [.obj l0 bsy, .obj D0 ddO]) := by simpa [mkO] using k4.mem
                          have kle := hle.trans (h2.trans k2)
                          have kρ := a1.trans (h3.trans k3)
                          have leave : ∀ {W6 : World}, Mem w0 H0 W6 H4 ((L4 ++ ((Lk ++ F) ++ (mkO ms ++ R))) ++ [.obj D0 ddO]) → Sat fr F w0 H0 (mkO (D0 :: ms) ++ R) H4 ρ4 (L4 ++ Lk) ((st4.withSl st1.sl).back kept) σ W6 := fun hW6 =>
                            Sat.back (satOf kle kρ k4.bk k4.kn k4.nx (g5.sl.mono kle kρ) (hW6.perm (perm_end _ _ _ _ _))) (g3.mono kle kρ) (g4.mono kle kρ)
                          cases e with
                          | normal =>
                            simp only at k1
                            split at k1
                            · rename_i s' hfill
                              obtain ⟨ρ5, L5, st5, i1, i2, i3⟩ := fillE_ok (kn := st1.kn) g5.nx kle kρ g5.kn g5.fr k4 hfill
                              refine ⟨rfl, H4, L5 ++ ((Lk ++ F) ++ (mkO ms ++ R)), kle, by simpa [mkO] using i3.mem, m, s', ρ5, st5, L5, i2, i1, rfl, i3.bk, i3.kn, i3.nx, by rw [hstep] at k1; exact k1⟩
                            · exact k1.elim
                          | ret => exact ⟨rfl, H4, _, kle, kM, fun W6 hW6 => hk .ret (D0 :: ms) _ σ W6 H4 ρ4 _ k1 (fun h => by cases h) (g1.trans kle) (g2.trans kρ) (leave hW6)⟩
                          | exit id => exact ⟨rfl, H4, _, kle, kM, fun W6 hW6 => hk (.exit id) (D0 :: ms) _ σ W6 H4 ρ4 _ k1 (fun h => by cases h) (g1.trans kle) (g2.trans kρ) (leave hW6)⟩
                          | goto t => exact k1.elim
                          | panic c => exact k1.elim
                          | outgrown => exact k1.elim
                        | exit id => exact h1.elim
                        | goto t => exact h1.elim
                        | ret => exact h1.elim
                        | panic c => exact h1.elim
                        | outgrown => exact h1.elim
                      · exact a6.elim
                    · exact a6.elim
                · rintro D0 H' L' W hle ⟨m, s, ρ', st', Lx, a1, a2, rfl, a3, a4, a5, a6⟩ hM
                  cases m with
                  | zero => exact a6.elim
                  | succ m =>
                    have a6 : step (l.drop l.length, s) (LoopN step m) := a6
                    rw [← hstep] at a6
                    simp only [a2, List.drop_length] at a6
                    exact hk .normal (D0 :: ms) _ σ W H' ρ' _ a6 (fun h => by cases h) (g1.trans hle) (g2.trans a1) (Sat.back (satOf hle a1 a3 a4 a5 (g5.sl.mono hle a1) (hM.perm (perm_end _ _ _ _ _))) (g3.mono hle a1) (g4.mono hle a1))
              · exact h.elim
            · exact h.elim
          · exact h.elim
        · exact h.elim
      · exact h.elim
  | scope c _ => intro rd ms R pos fr F H ρ L st σ w K Q r md hr hs h hk; exact h.elim
  | label l => intro rd ms R pos fr F H ρ L st σ w K Q r md hr hs h hk; exact h.elim
  | goto l => intro rd ms R pos fr F H ρ L st σ w K Q r md hr hs h hk; exact h.elim
  | refuse s => intro rd ms R pos fr F H ρ L st σ w K Q r md hr hs h hk; exact h.elim
end
end
section
section
variable {D : Nat → Type} [∀ t, Dt (D t)]
def slotsOf : Nat → List (SV D) → List (Nat × SV D)
  | _, [] => []
  | k, v :: r => (k, v) :: slotsOf (k + 1) r
variable {E : Env D} {fr : List (Nat × Blk D)} {F : List Ent} {w0 w : World} {H0 H : Hp} {R : List Ent} {ρ : RM} {L : List Ent} {st : St D} {σ : Nat → Value}
theorem slotsOf_ok : ∀ {l : List (SV D)} {xs : List Value} {k : Nat}, RvL H ρ xs l → SlR H ρ (slotsOf k l) (sl (enumA k xs) fun _ => undef)
  | [], _, _, _ => fun t v h => by cases h
  | u :: r, xs, k, ⟨x, q, e, h1, h2⟩ => fun t v h => by
    subst e
    unfold slotsOf getS at h
    show Rv H ρ (bif Nat.beq t k then x else sl (enumA (k + 1) q) (fun _ => undef) t) v
    cases hb : Nat.beq t k with
    | true => rw [hb] at h; cases h; exact h1
    | false => rw [hb] at h; exact slotsOf_ok h2 t v h
def isEnd : Exit → Bool
  | .ret => true
  | .normal => true
  | _ => false
theorem isEnd_ok {e : Exit} (h : isEnd e = true) : e = .ret ∨ e = .normal := by
  cases e <;> first | exact .inl rfl | exact .inr rfl | cases h
def runF (E : Env D) : Nat → CallI D
  | 0 => fun _ _ _ _ _ _ => False
  | n + 1 => fun f vs st fr pos K => match E.P.funcs[f]? with
    | some fn => match fn.body with
      | some c => cdP (entB E.P f && Nat.ble vs.length fn.ntmps) (runC E (runF E n) fn.ntmps false c pos fr ⟨slotsOf 0 vs, st.bk, st.kn, st.nx⟩ fun e st' => cdP (isEnd e) (match mapO (rvE E.P E.tb st' fr) fn.results.toList with
        | some rs => K (tupV rs) st'
        | none => False) False) False
      | none => False
    | none => False
theorem endM_ok {P : Program} {fn : Func} {T : Value → World → Prop} {e : Exit} (he : e = .ret ∨ e = .normal) {X : List Ent} : ∀ (ms : List Nat) {w : World}, Mem w0 H0 w H (mkO ms ++ X) → (∀ w', Mem w0 H0 w' H X → endQ P fn T e [] σ w') → endQM P fn T e (mkD ms) σ w
  | [], w, hM, k => k w hM
  | _ :: ms, _, hM, k => endQM.mark he hM 0 rfl fun _ hM' => endM_ok he ms (hM'.sub (List.sublist_cons_self _ _)) k
theorem perm_mid (A B M R : List Ent) : (A ++ (B ++ (M ++ R))).Perm (M ++ (A ++ (B ++ R))) := by
  rw [← List.append_assoc, ← List.append_assoc, ← List.append_assoc A B R, ← List.append_assoc]
  exact (List.perm_append_comm (l₁ := A ++ B) (l₂ := M)).append_right R
theorem runF_ok (hE : E.Ok) : ∀ n, CallOk E.P E.G (runF E n)
  | 0 => fun _ _ _ _ _ _ _ _ _ _ _ _ _ _ _ _ h _ _ _ => h.elim
  | n + 1 => fun f vs st fr pos K F w0 H0 R H ρ L σ w xs h h0 hs hv => by
    unfold runF at h
    split at h
    · rename_i fn hf
      split at h
      · rename_i c hc
        obtain ⟨hb, h⟩ := cifP h
        rw [Bool.and_eq_true] at hb
        refine ⟨entB_ok hb.1, ?_⟩
        have hN : xs.toArray.size ≤ fn.ntmps := by
          have := Nat.le_of_ble_eq_true hb.2
          simpa [RvL.length hv] using this
        have hs0 : Sat fr F w0 H0 (mkO [] ++ R) H ρ L (⟨slotsOf 0 vs, st.bk, st.kn, st.nx⟩ : St D) (sl (enumA 0 xs) fun _ => undef) w := ⟨hs.mem, slotsOf_ok hv, hs.bk, hs.fr, hs.kn, hs.nx⟩
        refine (calls_of_codeM (R := fun v w' => ∃ s st', K s st' ∧ Out fr F w0 H0 R H ρ (fun _ => undef) ⟨[], st'.bk, st'.kn, st'.nx⟩ s v w') hf hc hN ?_)
        refine runC_ok (ms := []) (R := R) hE h0 (runF_ok hE n) c (fun _ => ⟨rfl, rfl⟩) hs0 h fun e => ?_
        intro ms' st' σ' w' H' ρ' L' h1 _ h2 h3 h4
        obtain ⟨he, h1⟩ := cifP h1
        refine endM_ok (isEnd_ok he) ms' (h4.mem.perm (perm_mid _ _ _ _)) fun w2 hw2 => ?_
        have h4 := h4.reR hw2
        split at h1
        · rename_i rs hrs
          obtain ⟨us, g1, g2⟩ := results_ok hE.tb h4 hrs
          refine ⟨isEnd_ok he, rfl, tupVal us, g2, tupV rs, st', h1, H', ρ', L', h2, h3, ⟨h4.mem, (fun t v hv => nomatch hv), h4.bk, h4.fr, h4.kn, h4.nx⟩, tupVal_ok g1⟩
        · exact h1.elim
      · exact h.elim
    · exact h.elim
def globB : SV D → Bool
  | .i _ _ | .w _ | .y _ | .k _ | .b _ | .p _ _ | .c _ | .nil | .fsl _ _ => true
  | _ => false
theorem globB_ok {ρ' : RM} {s : SV D} {x : Value} (h : globB s = true) (hx : Rv H ρ x s) : Rv H ρ' x s := by
  cases s <;> first | exact hx | cases h
def rtC : List Bool → List (Nat × Blk D) → List (SV D) → Option (List (SV D) × List (Nat × Blk D))
  | [], bk, l => match l with
    | [] => some ([], bk)
    | _ :: _ => none
  | f :: fs, bk, l => match l with
    | [] => none
    | s :: r => match f with
      | true => match s with
        | .own id => match remB bk id with
          | some (.row e xs, bk1) => match rtC fs bk1 r with
            | some (p, bk2) => some (.fsl e xs :: p, bk2)
            | none => none
          | _ => none
        | .nil => match rtC fs bk r with
          | some (p, bk2) => some (.nil :: p, bk2)
          | none => none
        | _ => none
      | false => bif globB s then (match rtC fs bk r with
        | some (p, bk2) => some (s :: p, bk2)
        | none => none) else none
def RtR (w0 : World) (H0 : Hp) (w : World) (H : Hp) (ρ : RM) (fs : List Bool) (us : List Value) (q : List (SV D)) (bk' : List (Nat × Blk D)) (X : List Ent) : Prop :=
  ∃ S L', Mem w0 H0 w H (L' ++ (S ++ X)) ∧ BkR H ρ bk' L' ∧ ∀ (nx : Nat) (ρ0 : RM) (l' : List (SV D)) (b : List (Nat × Blk D)) (m : Nat), (∀ id, nx ≤ id → ρ0 id = none) → ownC fs nx q = some (l', b, m) → ∃ ρ', RM.le ρ0 ρ' ∧ nx ≤ m ∧ (∀ id, m ≤ id → ρ' id = none) ∧ (∀ id, id < nx → ρ' id = ρ0 id) ∧ RvL H ρ' us l' ∧ BkR H ρ' b S
theorem RtR.row {fs : List Bool} {bk' : List (Nat × Blk D)} {X : List Ent} {e : Nat} {xs : List (D e)} {A : Option Addr} {n c : Nat} {z : List Value} {L1 : List Ent} {q1 : List (SV D)} {x : Value} {u : List Value} (hM1 : Mem w0 H0 w H (.row (.slice A n c) e (Dt.sz (D e)) n z :: (L1 ++ X))) (hd : DtL (α := D e) H z xs) (hn : n = xs.length) (hx : x = .slice A n c)
    (h : Mem w0 H0 w H (L1 ++ ([.row (.slice A n c) e (Dt.sz (D e)) n z] ++ X)) → RtR w0 H0 w H ρ fs u q1 bk' ([.row (.slice A n c) e (Dt.sz (D e)) n z] ++ X)) : RtR w0 H0 w H ρ (true :: fs) (x :: u) (.fsl e xs :: q1) bk' X := by
  have hM2 : Mem w0 H0 w H (L1 ++ ([.row (.slice A n c) e (Dt.sz (D e)) n z] ++ X)) := hM1.perm (by
    rw [← List.append_assoc]
    exact (List.perm_append_comm (l₁ := [Ent.row (.slice A n c) e (Dt.sz (D e)) n z]) (l₂ := L1)).append_right X)
  obtain ⟨S, L', a1, a2, a3⟩ := h hM2
  refine ⟨.row (.slice A n c) e (Dt.sz (D e)) n z :: S, L', a1.perm ?_, a2, fun nx ρ0 l' b m hn0 ho => ?_⟩
  · refine List.Perm.append_left L' ?_
    show (S ++ ([Ent.row (.slice A n c) e (Dt.sz (D e)) n z] ++ X)).Perm ([Ent.row (.slice A n c) e (Dt.sz (D e)) n z] ++ S ++ X)
    rw [← List.append_assoc]
    exact List.perm_append_comm.append_right X
  · rw [ownC] at ho
    cases ho1 : ownC fs (nx + 1) q1 with
    | none => simp only [ho1] at ho; cases ho
    | some t =>
      obtain ⟨l1, b1, m1⟩ := t
      simp only [ho1] at ho
      cases ho
      obtain ⟨f1, f2⟩ := fresh_put hn0 (.r A n c)
      obtain ⟨ρ', b2, b3, b4, b4', b5, b6⟩ := a3 (nx + 1) (ρ0.put nx (.r A n c)) _ _ _ f2 ho1
      have e0 : ρ' nx = some (.r A n c) := b2 _ _ (RM.put_same _ _ _)
      exact ⟨ρ', f1.trans b2, by omega, b4, fun id hid => by rw [b4' id (by omega), RM.put_ne _ _ (by omega)], ⟨x, u, rfl, ⟨A, n, c, e0, hx⟩, b5⟩, _, _, rfl, ⟨A, n, c, z, e0, rfl, hd, hn⟩, b6⟩
theorem rtC_ok : ∀ {fs : List Bool} {l p q : List (SV D)} {us : List Value} {bk bk' : List (Nat × Blk D)} {L X : List Ent}, Mem w0 H0 w H (L ++ X) → BkR H ρ bk L → RvL H ρ us l → rtC fs bk l = some (p, bk') → CQL p q → RtR w0 H0 w H ρ fs us q bk' X
  | [], l, p, q, us, bk, bk', L, X, hM, hk, hu, h, hq => by
    cases l with
    | cons _ _ => cases h
    | nil =>
      cases h
      obtain rfl : q = [] := hq
      refine ⟨[], L, hM, hk, fun nx ρ0 l' b m hn ho => ?_⟩
      cases ho
      exact ⟨ρ0, RM.le.refl _, Nat.le_refl _, hn, fun _ _ => rfl, hu, rfl⟩
  | f :: fs, l, p, q, us, bk, bk', L, X, hM, hk, hu, h, hq => by
    cases l with
    | nil => cases h
    | cons s r =>
      obtain ⟨x, u, rfl, h1, h2⟩ := hu
      unfold rtC at h
      cases f with
      | true =>
        simp only at h
        split at h
        · rename_i id
          split at h
          · rename_i e xs bk1 hr
            split at h
            · rename_i p1 bk2 hr1
              cases h
              obtain ⟨q0, q1, rfl, hcq, hq1⟩ := hq
              obtain ⟨S1, L1, g1, ⟨A, n, c, z, g2, rfl, g3, g4⟩, g5⟩ := hk.rem hr
              obtain ⟨A', n', c', g6, g7⟩ := h1
              rw [g2] at g6; cases g6
              have hq0 : q0 = .fsl e xs := by
                rcases hcq with ⟨e', xs', rfl, h | ⟨h, _⟩⟩ | ⟨hsc, _⟩
                · exact h.symm
                · cases h
                · cases hsc
              subst hq0
              exact RtR.row (hM.perm (g1.append_right X)) g3 g4 g7 fun hM2 => rtC_ok hM2 g5 h2 hr1 hq1
            · cases h
          · cases h
        · split at h
          · rename_i p1 bk2 hr1
            cases h
            obtain ⟨q0, q1, rfl, hcq, hq1⟩ := hq
            rcases hcq with ⟨e', xs', rfl, h | ⟨_, rfl⟩⟩ | ⟨hsc, _⟩
            · cases h
            · exact RtR.row (hM.nilRow e' (Dt.sz (D e'))) DtL.nil rfl h1 fun hM2 => rtC_ok hM2 hk h2 hr1 hq1
            · cases hsc
          · cases h
        · cases h
      | false =>
        simp only at h
        have hh := cif h
        clear h
        obtain ⟨hgl, h⟩ := hh
        split at h
        · rename_i p1 bk2 hr1
          cases h
          obtain ⟨q0, q1, rfl, hcq, hq1⟩ := hq
          obtain ⟨S, L', a1, a2, a3⟩ := rtC_ok hM hk h2 hr1 hq1
          refine ⟨S, L', a1, a2, fun nx ρ0 l' b m hn0 ho => ?_⟩
          rw [ownC] at ho
          cases ho1 : ownC fs nx q1 with
          | none => simp only [ho1] at ho; cases ho
          | some t =>
            obtain ⟨l1, b1, m1⟩ := t
            simp only [ho1] at ho
            cases ho
            obtain ⟨ρ', b2, b3, b4, b4', b5, b6⟩ := a3 nx ρ0 _ _ _ hn0 ho1
            exact ⟨ρ', b2, b3, b4, b4', ⟨x, u, rfl, hcq.rv (globB_ok hgl h1), b5⟩, b6⟩
        · cases h
def rtCC : List (List Bool) → List (Nat × Blk D) → List (List (SV D)) → Option (List (List (SV D)))
  | [], _, l => match l with
    | [] => some []
    | _ :: _ => none
  | f :: fs, bk, l => match l with
    | [] => none
    | c :: r => match rtC f bk c with
      | some (p, bk1) => match rtCC fs bk1 r with
        | some q => some (p :: q)
        | none => none
      | none => none
def falseIds : List (List Bool) → List (List (SV D)) → List Nat
  | f :: fs, l :: ls => ownIdsL ((f.zip l).filterMap fun p => bif p.1 then none else some p.2) ++ falseIds fs ls
  | _, _ => []
def cqTup (tb : Tb D) : (ts : List Nat) → TupD D ts → List (List (SV D)) → List (List (SV D)) → Prop
  | [], _, _, q => q = []
  | t :: r, y, p, q => ∃ p1 p2 q1 q2, p = p1 :: p2 ∧ q = q1 :: q2 ∧ toC tb t y.1 = some q1 ∧ CQL p1 q1 ∧ cqTup tb r y.2 p2 q2
theorem ofTup_cq {tb : Tb D} (htb : TbOk tb) : ∀ {ts : List Nat} {p : List (List (SV D))} {y : TupD D ts}, ofTup tb ts p = some y → ∃ q, tupC tb ts y = some q ∧ cqTup tb ts y p q
  | [], [], y, h => ⟨[], rfl, rfl⟩
  | [], _ :: _, _, h => by cases h
  | _ :: _, [], _, h => by cases h
  | t :: r, p1 :: p2, y, h => by
    obtain ⟨h1, h2⟩ := ofTup2 h
    obtain ⟨q1, g1, g2⟩ := ofC_cq htb h1
    obtain ⟨q2, g3, g4⟩ := ofTup_cq htb h2
    refine ⟨q1 :: q2, ?_, p1, p2, q1, q2, rfl, rfl, g1, g2, g4⟩
    rw [tupC]
    simp only [g1, g3]
theorem rtCC_ok {tb : Tb D} : ∀ {ts : List Nat} {fs : List (List Bool)} {l p q : List (List (SV D))} {y : TupD D ts} {us : List (List Value)} {bk : List (Nat × Blk D)} {L X : List Ent}, Mem w0 H0 w H (L ++ X) → BkR H ρ bk L → RvLL H ρ us l → rtCC fs bk l = some p → cqTup tb ts y p q →
    ∃ S, Mem w0 H0 w H (S ++ X) ∧ ∀ (nx : Nat) (ρ0 : RM) (l' : List (List (SV D))) (b : List (Nat × Blk D)) (m : Nat), (∀ id, nx ≤ id → ρ0 id = none) → ownCC fs nx q = some (l', b, m) → ∃ ρ', RM.le ρ0 ρ' ∧ nx ≤ m ∧ (∀ id, m ≤ id → ρ' id = none) ∧ (∀ id, id < nx → ρ' id = ρ0 id) ∧ RvLL H ρ' us l' ∧ BkR H ρ' b S
  | [], fs, l, p, q, y, us, bk, L, X, hM, hk, hu, h, hq => by
    obtain rfl : q = [] := hq
    refine ⟨[], hM.sub (List.sublist_append_right L X), fun nx ρ0 l' b m hn ho => ?_⟩
    cases fs with
    | cons _ _ => cases ho
    | nil =>
      cases ho
      cases l with
      | cons _ _ => cases h
      | nil => exact ⟨ρ0, RM.le.refl _, Nat.le_refl _, hn, fun _ _ => rfl, hu, rfl⟩
  | t :: ts, fs, l, p, q, y, us, bk, L, X, hM, hk, hu, h, ⟨p1, p2, q1, q2, hp, hq, _, hc, hr⟩ => by
    subst hp; subst hq
    cases fs with
    | nil => cases l <;> cases h
    | cons f fs =>
      cases l with
      | nil => cases h
      | cons c l =>
        obtain ⟨u, v, rfl, h1, h2⟩ := hu
        rw [rtCC] at h
        cases ha : rtC f bk c with
        | none => simp only [ha] at h; cases h
        | some a =>
          obtain ⟨a1, bk1⟩ := a
          cases hb : rtCC fs bk1 l with
          | none => simp only [ha, hb] at h; cases h
          | some b =>
            simp only [ha, hb] at h
            cases h
            obtain ⟨S1, L1, g1, g2, g3⟩ := rtC_ok hM hk h1 ha hc
            obtain ⟨S2, k1, k2⟩ := rtCC_ok (ts := ts) g1 g2 h2 hb hr
            refine ⟨S1 ++ S2, k1.perm ?_, fun nx ρ0 l' b m hn ho => ?_⟩
            · rw [← List.append_assoc]
              exact List.perm_append_comm.append_right X
            · rw [ownCC] at ho
              cases ho1 : ownC f nx q1 with
              | none => simp only [ho1] at ho; cases ho
              | some o =>
                obtain ⟨l1, b1, m1⟩ := o
                cases ho2 : ownCC fs m1 q2 with
                | none => simp only [ho1, ho2] at ho; cases ho
                | some o2 =>
                  obtain ⟨l2, b2, m2⟩ := o2
                  simp only [ho1, ho2] at ho
                  cases ho
                  obtain ⟨ρ1, i1, i2, i3, i3', i4, i5⟩ := g3 nx ρ0 _ _ _ hn ho1
                  obtain ⟨ρ2, j1, j2, j3, j3', j4, j5⟩ := k2 m1 ρ1 _ _ _ i3 ho2
                  exact ⟨ρ2, i1.trans j1, by omega, j3, fun id hid => by rw [j3' id (by omega), i3' id hid], ⟨u, v, rfl, RvL.mono (Hp.le.refl _) j1 _ i4, j4⟩, (i5.mono (Hp.le.refl _) j1).append j5⟩
def retF (P : Program) (tb : Tb D) (fn : Func) (rs : List Nat) (own : List (List Bool)) (Φ : TupD D rs → Prop) (st : St D) : Prop := match mapO (rvE P tb st []) fn.results.toList with
  | some vs => match argsC P rs (vs.map fun v => rsD (st.lk []) (resD st.kn v)) with
    | some ls0 => match mapO (rvE P tb (st.frzL (falseIds own ls0)) []) fn.results.toList with
      | some us => match argsC P rs (us.map fun v => rsD ((st.frzL (falseIds own ls0)).lk []) (resD st.kn v)) with
        | some ls => match rtCC own (st.frzL (falseIds own ls0)).bk ls with
          | some ps => match ofTup tb rs ps with
            | some y => Φ y
            | none => False
          | none => False
        | none => False
      | none => False
    | none => False
  | none => False
def topF (E : Env D) (n : Nat) (f : Nat) (ps rs : List Nat) (own : List (List Bool)) (x : TupD D ps) (Φ : TupD D rs → Prop) : Prop := match tupC E.tb ps x with
  | some ls => match packs E.P ps ls with
    | some vs => match E.P.funcs[f]? with
      | some fn => match fn.body with
        | some c => cdP (Nat.ble vs.length fn.ntmps) (runC E (runF E n) fn.ntmps false c [] [] ⟨slotsOf 0 vs, [], [], 0⟩ fun e st' => cdP (isEnd e) (retF E.P E.tb fn rs own Φ st') False) False
        | none => False
      | none => False
    | none => False
  | none => False
theorem Ct.lift (hE : E.Ok) (n : Nat) (c : Ct D) (h : ∀ x Φ, c.W x Φ → topF E n c.f c.ps c.rs c.own x Φ) : c.Ok E.P E.tb E.G := by
  intro x Φ hW H vs hGH hA
  have hF := h x Φ hW
  unfold topF at hF
  split at hF
  · rename_i ls hls
    split at hF
    · rename_i svs hsv
      split at hF
      · rename_i fn hfn
        split at hF
        · rename_i cd hcd
          obtain ⟨hN, hF⟩ := cifP hF
          obtain ⟨cs, g1, g2⟩ := argsR_cells (ρ := fun _ => none) hE.tb hA hls
          have g3 := packs_ok g1 g2 hsv
          refine RetP.of_codeM hfn hcd (by have := Nat.le_of_ble_eq_true hN; simpa [RvL.length g3] using this) fun w hM => ?_
          have hs0 : Sat [] [] w H (mkO [] ++ []) H (fun _ => none) [] (⟨slotsOf 0 svs, [], [], 0⟩ : St D) (sl (enumA 0 vs) fun _ => undef) w := ⟨hM, slotsOf_ok g3, rfl, rfl, (fun _ _ h => nomatch h), fun _ _ => rfl⟩
          refine runC_ok (ms := []) (R := []) hE hGH (runF_ok hE n) cd (fun _ => ⟨rfl, rfl⟩) hs0 hF fun e => ?_
          intro ms' st' σ' w' H' ρ' L' h1 _ h2 h3 h4
          obtain ⟨he, h1⟩ := cifP h1
          refine endM_ok (isEnd_ok he) ms' (h4.mem.perm (perm_mid _ _ _ _)) fun w2 hw2 => ?_
          have h4 := h4.reR hw2
          unfold retF at h1
          split at h1
          · rename_i v1 hv1
            split at h1
            · rename_i ls0 hl0
              split at h1
              · rename_i us hus
                split at h1
                · rename_i ls1 hl1
                  split at h1
                  · rename_i ps hps
                    split at h1
                    · rename_i y hy
                      obtain ⟨H2, L2, k1, k2⟩ := h4.frzL (falseIds c.own ls0)
                      obtain ⟨ux, e1, e2⟩ := results_ok hE.tb k2 hus
                      have hkn := (frzL_sl (falseIds c.own ls0) st').2.1
                      have e3 := mapRs_ok k2 e1
                      rw [hkn] at e3
                      obtain ⟨cs2, e4, e5⟩ := argsC_cells e3 hl1
                      obtain ⟨q, e6, e7⟩ := ofTup_cq hE.tb hy
                      have hM2 := k2.mem
                      obtain ⟨S, i1, i2⟩ := rtCC_ok (X := []) (by simpa using hM2) k2.bk e5 hps e7
                      refine ⟨isEnd_ok he, rfl, tupVal ux, e2, H2, S, by simpa using i1, y, h1, ?_⟩
                      intro nx ρ0 hn0 s b m hres
                      unfold resE at hres
                      rw [e6] at hres
                      simp only at hres
                      split at hres
                      · rename_i ls' b' m' ho
                        split at hres
                        · rename_i vs' hp
                          cases hres
                          obtain ⟨ρ2, j1, j2, j3, j3', j4, j5⟩ := i2 nx ρ0 _ _ _ hn0 ho
                          exact ⟨ρ2, j1, j2, j3, j3', tupVal_ok (packs_ok e4 j4 hp), j5⟩
                        · cases hres
                      · cases hres
                    · exact h1.elim
                  · exact h1.elim
                · exact h1.elim
              · exact h1.elim
            · exact h1.elim
          · exact h1.elim
        · exact hF.elim
      · exact hF.elim
    · exact hF.elim
  · exact hF.elim
end
end
section
section
variable {F : Fence} {n : Nat} {P : Program} {ops : Array Oper} {Q : Exit → Act → World → Prop}
theorem wpList_cons1 {Q1 : Exit → Act → World → Prop} {o : Oper} {l : List Oper} {a : Act} {w : World} (h : wpListIn F n P ops Q1 [o] a w) (hK : ∀ a w, Q1 .normal a w → wpListIn F n P ops Q l a w) (hp : ∀ c a w, ¬ Q1 (.panic c) a w) (hl : ¬ LetsOut Q1) : wpListIn F n P ops Q (o :: l) a w := by
  unfold wpListIn at h ⊢
  split at h
  · rename_i hw
    rw [if_pos hw]
    refine ⟨h.1, ?_⟩
    have h2 := h.2
    generalize (o.semAt F.round a.eval).run P w = res at h2
    cases res with
    | ok nx w' =>
      cases nx with
      | value v => exact hK _ _ h2
      | skip => exact hK _ _ h2
      | defer d => exact hK _ _ h2
      | enter f args =>
        refine ⟨h2.1, h2.2.mono fun e w'' he => ?_⟩
        cases e with
        | returned v => exact hK _ _ he
        | panicked chain => exact absurd he (hp _ _ _)
        | outgrown => exact absurd he hl
      | row row args => exact ⟨h2.1, h2.2.mono fun v w'' he => hK _ _ he⟩
      | round l f tmps assign body =>
        refine ⟨h2.1, h2.2.mono fun e w'' he => ?_⟩
        cases e with
        | returned v => exact hK _ _ he
        | panicked chain => exact absurd he (hp _ _ _)
        | outgrown => exact absurd he hl
      | _ => exact h2
    | halt x w' =>
      cases x with
      | panic v => exact absurd h2 (hp _ _ _)
      | _ => exact h2
  · rename_i hw
    rw [if_neg hw]
    exact ⟨h.1, hK _ _ h.2⟩
end
theorem RW.cons1 {r : Option Nat} {md : Nat} {P : Program} {N : Nat} {ops : Array Oper} {o : Oper} {l : List Oper} {Q : Exit → List Deferred → (Nat → Value) → World → Prop} {Dd : List Deferred} {σ : Nat → Value} {w : World}
    (h : RW r md P N ops [o] (fun e D' σ' w' => e = .normal ∧ RW r md P N ops l Q D' σ' w') Dd σ w) : RW r md P N ops (o :: l) Q Dd σ w := by
  intro a ha
  refine wpList_cons1 (h a ha) (fun a' w' hq => ?_) (fun c a' w' hq => ?_) (fun hq => ?_)
  · obtain ⟨D', σ', h1, _, h2⟩ := hq
    exact h2 a' h1
  · obtain ⟨_, _, _, hn, _⟩ := hq
    cases hn
  · obtain ⟨_, _, _, _, _, hn, _⟩ := hq
    cases hn
def Yl {α : Type} (l : List α) (K : α → List α → Prop) : Prop := match l with
  | [] => False
  | x :: r => K x r
section
variable {D : Nat → Type} [∀ t, Dt (D t)]
def yieldE (st : St D) (op : Op) : Option (List Operand) := match op with
  | .call ⟨.value g, xs, _⟩ => match evO st.sl g with
    | some (.kp 0) => some xs.toList
    | _ => none
  | _ => none
omit [∀ t, Dt (D t)] in
theorem yieldE_ok {st : St D} {op : Op} {xs : List Operand} (h : yieldE st op = some xs) : ∃ g ys tys, op = .call ⟨.value g, ys, tys⟩ ∧ evO st.sl g = some (.kp 0) ∧ xs = ys.toList := by
  unfold yieldE at h
  split at h
  · split at h
    · rename_i hg
      cases h
      exact ⟨_, _, _, rfl, hg, rfl⟩
    · cases h
  · cases h
def runY (E : Env D) (N : Nat) (fr : List (Nat × Blk D)) (ts : List Nat) : List Oper → Bool → St D → List (TupD D ts) → (Bool → St D → List (TupD D ts) → Prop) → Prop
  | [], sp, st, rest, K => K sp st rest
  | o :: l, sp, st, rest, K => cdP (dstOk o.dst N && o.guard.isNone) (match yieldE st o.op with
    | some xs => match sp with
      | true => False
      | false => Yl rest fun x r => match mapO (fun x => (evO st.sl x).map fun v => rsD (st.lk fr) (resD st.kn v)) xs with
        | some vs => match argsC E.P ts vs with
          | some ls => match ofTup E.tb ts ls with
            | some a => a = x ∧ runY E N fr ts l false (st.put o.dst (.k true)) r K ∧ runY E N fr ts l true (st.put o.dst (.k false)) (x :: r) K
            | none => False
          | none => False
        | none => False
    | none => stepD E fr o st fun v e _ _ => cdP e False (runY E N fr ts l sp (st.put o.dst v) rest K)) False
def runI (E : Env D) (N : Nat) (fr : List (Nat × Blk D)) (ts : List Nat) : Code → List Nat → Bool → St D → List (TupD D ts) → (Exit → Bool → St D → List (TupD D ts) → Prop) → Prop
  | .skip, _, sp, st, rest, K => K .normal sp st rest
  | .ret, _, sp, st, rest, K => K .ret sp st rest
  | .exit id, _, sp, st, rest, K => K (.exit id) sp st rest
  | .region _ ops false, _, sp, st, rest, K => runY E N fr ts ops.toList sp st rest (K .normal)
  | .cond c a b, pos, sp, st, rest, K => match (evO st.sl c).map (res st.kn) with
    | some (.k true) => runI E N fr ts a (2 :: pos) sp st rest K
    | some (.k false) => runI E N fr ts b (3 :: pos) sp st rest K
    | some s => askF s (runI E N fr ts a (2 :: pos) sp (st.know c true) rest K) (runI E N fr ts b (3 :: pos) sp (st.know c false) rest K)
    | none => False
  | .block id c, pos, sp, st, rest, K => runI E N fr ts c (4 :: pos) sp st rest fun e sp' st' rest' => match e with
    | .exit id' => cdP (Nat.beq id' id) (K .normal sp' st' rest') (K (.exit id') sp' st' rest')
    | e => K e sp' st' rest'
  | .seq a b, pos, sp, st, rest, K => runI E N fr ts a (0 :: pos) sp st rest fun e sp' st' rest' => match e with
    | .normal => runI E N fr ts b (1 :: pos) sp' st' rest' K
    | e => K e sp' st' rest'
  | .loop c, pos, sp, st, rest, K => match sp, findP pos E.plan with
    | false, some pe => match fillE pe.tp st.tag.nx st.tag fr with
      | some s0 => LoopW (fun (q : List (TupD D ts) × TupV D pe.tp.vts) rec => match makeE pe.tp st.tag.nx st.tag.kn q.2 with
        | some st2 => match st2.bk with
          | [] => runI E N fr ts c (5 :: pos) false st2 q.1 fun e sp' st' rest' => match e with
            | .normal => match sp' with
              | false => match fillE pe.tp st.tag.nx st' fr with
                | some s' => rec (rest', s')
                | none => False
              | true => False
            | e => K e sp' st' rest'
          | _ :: _ => False
        | none => False) (rest, s0)
      | none => False
    | _, _ => False
  | _, _, _, _, _, _ => False
structure IS (fr : List (Nat × Blk D)) (H : Hp) (ρ : RM) (st : St D) (σ : Nat → Value) (w : World) : Prop where
  ag : ∀ b o, H b = some o → w.heap[b]? = some o
  sl : SlR H ρ st.sl σ
  fr : BkR H ρ fr []
  kn : KnR H ρ st.kn
  nx : ∀ id, st.nx ≤ id → ρ id = none
  bk : st.bk = []
theorem IS.sat {fr : List (Nat × Blk D)} {H : Hp} {ρ : RM} {st : St D} {σ : Nat → Value} {w : World} (h : IS fr H ρ st σ w) : Sat fr [] w H [] H ρ [] st σ w := ⟨Mem.start h.ag, h.sl, by rw [h.bk]; rfl, h.fr, h.kn, h.nx⟩
def JS {α : Type} (J Jx : Nat → World → Prop) (all : List α) (sp : Bool) (rest : List α) (w : World) : Prop := match sp with
  | false => ∃ k, k ≤ all.length ∧ J k w ∧ rest = all.drop k
  | true => ∃ k, k < all.length ∧ Jx k w
theorem JS.below {α : Type} {J Jx : Nat → World → Prop} (hJ : ∀ k A B, J k A → Below A.heap.size A B → J k B) (hJx : ∀ k A B, Jx k A → Below A.heap.size A B → Jx k B) {all rest : List α} {sp : Bool} {w w' : World} (h : JS J Jx all sp rest w) (hb : Below w.heap.size w w') : JS J Jx all sp rest w' := by
  cases sp with
  | false => obtain ⟨k, h0, h1, h2⟩ := h; exact ⟨k, h0, hJ _ _ _ h1 hb, h2⟩
  | true => obtain ⟨k, h1, h2⟩ := h; exact ⟨k, h1, hJx _ _ _ h2 hb⟩
theorem IS.put {fr : List (Nat × Blk D)} {H : Hp} {ρ : RM} {st : St D} {σ : Nat → Value} {w w' : World} (h : IS fr H ρ st σ w) (hag : ∀ b o, H b = some o → w'.heap[b]? = some o) {x : Value} {v : SV D} (hv : Rv H ρ x v) (d : Option Nat) : IS fr H ρ (st.put d v) (upd σ d x) w' := ⟨hag, h.sl.put hv d, h.fr, h.kn, h.nx, h.bk⟩
theorem IS.know {fr : List (Nat × Blk D)} {H : Hp} {ρ : RM} {st : St D} {σ : Nat → Value} {w : World} (h : IS fr H ρ st σ w) {c : Operand} {b : Bool} (hc : ev σ c = .bool b) : IS fr H ρ (st.know c b) σ w := by
  have hs := h.sat.know hc
  refine ⟨h.ag, hs.sl, h.fr, hs.kn, hs.nx, ?_⟩
  unfold St.know
  split <;> exact h.bk
variable {E : Env D} {N : Nat} {fr : List (Nat × Blk D)} {ts : List Nat} {H : Hp} {lp : Nat} {J Jx : Nat → World → Prop} {all : List (TupD D ts)}
def YOk (P : Program) (ts : List Nat) (H : Hp) (lp : Nat) (J Jx : Nat → World → Prop) (all : List (TupD D ts)) : Prop := ∀ k A0 vs, k < all.length → (∃ y, all[k]? = some y ∧ ArgsR P H ts y vs) → J k A0 → (∀ b o, H b = some o → A0.heap[b]? = some o) → Yield P lp vs A0 fun v B => (∀ b o, H b = some o → B.heap[b]? = some o) ∧ ((v = .bool true ∧ J (k + 1) B) ∨ (v = .bool false ∧ Jx k B))
theorem runY_ok (hE : E.Ok) (hG : E.G H) (hJ : ∀ k A B, J k A → Below A.heap.size A B → J k B) (hJx : ∀ k A B, Jx k A → Below A.heap.size A B → Jx k B) (hY : YOk E.P ts H lp J Jx all) {r : Option Nat} {md : Nat} {ops : Array Oper} {Q : Exit → List Deferred → (Nat → Value) → World → Prop} {Dd : List Deferred} {K : Bool → St D → List (TupD D ts) → Prop} {ρ : RM} (h0 : ρ 0 = some (.v (.func (.yield lp) #[] #[]))) : ∀ {l : List Oper} {sp : Bool} {st : St D} {rest : List (TupD D ts)} {σ : Nat → Value} {w : World}, IS fr H ρ st σ w → JS J Jx all sp rest w → runY E N fr ts l sp st rest K → (∀ sp' st' rest' σ' w', K sp' st' rest' → IS fr H ρ st' σ' w' → JS J Jx all sp' rest' w' → Q .normal Dd σ' w') → RW r md E.P N ops l Q Dd σ w
  | [], sp, st, rest, σ, w, hs, hj, h, hk => RW.nil (hk _ _ _ _ _ h hs hj)
  | o :: l, sp, st, rest, σ, w, hs, hj, h, hk => by
    unfold runY at h
    obtain ⟨hd, h⟩ := cifP h
    rw [Bool.and_eq_true] at hd
    obtain ⟨hd, hgn⟩ := hd
    have hgn : o.guard = none := by simpa using hgn
    have hgd : gdOk ops σ o.guard = true := by rw [hgn]; rfl
    split at h
    · rename_i xs hy
      split at h
      · exact h.elim
      · cases rest with
        | nil => exact h.elim
        | cons x rr =>
        simp only [Yl] at h
        obtain ⟨k, _, hJk, hrest⟩ := hj
        have hkl : k < all.length := by
          rcases Nat.lt_or_ge k all.length with h1 | h1
          · exact h1
          · rw [List.drop_eq_nil_of_le h1] at hrest; cases hrest
        rw [List.drop_eq_getElem_cons hkl] at hrest
        obtain ⟨rfl, rfl⟩ := List.cons.inj hrest
        split at h
        · rename_i vs hvs
          split at h
          · rename_i ls hls
            split at h
            · rename_i a ha
              obtain ⟨hax, hT, hF⟩ := h
              have hA := argsC_ok hE.tb ts (opVals_ok hs.sat hvs) hls ha
              rw [hax] at hA
              obtain ⟨d, op, ty, ps, af, gd⟩ := o
              obtain ⟨g, ys, tys, hop, hg, rfl⟩ := yieldE_ok (op := op) hy
              subst hop
              have hgv : ρ 0 = some (.v (ev σ g)) := evO_ok hs.sl hg
              rw [h0] at hgv
              have hgv : ev σ g = .func (.yield lp) #[] #[] := by
                have := Option.some.inj hgv
                injection this with this
                exact this.symm
              refine RW.yield hgv rfl (hY k w _ hkl ⟨_, List.getElem?_eq_getElem hkl, hA⟩ hJk hs.ag) hgd hd fun v w' ⟨hag, hv⟩ => ?_
              rcases hv with ⟨rfl, hv⟩ | ⟨rfl, hv⟩
              · exact runY_ok hE hG hJ hJx hY h0 (sp := false) (hs.put hag (v := .k true) rfl d) ⟨k + 1, hkl, hv, rfl⟩ hT hk
              · exact runY_ok hE hG hJ hJx hY h0 (sp := true) (hs.put hag (v := .k false) rfl d) ⟨k, hkl, hv⟩ hF hk
            · exact h.elim
          · exact h.elim
        · exact h.elim
    · obtain ⟨v, e, nb, hi, h1, h2⟩ := stepD_ok (ops := ops) hE h
      cases e with
      | true => exact h1.elim
      | false =>
        rcases h2 [] none with ⟨_, _, hq⟩ | ⟨hq, _⟩
        · refine RW.cons1 (hq hG (show Sat fr [] w H [] H ρ [] ⟨st.sl, st.bk, st.kn, st.nx⟩ σ w from hs.sat) hgd hd fun x w' hm hx => RW.nil ⟨rfl, ?_⟩)
          have hM := hm [] (Mem.start hs.ag)
          exact runY_ok hE hG hJ hJx hY h0 (hs.put hM.agree hx o.dst) (hj.below hJ hJx hM.below) h1 hk
        · cases hq
def GoesI (fr : List (Nat × Blk D)) (H : Hp) (J Jx : Nat → World → Prop) (all : List (TupD D ts)) (ρ : RM) (K : Bool → St D → List (TupD D ts) → Prop) (T : (Nat → Value) → World → Prop) : Prop := ∀ sp' st' rest' σ' w' ρ', K sp' st' rest' → RM.le ρ ρ' → IS fr H ρ' st' σ' w' → JS J Jx all sp' rest' w' → T σ' w'
theorem GoesI.mono {ρ ρ' : RM} {K : Bool → St D → List (TupD D ts) → Prop} {T : (Nat → Value) → World → Prop} (h : GoesI fr H J Jx all ρ K T) (hρ : RM.le ρ ρ') : GoesI fr H J Jx all ρ' K T := fun sp st rest σ w ρ2 hk h1 hs hj => h sp st rest σ w ρ2 hk (hρ.trans h1) hs hj
theorem runI_ok (hE : E.Ok) (hG : E.G H) (hJ : ∀ k A B, J k A → Below A.heap.size A B → J k B) (hJx : ∀ k A B, Jx k A → Below A.heap.size A B → Jx k B) (hY : YOk E.P ts H lp J Jx all) : ∀ (c : Code) {pos : List Nat} {sp : Bool} {st : St D} {rest : List (TupD D ts)} {σ : Nat → Value} {w : World} {ρ : RM} {K : Exit → Bool → St D → List (TupD D ts) → Prop} {Q : Exit → List Deferred → (Nat → Value) → World → Prop} {r : Option Nat} {md : Nat},
    ρ 0 = some (.v (.func (.yield lp) #[] #[])) → IS fr H ρ st σ w → JS J Jx all sp rest w → runI E N fr ts c pos sp st rest K → (∀ e, GoesI fr H J Jx all ρ (K e) fun σ' w' => Q e [] σ' w') → CW r md E.P N c Q [] σ w := by
  intro c
  induction c with
  | skip => intro pos sp st rest σ w ρ K Q r md h0 hs hj h hk; exact CW.skip (hk _ _ _ _ _ _ _ h (RM.le.refl _) hs hj)
  | ret => intro pos sp st rest σ w ρ K Q r md h0 hs hj h hk; exact CW.ret (hk _ _ _ _ _ _ _ h (RM.le.refl _) hs hj)
  | exit id => intro pos sp st rest σ w ρ K Q r md h0 hs hj h hk; exact CW.exit (hk _ _ _ _ _ _ _ h (RM.le.refl _) hs hj)
  | region id ops draw =>
    intro pos sp st rest σ w ρ K Q r md h0 hs hj h hk
    cases draw with
    | false =>
      obtain ⟨l⟩ := ops
      exact CW.region (runY_ok hE hG hJ hJx hY h0 hs hj h fun sp' st' rest' σ' w' h1 h2 h3 => hk _ _ _ _ _ _ _ h1 (RM.le.refl _) h2 h3)
    | true => exact h.elim
  | cond c a b iha ihb =>
    intro pos sp st rest σ w ρ K Q r md h0 hs hj h hk
    unfold runI at h
    cases hc : (evO st.sl c).map (res st.kn) with
    | none => simp only [hc] at h
    | some s =>
      obtain ⟨v0, hv0, hv1⟩ := Option.map_eq_some_iff.1 hc
      have hv2 := hs.sat.res (evO_ok hs.sl hv0)
      rw [hv1] at hv2
      simp only [hc] at h
      have ask : askF s (runI E N fr ts a (2 :: pos) sp (st.know c true) rest K) (runI E N fr ts b (3 :: pos) sp (st.know c false) rest K) → CW r md E.P N (.cond c a b) Q [] σ w := fun h => by
        rcases askF_ok hv2 h with ⟨e, h⟩ | ⟨e, h⟩
        · exact CW.cond_true e (iha h0 (hs.know e) hj h hk)
        · exact CW.cond_false e (ihb h0 (hs.know e) hj h hk)
      cases s with
      | k x =>
        cases x with
        | true => exact CW.cond_true hv2 (iha h0 hs hj h hk)
        | false => exact CW.cond_false hv2 (ihb h0 hs hj h hk)
      | _ => exact ask h
  | block id c ih =>
    intro pos sp st rest σ w ρ K Q r md h0 hs hj h hk
    refine CW.block (ih h0 hs hj h fun e => ?_)
    intro sp' st' rest' σ' w' ρ' h1 h2 h3 h4
    cases e with
    | exit id' =>
      show bif Nat.beq id' id then Q .normal [] σ' w' else Q (.exit id') [] σ' w'
      have h1 : cdP (Nat.beq id' id) (K .normal sp' st' rest') (K (.exit id') sp' st' rest') := h1
      cases hb : Nat.beq id' id with
      | true => rw [hb] at h1; exact hk _ _ _ _ _ _ _ h1 h2 h3 h4
      | false => rw [hb] at h1; exact hk _ _ _ _ _ _ _ h1 h2 h3 h4
    | _ => exact hk _ _ _ _ _ _ _ h1 h2 h3 h4
  | seq a b iha ihb =>
    intro pos sp st rest σ w ρ K Q r md h0 hs hj h hk
    unfold runI at h
    refine CW.seq (iha h0 hs hj h fun e => ?_)
    intro sp' st' rest' σ' w' ρ' h1 h2 h3 h4
    cases e with
    | normal => exact ihb (h2 _ _ h0) h3 h4 h1 fun e => (hk e).mono h2
    | _ => exact hk _ _ _ _ _ _ _ h1 h2 h3 h4
  | loop c ih =>
    intro pos sp st rest σ w ρ K Q r md h0 hs hj h hk
    unfold runI at h
    split at h
    · rename_i pe hpe
      obtain ⟨ρ1, g1, g2⟩ := hs.sat.tag
      split at h
      · rename_i s0 hs0
        obtain ⟨m, hm⟩ := h
        generalize hstep : (fun (q : List (TupD D ts) × TupV D pe.tp.vts) (rec : List (TupD D ts) × TupV D pe.tp.vts → Prop) => _) = step at hm
        obtain ⟨ρ2, L2, st2, e1, e2, e3⟩ := fillE_ok (kn := st.tag.kn) g2.nx (Hp.le.refl _) (RM.le.refl _) g2.kn g2.fr g2 hs0
        refine CW.loop (β := Nat) (fun n σ w => ∃ rest s ρ' st' L', (∀ b o, H b = some o → w.heap[b]? = some o) ∧ RM.le ρ1 ρ' ∧ makeE pe.tp st.tag.nx st.tag.kn s = some st' ∧ SlR H ρ' st'.sl σ ∧ BkR H ρ' st'.bk L' ∧ KnR H ρ' st'.kn ∧ (∀ id, st'.nx ≤ id → ρ' id = none) ∧ JS J Jx all false rest w ∧ LoopN step n (rest, s)) (fun n => n) m ⟨rest, s0, ρ2, st2, L2, hs.ag, e2, e1, e3.sl, e3.bk, e3.kn, e3.nx, hj, hm⟩ ?_
        rintro n σ w ⟨rest, s, ρ', st', L', f0, f1, f2, f3, f4, f5, f6, f7, f8⟩
        cases n with
        | zero => exact f8.elim
        | succ n =>
          have f8 : step (rest, s) (LoopN step n) := f8
          rw [← hstep] at f8
          simp only [f2] at f8
          split at f8
          · rename_i hbk
            refine ih (f1 _ _ (g1 _ _ h0)) ⟨f0, f3, g2.fr.mono (Hp.le.refl _) f1, f5, f6, hbk⟩ f7 f8 fun e => ?_
            intro sp3 st3 rest3 σ3 w3 ρ3 h1 h2 h3 h4
            cases e with
            | normal =>
              show [] = [] ∧ _
              refine ⟨rfl, ?_⟩
              simp only at h1
              cases sp3 with
              | true => exact h1.elim
              | false =>
                simp only at h1
                split at h1
                · rename_i s' hfill
                  obtain ⟨ρ4, L4, st4, i1, i2, i3⟩ := fillE_ok (kn := st.tag.kn) g2.nx (Hp.le.refl _) (f1.trans h2) g2.kn g2.fr h3.sat hfill
                  exact ⟨n, ⟨rest3, s', ρ4, st4, L4, h3.ag, i2, i1, i3.sl, i3.bk, i3.kn, i3.nx, h4, by rw [hstep] at h1; exact h1⟩, Nat.lt_succ_self _⟩
                · exact h1.elim
            | _ => exact hk _ _ _ _ _ _ _ h1 ((g1.trans f1).trans h2) h3 h4
          · exact f8.elim
      · exact h.elim
    · exact h.elim
  | rangeFunc f ps a b _ _ => intro pos sp st rest σ w ρ K Q r md h0 hs hj h hk; exact h.elim
  | scope c _ => intro pos sp st rest σ w ρ K Q r md h0 hs hj h hk; exact h.elim
  | label l => intro pos sp st rest σ w ρ K Q r md h0 hs hj h hk; exact h.elim
  | goto l => intro pos sp st rest σ w ρ K Q r md h0 hs hj h hk; exact h.elim
  | refuse s => intro pos sp st rest σ w ρ K Q r md h0 hs hj h hk; exact h.elim
def ptrsE : Nat → List Nat → List (SV D)
  | _, [] => []
  | n, _ :: r => .ptr n 0 :: ptrsE (n + 1) r
def frE : Nat → List Nat → List (List (SV D)) → List (Nat × Blk D)
  | n, t :: r, c :: m => (n, .fbx t c) :: frE (n + 1) r m
  | _, _, _ => []
theorem caps_open {P : Program} {tb : Tb D} (htb : TbOk tb) : ∀ {cs : List Nat} {x : TupD D cs} {lb : List Value} {ls : List (List (SV D))} {n : Nat} {ρ0 : RM}, CapsR H cs x lb → tupC tb cs x = some ls → (∀ id, n ≤ id → ρ0 id = none) → ∃ ρ, RM.le ρ0 ρ ∧ (∀ id, n + cs.length ≤ id → ρ id = none) ∧ RvL H ρ lb (ptrsE (D := D) n cs) ∧ BkR H ρ (frE n cs ls) []
  | [], _, lb, ls, n, ρ0, h, hl, hn => by
    cases hl
    exact ⟨ρ0, RM.le.refl _, hn, h, rfl⟩
  | t :: r, x, lb, ls, n, ρ0, ⟨b, us, q, e, h1, h2, h3⟩, hl, hn => by
    rw [tupC] at hl
    cases ha : toC tb t x.1 with
    | none => simp only [ha] at hl; cases hl
    | some a =>
      cases hb : tupC tb r x.2 with
      | none => simp only [ha, hb] at hl; cases hl
      | some m =>
        simp only [ha, hb] at hl
        cases hl
        obtain ⟨f1, f2⟩ := fresh_put hn (.b b)
        obtain ⟨ρ, g1, g2, g3, g4⟩ := caps_open (P := P) htb h3 hb f2
        have hp : ρ n = some (.b b) := g1 _ _ (RM.put_same _ _ _)
        refine ⟨ρ, f1.trans g1, fun id hid => g2 id (by rw [List.length_cons] at hid; omega), ⟨_, q, e, ⟨b, hp, rfl⟩, g3⟩, [], [], rfl, ⟨rfl, b, us, hp, h1, toC_ok htb ha h2⟩, g4⟩
def iterF (E : Env D) (f : Nat) (cs ts : List Nat) (x : TupD D cs) (l : List (TupD D ts)) : Prop := match tupC E.tb cs x with
  | some ls => match E.P.funcs[f]? with
    | some fn => match fn.body with
      | some c => match fn.results.toList with
        | [] => cdP (Nat.ble (cs.length + 1) fn.ntmps) (runI E fn.ntmps (frE 1 cs ls) ts c [] false ⟨slotsOf 0 (.kp 0 :: ptrsE 1 cs), [], [], 1 + cs.length⟩ l fun e sp _ rest => cdP (isEnd e) (match sp with
          | true => True
          | false => rest = []) False) False
        | _ :: _ => False
      | none => False
    | none => False
  | none => False
theorem It.lift (hE : E.Ok) (it : It D) (h : ∀ x l, it.W x l → iterF E it.f it.cs it.ts x l) : it.Ok E.P E.G := by
  intro x l hW H lb hG hC lp J Jx W hag hJ hJx hY hJ0
  have hF := h x l hW
  unfold iterF at hF
  split at hF
  · rename_i ls hls
    split at hF
    · rename_i fn hfn
      split at hF
      · rename_i c hc
        split at hF
        · rename_i hres
          obtain ⟨hN, hF⟩ := cifP hF
          obtain ⟨f1, f2⟩ := fresh_put (ρ := fun _ => none) (nx := 0) (fun _ _ => rfl) (.v (.func (.yield lp) #[] #[]))
          obtain ⟨ρ, g1, g2, g3, g4⟩ := caps_open (P := E.P) hE.tb hC hls f2
          have h0 : ρ 0 = some (.v (.func (.yield lp) #[] #[])) := g1 _ _ (RM.put_same _ _ _)
          have hv : RvL H ρ (Value.func (.yield lp) #[] #[] :: lb) (.kp 0 :: ptrsE 1 it.cs) := ⟨_, lb, rfl, h0, g3⟩
          refine calls_of_code hfn hc (by
            have hlen := RvL.length g3
            have hp : ∀ (n : Nat) (cs : List Nat), (ptrsE (D := D) n cs).length = cs.length := fun n cs => by
              induction cs generalizing n with
              | nil => rfl
              | cons _ _ ih => simp [ptrsE, ih]
            have := Nat.le_of_ble_eq_true hN
            simp [hlen, hp]; exact this) ?_
          refine runI_ok (all := l) (J := J) (Jx := Jx) (sp := false) (rest := l) (H := H) (ρ := ρ) hE hG hJ hJx (fun k A0 vs hk hvs hJk hA => hY k A0 vs hk hvs hJk hA) c h0 ⟨hag, slotsOf_ok hv, g4, (fun _ _ h => by cases h), fun id hid => g2 id hid, rfl⟩ ⟨0, Nat.zero_le _, hJ0, rfl⟩ hF fun e => ?_
          intro sp' st' rest' σ' w' ρ' h1 h2 h3 h4
          obtain ⟨he, h1⟩ := cifP h1
          obtain ⟨ux, e1, e2⟩ := results_ok (vs := []) hE.tb h3.sat (by rw [hres]; rfl)
          refine ⟨isEnd_ok he, rfl, tupVal ux, e2, ?_⟩
          cases sp' with
          | true =>
            obtain ⟨k, hk, hx⟩ := h4
            exact .inr ⟨k, hk, hx⟩
          | false =>
            obtain ⟨k, hkn, hk, hr⟩ := h4
            have h1 : rest' = [] := h1
            rw [h1] at hr
            have hkl : l.length ≤ k := List.drop_eq_nil_iff.1 hr.symm
            rw [show k = l.length by omega] at hk
            exact .inl hk
        · exact hF.elim
      · exact hF.elim
    · exact hF.elim
  · exact hF.elim
end
end
structure api_Write where
  Volume : Int
  Start : Int
  Data : List Sec
  deriving DecidableEq
instance dt_api_Write : Dt api_Write where
  default := ⟨0, 0, []⟩
  sz := 3
  rd H cs x := ∃ A0 n0 c0 s0, cs = [.int .i64 (x.Volume), .int .i64 (x.Start), .slice A0 n0 c0] ∧ Fz H A0 n0 c0 x.Data s0
  len := fun ⟨A0, n0, c0, s0, h, h0⟩ => by rw [h]; rfl
  mono := fun ⟨A0, n0, c0, s0, h, h0⟩ hle => ⟨A0, n0, c0, s0, h, h0.mono hle⟩
  one := fun ⟨A0, n0, c0, s0, h, h0⟩ => by rw [h]; exact oneAll ⟨rfl, rfl, rfl, trivial⟩
structure api_HistoryEvent where
  Kind : Int
  Write : Int
  deriving DecidableEq
instance dt_api_HistoryEvent : Dt api_HistoryEvent where
  default := ⟨0, 0⟩
  sz := 2
  rd H cs x := cs = [.int .i64 (x.Kind), .int .i64 (x.Write)]
  len h := by rw [h]; rfl
  mono h _ := h
  one h := by rw [h]; exact oneAll ⟨rfl, rfl, trivial⟩
structure api_History where
  Sizes : List Int
  Writes : List api_Write
  Events : List api_HistoryEvent
  deriving DecidableEq
instance dt_api_History : Dt api_History where
  default := ⟨[], [], []⟩
  sz := 3
  rd H cs x := ∃ A0 n0 c0 s0, ∃ A1 n1 c1 s1, ∃ A2 n2 c2 s2, cs = [.slice A0 n0 c0, .slice A1 n1 c1, .slice A2 n2 c2] ∧ Fz H A0 n0 c0 x.Sizes s0 ∧ Fz H A1 n1 c1 x.Writes s1 ∧ Fz H A2 n2 c2 x.Events s2
  len := fun ⟨A0, n0, c0, s0, A1, n1, c1, s1, A2, n2, c2, s2, h, h0, h1, h2⟩ => by rw [h]; rfl
  mono := fun ⟨A0, n0, c0, s0, A1, n1, c1, s1, A2, n2, c2, s2, h, h0, h1, h2⟩ hle => ⟨A0, n0, c0, s0, A1, n1, c1, s1, A2, n2, c2, s2, h, h0.mono hle, h1.mono hle, h2.mono hle⟩
  one := fun ⟨A0, n0, c0, s0, A1, n1, c1, s1, A2, n2, c2, s2, h, h0, h1, h2⟩ => by rw [h]; exact oneAll ⟨rfl, rfl, rfl, trivial⟩
structure api_Span where
  Epoch : Int
  From : Int
  To : Int
  deriving DecidableEq
instance dt_api_Span : Dt api_Span where
  default := ⟨0, 0, 0⟩
  sz := 3
  rd H cs x := cs = [.int .i64 (x.Epoch), .int .i64 (x.From), .int .i64 (x.To)]
  len h := by rw [h]; rfl
  mono h _ := h
  one h := by rw [h]; exact oneAll ⟨rfl, rfl, rfl, trivial⟩
structure api_Bitmap where
  Size : Int
  Words : List (BitVec 64)
  deriving DecidableEq
instance dt_api_Bitmap : Dt api_Bitmap where
  default := ⟨0, []⟩
  sz := 2
  rd H cs x := ∃ A0 n0 c0 s0, cs = [.int .i64 (x.Size), .slice A0 n0 c0] ∧ Fz H A0 n0 c0 x.Words s0
  len := fun ⟨A0, n0, c0, s0, h, h0⟩ => by rw [h]; rfl
  mono := fun ⟨A0, n0, c0, s0, h, h0⟩ hle => ⟨A0, n0, c0, s0, h, h0.mono hle⟩
  one := fun ⟨A0, n0, c0, s0, h, h0⟩ => by rw [h]; exact oneAll ⟨rfl, rfl, trivial⟩
structure api_Point where
  Site : Int
  Lineage : List api_Span
  Dirty : List api_Bitmap
  Image : List (List Sec)
  deriving DecidableEq
instance dt_api_Point : Dt api_Point where
  default := ⟨0, [], [], []⟩
  sz := 4
  rd H cs x := ∃ A0 n0 c0 s0, ∃ A1 n1 c1 s1, ∃ A2 n2 c2 s2, cs = [.int .i64 (x.Site), .slice A0 n0 c0, .slice A1 n1 c1, .slice A2 n2 c2] ∧ Fz H A0 n0 c0 x.Lineage s0 ∧ Fz H A1 n1 c1 x.Dirty s1 ∧ Fz H A2 n2 c2 x.Image s2
  len := fun ⟨A0, n0, c0, s0, A1, n1, c1, s1, A2, n2, c2, s2, h, h0, h1, h2⟩ => by rw [h]; rfl
  mono := fun ⟨A0, n0, c0, s0, A1, n1, c1, s1, A2, n2, c2, s2, h, h0, h1, h2⟩ hle => ⟨A0, n0, c0, s0, A1, n1, c1, s1, A2, n2, c2, s2, h, h0.mono hle, h1.mono hle, h2.mono hle⟩
  one := fun ⟨A0, n0, c0, s0, A1, n1, c1, s1, A2, n2, c2, s2, h, h0, h1, h2⟩ => by rw [h]; exact oneAll ⟨rfl, rfl, rfl, rfl, trivial⟩
structure api_Extent where
  Start : Int
  Count : Int
  deriving DecidableEq
instance dt_api_Extent : Dt api_Extent where
  default := ⟨0, 0⟩
  sz := 2
  rd H cs x := cs = [.int .i64 (x.Start), .int .i64 (x.Count)]
  len h := by rw [h]; rfl
  mono h _ := h
  one h := by rw [h]; exact oneAll ⟨rfl, rfl, trivial⟩
structure api_Cycle where
  Base : Int
  Number : Int
  Time : Int
  Positions : List Int
  Writes : List api_Write
  deriving DecidableEq
instance dt_api_Cycle : Dt api_Cycle where
  default := ⟨0, 0, 0, [], []⟩
  sz := 5
  rd H cs x := ∃ A0 n0 c0 s0, ∃ A1 n1 c1 s1, cs = [.int .i64 (x.Base), .int .i64 (x.Number), .int .i64 (x.Time), .slice A0 n0 c0, .slice A1 n1 c1] ∧ Fz H A0 n0 c0 x.Positions s0 ∧ Fz H A1 n1 c1 x.Writes s1
  len := fun ⟨A0, n0, c0, s0, A1, n1, c1, s1, h, h0, h1⟩ => by rw [h]; rfl
  mono := fun ⟨A0, n0, c0, s0, A1, n1, c1, s1, h, h0, h1⟩ hle => ⟨A0, n0, c0, s0, A1, n1, c1, s1, h, h0.mono hle, h1.mono hle⟩
  one := fun ⟨A0, n0, c0, s0, A1, n1, c1, s1, h, h0, h1⟩ => by rw [h]; exact oneAll ⟨rfl, rfl, rfl, rfl, rfl, trivial⟩
structure history_timeline where
  issued : List Int
  acked : List Int
  deriving DecidableEq
instance dt_history_timeline : Dt history_timeline where
  default := ⟨[], []⟩
  sz := 2
  rd H cs x := ∃ A0 n0 c0 s0, ∃ A1 n1 c1 s1, cs = [.slice A0 n0 c0, .slice A1 n1 c1] ∧ Fz H A0 n0 c0 x.issued s0 ∧ Fz H A1 n1 c1 x.acked s1
  len := fun ⟨A0, n0, c0, s0, A1, n1, c1, s1, h, h0, h1⟩ => by rw [h]; rfl
  mono := fun ⟨A0, n0, c0, s0, A1, n1, c1, s1, h, h0, h1⟩ hle => ⟨A0, n0, c0, s0, A1, n1, c1, s1, h, h0.mono hle, h1.mono hle⟩
  one := fun ⟨A0, n0, c0, s0, A1, n1, c1, s1, h, h0, h1⟩ => by rw [h]; exact oneAll ⟨rfl, rfl, trivial⟩
structure history_checked where
  History : api_History
  timeline : history_timeline
  deriving DecidableEq
instance dt_history_checked : Dt history_checked where
  default := ⟨default, default⟩
  sz := 5
  rd H cs x := ∃ A0 n0 c0 s0, ∃ A1 n1 c1 s1, ∃ A2 n2 c2 s2, ∃ A3 n3 c3 s3, ∃ A4 n4 c4 s4, cs = [.slice A0 n0 c0, .slice A1 n1 c1, .slice A2 n2 c2, .slice A3 n3 c3, .slice A4 n4 c4] ∧ Fz H A0 n0 c0 x.History.Sizes s0 ∧ Fz H A1 n1 c1 x.History.Writes s1 ∧ Fz H A2 n2 c2 x.History.Events s2 ∧ Fz H A3 n3 c3 x.timeline.issued s3 ∧ Fz H A4 n4 c4 x.timeline.acked s4
  len := fun ⟨A0, n0, c0, s0, A1, n1, c1, s1, A2, n2, c2, s2, A3, n3, c3, s3, A4, n4, c4, s4, h, h0, h1, h2, h3, h4⟩ => by rw [h]; rfl
  mono := fun ⟨A0, n0, c0, s0, A1, n1, c1, s1, A2, n2, c2, s2, A3, n3, c3, s3, A4, n4, c4, s4, h, h0, h1, h2, h3, h4⟩ hle => ⟨A0, n0, c0, s0, A1, n1, c1, s1, A2, n2, c2, s2, A3, n3, c3, s3, A4, n4, c4, s4, h, h0.mono hle, h1.mono hle, h2.mono hle, h3.mono hle, h4.mono hle⟩
  one := fun ⟨A0, n0, c0, s0, A1, n1, c1, s1, A2, n2, c2, s2, A3, n3, c3, s3, A4, n4, c4, s4, h, h0, h1, h2, h3, h4⟩ => by rw [h]; exact oneAll ⟨rfl, rfl, rfl, rfl, rfl, trivial⟩
instance dtUnit : Dt Unit where
  default := ()
  sz := 0
  rd _ cs _ := cs = []
  len h := by rw [h]; rfl
  mono h _ := h
  one h := by rw [h]; intro u hu; cases hu
structure TyR where
  α : Type
  inst : Dt α
def tyOf (t : Nat) : TyR := bif Nat.beq t 3 then ⟨Int, inferInstance⟩ else bif Nat.beq t 39 then ⟨Sec, inferInstance⟩ else bif Nat.beq t 37 then ⟨api_Write, inferInstance⟩ else bif Nat.beq t 71 then ⟨api_HistoryEvent, inferInstance⟩ else bif Nat.beq t 26 then ⟨api_History, inferInstance⟩ else bif Nat.beq t 22 then ⟨List Int, inferInstance⟩ else bif Nat.beq t 4 then ⟨Bool, inferInstance⟩ else bif Nat.beq t 35 then ⟨List Sec, inferInstance⟩ else bif Nat.beq t 48 then ⟨api_Span, inferInstance⟩ else bif Nat.beq t 5 then ⟨BitVec 8, inferInstance⟩ else bif Nat.beq t 41 then ⟨List (List Sec), inferInstance⟩ else bif Nat.beq t 42 then ⟨List api_Span, inferInstance⟩ else bif Nat.beq t 23 then ⟨List api_Write, inferInstance⟩ else bif Nat.beq t 134 then ⟨BitVec 64, inferInstance⟩ else bif Nat.beq t 84 then ⟨api_Bitmap, inferInstance⟩ else bif Nat.beq t 45 then ⟨api_Point, inferInstance⟩ else bif Nat.beq t 43 then ⟨List api_Bitmap, inferInstance⟩ else bif Nat.beq t 61 then ⟨api_Extent, inferInstance⟩ else bif Nat.beq t 62 then ⟨List api_Extent, inferInstance⟩ else bif Nat.beq t 50 then ⟨List (List api_Extent), inferInstance⟩ else bif Nat.beq t 51 then ⟨Int, inferInstance⟩ else bif Nat.beq t 40 then ⟨List (List Sec), inferInstance⟩ else bif Nat.beq t 56 then ⟨api_Cycle, inferInstance⟩ else bif Nat.beq t 96 then ⟨history_checked, inferInstance⟩ else bif Nat.beq t 24 then ⟨List api_HistoryEvent, inferInstance⟩ else bif Nat.beq t 32 then ⟨List Bool, inferInstance⟩ else ⟨Unit, dtUnit⟩
abbrev DD (t : Nat) : Type := (tyOf t).α
instance dtDD (t : Nat) : Dt (DD t) := (tyOf t).inst
def xI : SV DD → Option Int
  | .i .i64 n => some n
  | _ => none
def xW : SV DD → Option (BitVec 64)
  | .w x => some x
  | _ => none
def xY : SV DD → Option (BitVec 8)
  | .y x => some x
  | _ => none
def xS (e : Nat) : SV DD → Option (List (DD e))
  | .fsl e' xs => castL e' e xs
  | .nil => some []
  | _ => none
theorem xI_cq {a : SV DD} {n : Int} (h : xI a = some n) : CQ a (.i .i64 n) := by
  unfold xI at h
  split at h
  · cases h; exact .inr ⟨rfl, rfl, fun _ _ _ h => h⟩
  · cases h
theorem xW_cq {a : SV DD} {n : BitVec 64} (h : xW a = some n) : CQ a (.w n) := by
  unfold xW at h
  split at h
  · cases h; exact .inr ⟨rfl, rfl, fun _ _ _ h => h⟩
  · cases h
theorem xY_cq {a : SV DD} {n : BitVec 8} (h : xY a = some n) : CQ a (.y n) := by
  unfold xY at h
  split at h
  · cases h; exact .inr ⟨rfl, rfl, fun _ _ _ h => h⟩
  · cases h
theorem xB_cq {a : SV DD} {n : Bool} (h : boolOf a = some n) : CQ a (.b n) := by
  cases a <;> first | (cases h; exact .inr ⟨rfl, rfl, fun _ _ _ h => h⟩) | cases h
theorem xS_cq {e : Nat} {a : SV DD} {n : List (DD e)} (h : xS e a = some n) : CQ a (.fsl e n) := by
  unfold xS at h
  split at h
  · obtain ⟨he, h1⟩ := castL_ok h
    subst he
    subst h1
    exact .inl ⟨_, _, rfl, .inl rfl⟩
  · cases h; exact .inl ⟨_, _, rfl, .inr ⟨rfl, rfl⟩⟩
  · cases h
theorem bindS {α β : Type} {o : Option α} {f : α → Option β} {x : β} (h : o.bind f = some x) : ∃ v, o = some v ∧ f v = some x := Option.bind_eq_some_iff.1 h
def ofc3 : List (SV DD) → Option (DD 3)
  | [a0] => (xI a0).bind fun v0 => some v0
  | _ => none
def ce3 : CE DD := ⟨3, fun x => [.i .i64 (x)], ofc3, none⟩
theorem ceOk3 : ce3.Ok where
  rdi := @fun H ρ cs x => ⟨fun h => by
    obtain h := (show Dt.rd (α := Int) H cs x from h)
    subst h
    exact ⟨_, _, rfl, rfl, rfl⟩, fun h => by
    obtain ⟨v0, r0, e0, p0, e⟩ := h
    have e : r0 = [] := e
    subst e
    subst e0
    have p0 : v0 = _ := p0
    subst p0
    exact (show Dt.rd (α := Int) H _ x from rfl)⟩
  cq := @fun l x h => by
    change ofc3 l = some x at h
    unfold ofc3 at h
    split at h
    · obtain ⟨v0, h0, h⟩ := bindS h
      cases h
      exact ⟨_, _, rfl, xI_cq h0, rfl⟩
    · cases h
  eqc := fun d a b c1 c2 hd h1 h2 => by cases hd
def ofc39 : List (SV DD) → Option (DD 39)
  | [a0, a1, a2, a3, a4, a5, a6, a7] => (xY a0).bind fun v0 => (xY a1).bind fun v1 => (xY a2).bind fun v2 => (xY a3).bind fun v3 => (xY a4).bind fun v4 => (xY a5).bind fun v5 => (xY a6).bind fun v6 => (xY a7).bind fun v7 => some ⟨v0, v1, v2, v3, v4, v5, v6, v7⟩
  | _ => none
def ce39 : CE DD := ⟨39, fun x => [.y (x.b0), .y (x.b1), .y (x.b2), .y (x.b3), .y (x.b4), .y (x.b5), .y (x.b6), .y (x.b7)], ofc39, some (inferInstanceAs (DecidableEq Sec))⟩
theorem sc39 (a b : Sec) : (([.i .u8 ((a.b0).toNat : Int), .i .u8 ((a.b1).toNat : Int), .i .u8 ((a.b2).toNat : Int), .i .u8 ((a.b3).toNat : Int), .i .u8 ((a.b4).toNat : Int), .i .u8 ((a.b5).toNat : Int), .i .u8 ((a.b6).toNat : Int), .i .u8 ((a.b7).toNat : Int)] : List Sc) = [.i .u8 ((b.b0).toNat : Int), .i .u8 ((b.b1).toNat : Int), .i .u8 ((b.b2).toNat : Int), .i .u8 ((b.b3).toNat : Int), .i .u8 ((b.b4).toNat : Int), .i .u8 ((b.b5).toNat : Int), .i .u8 ((b.b6).toNat : Int), .i .u8 ((b.b7).toNat : Int)]) ↔ a = b := by
  cases a; cases b; simp [← BitVec.toNat_inj]; omega
theorem ceOk39 : ce39.Ok where
  rdi := @fun H ρ cs x => ⟨fun h => by
    obtain h := (show Dt.rd (α := Sec) H cs x from h)
    subst h
    exact ⟨_, _, rfl, rfl, _, _, rfl, rfl, _, _, rfl, rfl, _, _, rfl, rfl, _, _, rfl, rfl, _, _, rfl, rfl, _, _, rfl, rfl, _, _, rfl, rfl, rfl⟩, fun h => by
    obtain ⟨v0, r0, e0, p0, v1, r1, e1, p1, v2, r2, e2, p2, v3, r3, e3, p3, v4, r4, e4, p4, v5, r5, e5, p5, v6, r6, e6, p6, v7, r7, e7, p7, e⟩ := h
    have e : r7 = [] := e
    subst e
    subst e7
    subst e6
    subst e5
    subst e4
    subst e3
    subst e2
    subst e1
    subst e0
    have p0 : v0 = _ := p0
    subst p0
    have p1 : v1 = _ := p1
    subst p1
    have p2 : v2 = _ := p2
    subst p2
    have p3 : v3 = _ := p3
    subst p3
    have p4 : v4 = _ := p4
    subst p4
    have p5 : v5 = _ := p5
    subst p5
    have p6 : v6 = _ := p6
    subst p6
    have p7 : v7 = _ := p7
    subst p7
    exact (show Dt.rd (α := Sec) H _ x from rfl)⟩
  cq := @fun l x h => by
    change ofc39 l = some x at h
    unfold ofc39 at h
    split at h
    · obtain ⟨v0, h0, h⟩ := bindS h
      obtain ⟨v1, h1, h⟩ := bindS h
      obtain ⟨v2, h2, h⟩ := bindS h
      obtain ⟨v3, h3, h⟩ := bindS h
      obtain ⟨v4, h4, h⟩ := bindS h
      obtain ⟨v5, h5, h⟩ := bindS h
      obtain ⟨v6, h6, h⟩ := bindS h
      obtain ⟨v7, h7, h⟩ := bindS h
      cases h
      exact ⟨_, _, rfl, xY_cq h0, _, _, rfl, xY_cq h1, _, _, rfl, xY_cq h2, _, _, rfl, xY_cq h3, _, _, rfl, xY_cq h4, _, _, rfl, xY_cq h5, _, _, rfl, xY_cq h6, _, _, rfl, xY_cq h7, rfl⟩
    · cases h
  eqc := fun d a b c1 c2 hd h1 h2 => by
    cases h1; cases h2
    exact sc39 a b
def ofc37 : List (SV DD) → Option (DD 37)
  | [a0, a1, a2] => (xI a0).bind fun v0 => (xI a1).bind fun v1 => (xS 39 a2).bind fun v2 => some ⟨v0, v1, v2⟩
  | _ => none
def ce37 : CE DD := ⟨37, fun x => [.i .i64 (x.Volume), .i .i64 (x.Start), .fsl 39 (x.Data)], ofc37, none⟩
theorem ceOk37 : ce37.Ok where
  rdi := @fun H ρ cs x => ⟨fun h => by
    obtain ⟨A0, n0, c0, s0, h, h0⟩ := (show Dt.rd (α := api_Write) H cs x from h)
    subst h
    exact ⟨_, _, rfl, rfl, _, _, rfl, rfl, _, _, rfl, ⟨A0, n0, c0, s0, rfl, h0⟩, rfl⟩, fun h => by
    obtain ⟨v0, r0, e0, p0, v1, r1, e1, p1, v2, r2, e2, ⟨A0, n0, c0, s0, p2, h0⟩, e⟩ := h
    have e : r2 = [] := e
    subst e
    subst e2
    subst e1
    subst e0
    have p0 : v0 = _ := p0
    subst p0
    have p1 : v1 = _ := p1
    subst p1
    subst p2
    exact (show Dt.rd (α := api_Write) H _ x from ⟨A0, n0, c0, s0, rfl, h0⟩)⟩
  cq := @fun l x h => by
    change ofc37 l = some x at h
    unfold ofc37 at h
    split at h
    · obtain ⟨v0, h0, h⟩ := bindS h
      obtain ⟨v1, h1, h⟩ := bindS h
      obtain ⟨v2, h2, h⟩ := bindS h
      cases h
      exact ⟨_, _, rfl, xI_cq h0, _, _, rfl, xI_cq h1, _, _, rfl, xS_cq h2, rfl⟩
    · cases h
  eqc := fun d a b c1 c2 hd h1 h2 => by cases hd
def ofc71 : List (SV DD) → Option (DD 71)
  | [a0, a1] => (xI a0).bind fun v0 => (xI a1).bind fun v1 => some ⟨v0, v1⟩
  | _ => none
def ce71 : CE DD := ⟨71, fun x => [.i .i64 (x.Kind), .i .i64 (x.Write)], ofc71, some (inferInstanceAs (DecidableEq api_HistoryEvent))⟩
theorem sc71 (a b : api_HistoryEvent) : (([.i .i64 (a.Kind), .i .i64 (a.Write)] : List Sc) = [.i .i64 (b.Kind), .i .i64 (b.Write)]) ↔ a = b := by
  cases a; cases b; simp
theorem ceOk71 : ce71.Ok where
  rdi := @fun H ρ cs x => ⟨fun h => by
    obtain h := (show Dt.rd (α := api_HistoryEvent) H cs x from h)
    subst h
    exact ⟨_, _, rfl, rfl, _, _, rfl, rfl, rfl⟩, fun h => by
    obtain ⟨v0, r0, e0, p0, v1, r1, e1, p1, e⟩ := h
    have e : r1 = [] := e
    subst e
    subst e1
    subst e0
    have p0 : v0 = _ := p0
    subst p0
    have p1 : v1 = _ := p1
    subst p1
    exact (show Dt.rd (α := api_HistoryEvent) H _ x from rfl)⟩
  cq := @fun l x h => by
    change ofc71 l = some x at h
    unfold ofc71 at h
    split at h
    · obtain ⟨v0, h0, h⟩ := bindS h
      obtain ⟨v1, h1, h⟩ := bindS h
      cases h
      exact ⟨_, _, rfl, xI_cq h0, _, _, rfl, xI_cq h1, rfl⟩
    · cases h
  eqc := fun d a b c1 c2 hd h1 h2 => by
    cases h1; cases h2
    exact sc71 a b
def ofc26 : List (SV DD) → Option (DD 26)
  | [a0, a1, a2] => (xS 3 a0).bind fun v0 => (xS 37 a1).bind fun v1 => (xS 71 a2).bind fun v2 => some ⟨v0, v1, v2⟩
  | _ => none
def ce26 : CE DD := ⟨26, fun x => [.fsl 3 (x.Sizes), .fsl 37 (x.Writes), .fsl 71 (x.Events)], ofc26, none⟩
theorem ceOk26 : ce26.Ok where
  rdi := @fun H ρ cs x => ⟨fun h => by
    obtain ⟨A0, n0, c0, s0, A1, n1, c1, s1, A2, n2, c2, s2, h, h0, h1, h2⟩ := (show Dt.rd (α := api_History) H cs x from h)
    subst h
    exact ⟨_, _, rfl, ⟨A0, n0, c0, s0, rfl, h0⟩, _, _, rfl, ⟨A1, n1, c1, s1, rfl, h1⟩, _, _, rfl, ⟨A2, n2, c2, s2, rfl, h2⟩, rfl⟩, fun h => by
    obtain ⟨v0, r0, e0, ⟨A0, n0, c0, s0, p0, h0⟩, v1, r1, e1, ⟨A1, n1, c1, s1, p1, h1⟩, v2, r2, e2, ⟨A2, n2, c2, s2, p2, h2⟩, e⟩ := h
    have e : r2 = [] := e
    subst e
    subst e2
    subst e1
    subst e0
    subst p0
    subst p1
    subst p2
    exact (show Dt.rd (α := api_History) H _ x from ⟨A0, n0, c0, s0, A1, n1, c1, s1, A2, n2, c2, s2, rfl, h0, h1, h2⟩)⟩
  cq := @fun l x h => by
    change ofc26 l = some x at h
    unfold ofc26 at h
    split at h
    · obtain ⟨v0, h0, h⟩ := bindS h
      obtain ⟨v1, h1, h⟩ := bindS h
      obtain ⟨v2, h2, h⟩ := bindS h
      cases h
      exact ⟨_, _, rfl, xS_cq h0, _, _, rfl, xS_cq h1, _, _, rfl, xS_cq h2, rfl⟩
    · cases h
  eqc := fun d a b c1 c2 hd h1 h2 => by cases hd
def ofc22 : List (SV DD) → Option (DD 22)
  | [a0] => (xS 3 a0).bind fun v0 => some v0
  | _ => none
def ce22 : CE DD := ⟨22, fun x => [.fsl 3 (x)], ofc22, none⟩
theorem ceOk22 : ce22.Ok where
  rdi := @fun H ρ cs x => ⟨fun h => by
    obtain ⟨A0, n0, c0, s0, h, h0⟩ := (show Dt.rd (α := List Int) H cs x from h)
    subst h
    exact ⟨_, _, rfl, ⟨A0, n0, c0, s0, rfl, h0⟩, rfl⟩, fun h => by
    obtain ⟨v0, r0, e0, ⟨A0, n0, c0, s0, p0, h0⟩, e⟩ := h
    have e : r0 = [] := e
    subst e
    subst e0
    subst p0
    exact (show Dt.rd (α := List Int) H _ x from ⟨A0, n0, c0, s0, rfl, h0⟩)⟩
  cq := @fun l x h => by
    change ofc22 l = some x at h
    unfold ofc22 at h
    split at h
    · obtain ⟨v0, h0, h⟩ := bindS h
      cases h
      exact ⟨_, _, rfl, xS_cq h0, rfl⟩
    · cases h
  eqc := fun d a b c1 c2 hd h1 h2 => by cases hd
def ofc4 : List (SV DD) → Option (DD 4)
  | [a0] => (boolOf a0).bind fun v0 => some v0
  | _ => none
def ce4 : CE DD := ⟨4, fun x => [.b (x)], ofc4, none⟩
theorem ceOk4 : ce4.Ok where
  rdi := @fun H ρ cs x => ⟨fun h => by
    obtain h := (show Dt.rd (α := Bool) H cs x from h)
    subst h
    exact ⟨_, _, rfl, rfl, rfl⟩, fun h => by
    obtain ⟨v0, r0, e0, p0, e⟩ := h
    have e : r0 = [] := e
    subst e
    subst e0
    have p0 : v0 = _ := p0
    subst p0
    exact (show Dt.rd (α := Bool) H _ x from rfl)⟩
  cq := @fun l x h => by
    change ofc4 l = some x at h
    unfold ofc4 at h
    split at h
    · obtain ⟨v0, h0, h⟩ := bindS h
      cases h
      exact ⟨_, _, rfl, xB_cq h0, rfl⟩
    · cases h
  eqc := fun d a b c1 c2 hd h1 h2 => by cases hd
def ofc35 : List (SV DD) → Option (DD 35)
  | [a0] => (xS 39 a0).bind fun v0 => some v0
  | _ => none
def ce35 : CE DD := ⟨35, fun x => [.fsl 39 (x)], ofc35, none⟩
theorem ceOk35 : ce35.Ok where
  rdi := @fun H ρ cs x => ⟨fun h => by
    obtain ⟨A0, n0, c0, s0, h, h0⟩ := (show Dt.rd (α := List Sec) H cs x from h)
    subst h
    exact ⟨_, _, rfl, ⟨A0, n0, c0, s0, rfl, h0⟩, rfl⟩, fun h => by
    obtain ⟨v0, r0, e0, ⟨A0, n0, c0, s0, p0, h0⟩, e⟩ := h
    have e : r0 = [] := e
    subst e
    subst e0
    subst p0
    exact (show Dt.rd (α := List Sec) H _ x from ⟨A0, n0, c0, s0, rfl, h0⟩)⟩
  cq := @fun l x h => by
    change ofc35 l = some x at h
    unfold ofc35 at h
    split at h
    · obtain ⟨v0, h0, h⟩ := bindS h
      cases h
      exact ⟨_, _, rfl, xS_cq h0, rfl⟩
    · cases h
  eqc := fun d a b c1 c2 hd h1 h2 => by cases hd
def ofc48 : List (SV DD) → Option (DD 48)
  | [a0, a1, a2] => (xI a0).bind fun v0 => (xI a1).bind fun v1 => (xI a2).bind fun v2 => some ⟨v0, v1, v2⟩
  | _ => none
def ce48 : CE DD := ⟨48, fun x => [.i .i64 (x.Epoch), .i .i64 (x.From), .i .i64 (x.To)], ofc48, some (inferInstanceAs (DecidableEq api_Span))⟩
theorem sc48 (a b : api_Span) : (([.i .i64 (a.Epoch), .i .i64 (a.From), .i .i64 (a.To)] : List Sc) = [.i .i64 (b.Epoch), .i .i64 (b.From), .i .i64 (b.To)]) ↔ a = b := by
  cases a; cases b; simp
theorem ceOk48 : ce48.Ok where
  rdi := @fun H ρ cs x => ⟨fun h => by
    obtain h := (show Dt.rd (α := api_Span) H cs x from h)
    subst h
    exact ⟨_, _, rfl, rfl, _, _, rfl, rfl, _, _, rfl, rfl, rfl⟩, fun h => by
    obtain ⟨v0, r0, e0, p0, v1, r1, e1, p1, v2, r2, e2, p2, e⟩ := h
    have e : r2 = [] := e
    subst e
    subst e2
    subst e1
    subst e0
    have p0 : v0 = _ := p0
    subst p0
    have p1 : v1 = _ := p1
    subst p1
    have p2 : v2 = _ := p2
    subst p2
    exact (show Dt.rd (α := api_Span) H _ x from rfl)⟩
  cq := @fun l x h => by
    change ofc48 l = some x at h
    unfold ofc48 at h
    split at h
    · obtain ⟨v0, h0, h⟩ := bindS h
      obtain ⟨v1, h1, h⟩ := bindS h
      obtain ⟨v2, h2, h⟩ := bindS h
      cases h
      exact ⟨_, _, rfl, xI_cq h0, _, _, rfl, xI_cq h1, _, _, rfl, xI_cq h2, rfl⟩
    · cases h
  eqc := fun d a b c1 c2 hd h1 h2 => by
    cases h1; cases h2
    exact sc48 a b
def ofc5 : List (SV DD) → Option (DD 5)
  | [a0] => (xY a0).bind fun v0 => some v0
  | _ => none
def ce5 : CE DD := ⟨5, fun x => [.y (x)], ofc5, none⟩
theorem ceOk5 : ce5.Ok where
  rdi := @fun H ρ cs x => ⟨fun h => by
    obtain h := (show Dt.rd (α := BitVec 8) H cs x from h)
    subst h
    exact ⟨_, _, rfl, rfl, rfl⟩, fun h => by
    obtain ⟨v0, r0, e0, p0, e⟩ := h
    have e : r0 = [] := e
    subst e
    subst e0
    have p0 : v0 = _ := p0
    subst p0
    exact (show Dt.rd (α := BitVec 8) H _ x from rfl)⟩
  cq := @fun l x h => by
    change ofc5 l = some x at h
    unfold ofc5 at h
    split at h
    · obtain ⟨v0, h0, h⟩ := bindS h
      cases h
      exact ⟨_, _, rfl, xY_cq h0, rfl⟩
    · cases h
  eqc := fun d a b c1 c2 hd h1 h2 => by cases hd
def ofc41 : List (SV DD) → Option (DD 41)
  | [a0] => (xS 35 a0).bind fun v0 => some v0
  | _ => none
def ce41 : CE DD := ⟨41, fun x => [.fsl 35 (x)], ofc41, none⟩
theorem ceOk41 : ce41.Ok where
  rdi := @fun H ρ cs x => ⟨fun h => by
    obtain ⟨A0, n0, c0, s0, h, h0⟩ := (show Dt.rd (α := List (List Sec)) H cs x from h)
    subst h
    exact ⟨_, _, rfl, ⟨A0, n0, c0, s0, rfl, h0⟩, rfl⟩, fun h => by
    obtain ⟨v0, r0, e0, ⟨A0, n0, c0, s0, p0, h0⟩, e⟩ := h
    have e : r0 = [] := e
    subst e
    subst e0
    subst p0
    exact (show Dt.rd (α := List (List Sec)) H _ x from ⟨A0, n0, c0, s0, rfl, h0⟩)⟩
  cq := @fun l x h => by
    change ofc41 l = some x at h
    unfold ofc41 at h
    split at h
    · obtain ⟨v0, h0, h⟩ := bindS h
      cases h
      exact ⟨_, _, rfl, xS_cq h0, rfl⟩
    · cases h
  eqc := fun d a b c1 c2 hd h1 h2 => by cases hd
def ofc42 : List (SV DD) → Option (DD 42)
  | [a0] => (xS 48 a0).bind fun v0 => some v0
  | _ => none
def ce42 : CE DD := ⟨42, fun x => [.fsl 48 (x)], ofc42, none⟩
theorem ceOk42 : ce42.Ok where
  rdi := @fun H ρ cs x => ⟨fun h => by
    obtain ⟨A0, n0, c0, s0, h, h0⟩ := (show Dt.rd (α := List api_Span) H cs x from h)
    subst h
    exact ⟨_, _, rfl, ⟨A0, n0, c0, s0, rfl, h0⟩, rfl⟩, fun h => by
    obtain ⟨v0, r0, e0, ⟨A0, n0, c0, s0, p0, h0⟩, e⟩ := h
    have e : r0 = [] := e
    subst e
    subst e0
    subst p0
    exact (show Dt.rd (α := List api_Span) H _ x from ⟨A0, n0, c0, s0, rfl, h0⟩)⟩
  cq := @fun l x h => by
    change ofc42 l = some x at h
    unfold ofc42 at h
    split at h
    · obtain ⟨v0, h0, h⟩ := bindS h
      cases h
      exact ⟨_, _, rfl, xS_cq h0, rfl⟩
    · cases h
  eqc := fun d a b c1 c2 hd h1 h2 => by cases hd
def ofc23 : List (SV DD) → Option (DD 23)
  | [a0] => (xS 37 a0).bind fun v0 => some v0
  | _ => none
def ce23 : CE DD := ⟨23, fun x => [.fsl 37 (x)], ofc23, none⟩
theorem ceOk23 : ce23.Ok where
  rdi := @fun H ρ cs x => ⟨fun h => by
    obtain ⟨A0, n0, c0, s0, h, h0⟩ := (show Dt.rd (α := List api_Write) H cs x from h)
    subst h
    exact ⟨_, _, rfl, ⟨A0, n0, c0, s0, rfl, h0⟩, rfl⟩, fun h => by
    obtain ⟨v0, r0, e0, ⟨A0, n0, c0, s0, p0, h0⟩, e⟩ := h
    have e : r0 = [] := e
    subst e
    subst e0
    subst p0
    exact (show Dt.rd (α := List api_Write) H _ x from ⟨A0, n0, c0, s0, rfl, h0⟩)⟩
  cq := @fun l x h => by
    change ofc23 l = some x at h
    unfold ofc23 at h
    split at h
    · obtain ⟨v0, h0, h⟩ := bindS h
      cases h
      exact ⟨_, _, rfl, xS_cq h0, rfl⟩
    · cases h
  eqc := fun d a b c1 c2 hd h1 h2 => by cases hd
def ofc134 : List (SV DD) → Option (DD 134)
  | [a0] => (xW a0).bind fun v0 => some v0
  | _ => none
def ce134 : CE DD := ⟨134, fun x => [.w (x)], ofc134, none⟩
theorem ceOk134 : ce134.Ok where
  rdi := @fun H ρ cs x => ⟨fun h => by
    obtain h := (show Dt.rd (α := BitVec 64) H cs x from h)
    subst h
    exact ⟨_, _, rfl, rfl, rfl⟩, fun h => by
    obtain ⟨v0, r0, e0, p0, e⟩ := h
    have e : r0 = [] := e
    subst e
    subst e0
    have p0 : v0 = _ := p0
    subst p0
    exact (show Dt.rd (α := BitVec 64) H _ x from rfl)⟩
  cq := @fun l x h => by
    change ofc134 l = some x at h
    unfold ofc134 at h
    split at h
    · obtain ⟨v0, h0, h⟩ := bindS h
      cases h
      exact ⟨_, _, rfl, xW_cq h0, rfl⟩
    · cases h
  eqc := fun d a b c1 c2 hd h1 h2 => by cases hd
def ofc84 : List (SV DD) → Option (DD 84)
  | [a0, a1] => (xI a0).bind fun v0 => (xS 134 a1).bind fun v1 => some ⟨v0, v1⟩
  | _ => none
def ce84 : CE DD := ⟨84, fun x => [.i .i64 (x.Size), .fsl 134 (x.Words)], ofc84, none⟩
theorem ceOk84 : ce84.Ok where
  rdi := @fun H ρ cs x => ⟨fun h => by
    obtain ⟨A0, n0, c0, s0, h, h0⟩ := (show Dt.rd (α := api_Bitmap) H cs x from h)
    subst h
    exact ⟨_, _, rfl, rfl, _, _, rfl, ⟨A0, n0, c0, s0, rfl, h0⟩, rfl⟩, fun h => by
    obtain ⟨v0, r0, e0, p0, v1, r1, e1, ⟨A0, n0, c0, s0, p1, h0⟩, e⟩ := h
    have e : r1 = [] := e
    subst e
    subst e1
    subst e0
    have p0 : v0 = _ := p0
    subst p0
    subst p1
    exact (show Dt.rd (α := api_Bitmap) H _ x from ⟨A0, n0, c0, s0, rfl, h0⟩)⟩
  cq := @fun l x h => by
    change ofc84 l = some x at h
    unfold ofc84 at h
    split at h
    · obtain ⟨v0, h0, h⟩ := bindS h
      obtain ⟨v1, h1, h⟩ := bindS h
      cases h
      exact ⟨_, _, rfl, xI_cq h0, _, _, rfl, xS_cq h1, rfl⟩
    · cases h
  eqc := fun d a b c1 c2 hd h1 h2 => by cases hd
def ofc45 : List (SV DD) → Option (DD 45)
  | [a0, a1, a2, a3] => (xI a0).bind fun v0 => (xS 48 a1).bind fun v1 => (xS 84 a2).bind fun v2 => (xS 35 a3).bind fun v3 => some ⟨v0, v1, v2, v3⟩
  | _ => none
def ce45 : CE DD := ⟨45, fun x => [.i .i64 (x.Site), .fsl 48 (x.Lineage), .fsl 84 (x.Dirty), .fsl 35 (x.Image)], ofc45, none⟩
theorem ceOk45 : ce45.Ok where
  rdi := @fun H ρ cs x => ⟨fun h => by
    obtain ⟨A0, n0, c0, s0, A1, n1, c1, s1, A2, n2, c2, s2, h, h0, h1, h2⟩ := (show Dt.rd (α := api_Point) H cs x from h)
    subst h
    exact ⟨_, _, rfl, rfl, _, _, rfl, ⟨A0, n0, c0, s0, rfl, h0⟩, _, _, rfl, ⟨A1, n1, c1, s1, rfl, h1⟩, _, _, rfl, ⟨A2, n2, c2, s2, rfl, h2⟩, rfl⟩, fun h => by
    obtain ⟨v0, r0, e0, p0, v1, r1, e1, ⟨A0, n0, c0, s0, p1, h0⟩, v2, r2, e2, ⟨A1, n1, c1, s1, p2, h1⟩, v3, r3, e3, ⟨A2, n2, c2, s2, p3, h2⟩, e⟩ := h
    have e : r3 = [] := e
    subst e
    subst e3
    subst e2
    subst e1
    subst e0
    have p0 : v0 = _ := p0
    subst p0
    subst p1
    subst p2
    subst p3
    exact (show Dt.rd (α := api_Point) H _ x from ⟨A0, n0, c0, s0, A1, n1, c1, s1, A2, n2, c2, s2, rfl, h0, h1, h2⟩)⟩
  cq := @fun l x h => by
    change ofc45 l = some x at h
    unfold ofc45 at h
    split at h
    · obtain ⟨v0, h0, h⟩ := bindS h
      obtain ⟨v1, h1, h⟩ := bindS h
      obtain ⟨v2, h2, h⟩ := bindS h
      obtain ⟨v3, h3, h⟩ := bindS h
      cases h
      exact ⟨_, _, rfl, xI_cq h0, _, _, rfl, xS_cq h1, _, _, rfl, xS_cq h2, _, _, rfl, xS_cq h3, rfl⟩
    · cases h
  eqc := fun d a b c1 c2 hd h1 h2 => by cases hd
def ofc43 : List (SV DD) → Option (DD 43)
  | [a0] => (xS 84 a0).bind fun v0 => some v0
  | _ => none
def ce43 : CE DD := ⟨43, fun x => [.fsl 84 (x)], ofc43, none⟩
theorem ceOk43 : ce43.Ok where
  rdi := @fun H ρ cs x => ⟨fun h => by
    obtain ⟨A0, n0, c0, s0, h, h0⟩ := (show Dt.rd (α := List api_Bitmap) H cs x from h)
    subst h
    exact ⟨_, _, rfl, ⟨A0, n0, c0, s0, rfl, h0⟩, rfl⟩, fun h => by
    obtain ⟨v0, r0, e0, ⟨A0, n0, c0, s0, p0, h0⟩, e⟩ := h
    have e : r0 = [] := e
    subst e
    subst e0
    subst p0
    exact (show Dt.rd (α := List api_Bitmap) H _ x from ⟨A0, n0, c0, s0, rfl, h0⟩)⟩
  cq := @fun l x h => by
    change ofc43 l = some x at h
    unfold ofc43 at h
    split at h
    · obtain ⟨v0, h0, h⟩ := bindS h
      cases h
      exact ⟨_, _, rfl, xS_cq h0, rfl⟩
    · cases h
  eqc := fun d a b c1 c2 hd h1 h2 => by cases hd
def ofc61 : List (SV DD) → Option (DD 61)
  | [a0, a1] => (xI a0).bind fun v0 => (xI a1).bind fun v1 => some ⟨v0, v1⟩
  | _ => none
def ce61 : CE DD := ⟨61, fun x => [.i .i64 (x.Start), .i .i64 (x.Count)], ofc61, some (inferInstanceAs (DecidableEq api_Extent))⟩
theorem sc61 (a b : api_Extent) : (([.i .i64 (a.Start), .i .i64 (a.Count)] : List Sc) = [.i .i64 (b.Start), .i .i64 (b.Count)]) ↔ a = b := by
  cases a; cases b; simp
theorem ceOk61 : ce61.Ok where
  rdi := @fun H ρ cs x => ⟨fun h => by
    obtain h := (show Dt.rd (α := api_Extent) H cs x from h)
    subst h
    exact ⟨_, _, rfl, rfl, _, _, rfl, rfl, rfl⟩, fun h => by
    obtain ⟨v0, r0, e0, p0, v1, r1, e1, p1, e⟩ := h
    have e : r1 = [] := e
    subst e
    subst e1
    subst e0
    have p0 : v0 = _ := p0
    subst p0
    have p1 : v1 = _ := p1
    subst p1
    exact (show Dt.rd (α := api_Extent) H _ x from rfl)⟩
  cq := @fun l x h => by
    change ofc61 l = some x at h
    unfold ofc61 at h
    split at h
    · obtain ⟨v0, h0, h⟩ := bindS h
      obtain ⟨v1, h1, h⟩ := bindS h
      cases h
      exact ⟨_, _, rfl, xI_cq h0, _, _, rfl, xI_cq h1, rfl⟩
    · cases h
  eqc := fun d a b c1 c2 hd h1 h2 => by
    cases h1; cases h2
    exact sc61 a b
def ofc62 : List (SV DD) → Option (DD 62)
  | [a0] => (xS 61 a0).bind fun v0 => some v0
  | _ => none
def ce62 : CE DD := ⟨62, fun x => [.fsl 61 (x)], ofc62, none⟩
theorem ceOk62 : ce62.Ok where
  rdi := @fun H ρ cs x => ⟨fun h => by
    obtain ⟨A0, n0, c0, s0, h, h0⟩ := (show Dt.rd (α := List api_Extent) H cs x from h)
    subst h
    exact ⟨_, _, rfl, ⟨A0, n0, c0, s0, rfl, h0⟩, rfl⟩, fun h => by
    obtain ⟨v0, r0, e0, ⟨A0, n0, c0, s0, p0, h0⟩, e⟩ := h
    have e : r0 = [] := e
    subst e
    subst e0
    subst p0
    exact (show Dt.rd (α := List api_Extent) H _ x from ⟨A0, n0, c0, s0, rfl, h0⟩)⟩
  cq := @fun l x h => by
    change ofc62 l = some x at h
    unfold ofc62 at h
    split at h
    · obtain ⟨v0, h0, h⟩ := bindS h
      cases h
      exact ⟨_, _, rfl, xS_cq h0, rfl⟩
    · cases h
  eqc := fun d a b c1 c2 hd h1 h2 => by cases hd
def ofc50 : List (SV DD) → Option (DD 50)
  | [a0] => (xS 62 a0).bind fun v0 => some v0
  | _ => none
def ce50 : CE DD := ⟨50, fun x => [.fsl 62 (x)], ofc50, none⟩
theorem ceOk50 : ce50.Ok where
  rdi := @fun H ρ cs x => ⟨fun h => by
    obtain ⟨A0, n0, c0, s0, h, h0⟩ := (show Dt.rd (α := List (List api_Extent)) H cs x from h)
    subst h
    exact ⟨_, _, rfl, ⟨A0, n0, c0, s0, rfl, h0⟩, rfl⟩, fun h => by
    obtain ⟨v0, r0, e0, ⟨A0, n0, c0, s0, p0, h0⟩, e⟩ := h
    have e : r0 = [] := e
    subst e
    subst e0
    subst p0
    exact (show Dt.rd (α := List (List api_Extent)) H _ x from ⟨A0, n0, c0, s0, rfl, h0⟩)⟩
  cq := @fun l x h => by
    change ofc50 l = some x at h
    unfold ofc50 at h
    split at h
    · obtain ⟨v0, h0, h⟩ := bindS h
      cases h
      exact ⟨_, _, rfl, xS_cq h0, rfl⟩
    · cases h
  eqc := fun d a b c1 c2 hd h1 h2 => by cases hd
def ofc51 : List (SV DD) → Option (DD 51)
  | [a0] => (xI a0).bind fun v0 => some v0
  | _ => none
def ce51 : CE DD := ⟨51, fun x => [.i .i64 (x)], ofc51, none⟩
theorem ceOk51 : ce51.Ok where
  rdi := @fun H ρ cs x => ⟨fun h => by
    obtain h := (show Dt.rd (α := Int) H cs x from h)
    subst h
    exact ⟨_, _, rfl, rfl, rfl⟩, fun h => by
    obtain ⟨v0, r0, e0, p0, e⟩ := h
    have e : r0 = [] := e
    subst e
    subst e0
    have p0 : v0 = _ := p0
    subst p0
    exact (show Dt.rd (α := Int) H _ x from rfl)⟩
  cq := @fun l x h => by
    change ofc51 l = some x at h
    unfold ofc51 at h
    split at h
    · obtain ⟨v0, h0, h⟩ := bindS h
      cases h
      exact ⟨_, _, rfl, xI_cq h0, rfl⟩
    · cases h
  eqc := fun d a b c1 c2 hd h1 h2 => by cases hd
def ofc40 : List (SV DD) → Option (DD 40)
  | [a0] => (xS 35 a0).bind fun v0 => some v0
  | _ => none
def ce40 : CE DD := ⟨40, fun x => [.fsl 35 (x)], ofc40, none⟩
theorem ceOk40 : ce40.Ok where
  rdi := @fun H ρ cs x => ⟨fun h => by
    obtain ⟨A0, n0, c0, s0, h, h0⟩ := (show Dt.rd (α := List (List Sec)) H cs x from h)
    subst h
    exact ⟨_, _, rfl, ⟨A0, n0, c0, s0, rfl, h0⟩, rfl⟩, fun h => by
    obtain ⟨v0, r0, e0, ⟨A0, n0, c0, s0, p0, h0⟩, e⟩ := h
    have e : r0 = [] := e
    subst e
    subst e0
    subst p0
    exact (show Dt.rd (α := List (List Sec)) H _ x from ⟨A0, n0, c0, s0, rfl, h0⟩)⟩
  cq := @fun l x h => by
    change ofc40 l = some x at h
    unfold ofc40 at h
    split at h
    · obtain ⟨v0, h0, h⟩ := bindS h
      cases h
      exact ⟨_, _, rfl, xS_cq h0, rfl⟩
    · cases h
  eqc := fun d a b c1 c2 hd h1 h2 => by cases hd
def ofc56 : List (SV DD) → Option (DD 56)
  | [a0, a1, a2, a3, a4] => (xI a0).bind fun v0 => (xI a1).bind fun v1 => (xI a2).bind fun v2 => (xS 3 a3).bind fun v3 => (xS 37 a4).bind fun v4 => some ⟨v0, v1, v2, v3, v4⟩
  | _ => none
def ce56 : CE DD := ⟨56, fun x => [.i .i64 (x.Base), .i .i64 (x.Number), .i .i64 (x.Time), .fsl 3 (x.Positions), .fsl 37 (x.Writes)], ofc56, none⟩
theorem ceOk56 : ce56.Ok where
  rdi := @fun H ρ cs x => ⟨fun h => by
    obtain ⟨A0, n0, c0, s0, A1, n1, c1, s1, h, h0, h1⟩ := (show Dt.rd (α := api_Cycle) H cs x from h)
    subst h
    exact ⟨_, _, rfl, rfl, _, _, rfl, rfl, _, _, rfl, rfl, _, _, rfl, ⟨A0, n0, c0, s0, rfl, h0⟩, _, _, rfl, ⟨A1, n1, c1, s1, rfl, h1⟩, rfl⟩, fun h => by
    obtain ⟨v0, r0, e0, p0, v1, r1, e1, p1, v2, r2, e2, p2, v3, r3, e3, ⟨A0, n0, c0, s0, p3, h0⟩, v4, r4, e4, ⟨A1, n1, c1, s1, p4, h1⟩, e⟩ := h
    have e : r4 = [] := e
    subst e
    subst e4
    subst e3
    subst e2
    subst e1
    subst e0
    have p0 : v0 = _ := p0
    subst p0
    have p1 : v1 = _ := p1
    subst p1
    have p2 : v2 = _ := p2
    subst p2
    subst p3
    subst p4
    exact (show Dt.rd (α := api_Cycle) H _ x from ⟨A0, n0, c0, s0, A1, n1, c1, s1, rfl, h0, h1⟩)⟩
  cq := @fun l x h => by
    change ofc56 l = some x at h
    unfold ofc56 at h
    split at h
    · obtain ⟨v0, h0, h⟩ := bindS h
      obtain ⟨v1, h1, h⟩ := bindS h
      obtain ⟨v2, h2, h⟩ := bindS h
      obtain ⟨v3, h3, h⟩ := bindS h
      obtain ⟨v4, h4, h⟩ := bindS h
      cases h
      exact ⟨_, _, rfl, xI_cq h0, _, _, rfl, xI_cq h1, _, _, rfl, xI_cq h2, _, _, rfl, xS_cq h3, _, _, rfl, xS_cq h4, rfl⟩
    · cases h
  eqc := fun d a b c1 c2 hd h1 h2 => by cases hd
def ofc96 : List (SV DD) → Option (DD 96)
  | [a0, a1, a2, a3, a4] => (xS 3 a0).bind fun v0 => (xS 37 a1).bind fun v1 => (xS 71 a2).bind fun v2 => (xS 3 a3).bind fun v3 => (xS 3 a4).bind fun v4 => some ⟨⟨v0, v1, v2⟩, ⟨v3, v4⟩⟩
  | _ => none
def ce96 : CE DD := ⟨96, fun x => [.fsl 3 (x.History.Sizes), .fsl 37 (x.History.Writes), .fsl 71 (x.History.Events), .fsl 3 (x.timeline.issued), .fsl 3 (x.timeline.acked)], ofc96, none⟩
theorem ceOk96 : ce96.Ok where
  rdi := @fun H ρ cs x => ⟨fun h => by
    obtain ⟨A0, n0, c0, s0, A1, n1, c1, s1, A2, n2, c2, s2, A3, n3, c3, s3, A4, n4, c4, s4, h, h0, h1, h2, h3, h4⟩ := (show Dt.rd (α := history_checked) H cs x from h)
    subst h
    exact ⟨_, _, rfl, ⟨A0, n0, c0, s0, rfl, h0⟩, _, _, rfl, ⟨A1, n1, c1, s1, rfl, h1⟩, _, _, rfl, ⟨A2, n2, c2, s2, rfl, h2⟩, _, _, rfl, ⟨A3, n3, c3, s3, rfl, h3⟩, _, _, rfl, ⟨A4, n4, c4, s4, rfl, h4⟩, rfl⟩, fun h => by
    obtain ⟨v0, r0, e0, ⟨A0, n0, c0, s0, p0, h0⟩, v1, r1, e1, ⟨A1, n1, c1, s1, p1, h1⟩, v2, r2, e2, ⟨A2, n2, c2, s2, p2, h2⟩, v3, r3, e3, ⟨A3, n3, c3, s3, p3, h3⟩, v4, r4, e4, ⟨A4, n4, c4, s4, p4, h4⟩, e⟩ := h
    have e : r4 = [] := e
    subst e
    subst e4
    subst e3
    subst e2
    subst e1
    subst e0
    subst p0
    subst p1
    subst p2
    subst p3
    subst p4
    exact (show Dt.rd (α := history_checked) H _ x from ⟨A0, n0, c0, s0, A1, n1, c1, s1, A2, n2, c2, s2, A3, n3, c3, s3, A4, n4, c4, s4, rfl, h0, h1, h2, h3, h4⟩)⟩
  cq := @fun l x h => by
    change ofc96 l = some x at h
    unfold ofc96 at h
    split at h
    · obtain ⟨v0, h0, h⟩ := bindS h
      obtain ⟨v1, h1, h⟩ := bindS h
      obtain ⟨v2, h2, h⟩ := bindS h
      obtain ⟨v3, h3, h⟩ := bindS h
      obtain ⟨v4, h4, h⟩ := bindS h
      cases h
      exact ⟨_, _, rfl, xS_cq h0, _, _, rfl, xS_cq h1, _, _, rfl, xS_cq h2, _, _, rfl, xS_cq h3, _, _, rfl, xS_cq h4, rfl⟩
    · cases h
  eqc := fun d a b c1 c2 hd h1 h2 => by cases hd
def ofc24 : List (SV DD) → Option (DD 24)
  | [a0] => (xS 71 a0).bind fun v0 => some v0
  | _ => none
def ce24 : CE DD := ⟨24, fun x => [.fsl 71 (x)], ofc24, none⟩
theorem ceOk24 : ce24.Ok where
  rdi := @fun H ρ cs x => ⟨fun h => by
    obtain ⟨A0, n0, c0, s0, h, h0⟩ := (show Dt.rd (α := List api_HistoryEvent) H cs x from h)
    subst h
    exact ⟨_, _, rfl, ⟨A0, n0, c0, s0, rfl, h0⟩, rfl⟩, fun h => by
    obtain ⟨v0, r0, e0, ⟨A0, n0, c0, s0, p0, h0⟩, e⟩ := h
    have e : r0 = [] := e
    subst e
    subst e0
    subst p0
    exact (show Dt.rd (α := List api_HistoryEvent) H _ x from ⟨A0, n0, c0, s0, rfl, h0⟩)⟩
  cq := @fun l x h => by
    change ofc24 l = some x at h
    unfold ofc24 at h
    split at h
    · obtain ⟨v0, h0, h⟩ := bindS h
      cases h
      exact ⟨_, _, rfl, xS_cq h0, rfl⟩
    · cases h
  eqc := fun d a b c1 c2 hd h1 h2 => by cases hd
def ofc32 : List (SV DD) → Option (DD 32)
  | [a0] => (xS 4 a0).bind fun v0 => some v0
  | _ => none
def ce32 : CE DD := ⟨32, fun x => [.fsl 4 (x)], ofc32, none⟩
theorem ceOk32 : ce32.Ok where
  rdi := @fun H ρ cs x => ⟨fun h => by
    obtain ⟨A0, n0, c0, s0, h, h0⟩ := (show Dt.rd (α := List Bool) H cs x from h)
    subst h
    exact ⟨_, _, rfl, ⟨A0, n0, c0, s0, rfl, h0⟩, rfl⟩, fun h => by
    obtain ⟨v0, r0, e0, ⟨A0, n0, c0, s0, p0, h0⟩, e⟩ := h
    have e : r0 = [] := e
    subst e
    subst e0
    subst p0
    exact (show Dt.rd (α := List Bool) H _ x from ⟨A0, n0, c0, s0, rfl, h0⟩)⟩
  cq := @fun l x h => by
    change ofc32 l = some x at h
    unfold ofc32 at h
    split at h
    · obtain ⟨v0, h0, h⟩ := bindS h
      cases h
      exact ⟨_, _, rfl, xS_cq h0, rfl⟩
    · cases h
  eqc := fun d a b c1 c2 hd h1 h2 => by cases hd
def tab : Tb DD := [ce3, ce39, ce37, ce71, ce26, ce22, ce4, ce35, ce48, ce5, ce41, ce42, ce23, ce134, ce84, ce45, ce43, ce61, ce62, ce50, ce51, ce40, ce56, ce96, ce24, ce32]
theorem tabOk : TbOk tab := ⟨ceOk3, ceOk39, ceOk37, ceOk71, ceOk26, ceOk22, ceOk4, ceOk35, ceOk48, ceOk5, ceOk41, ceOk42, ceOk23, ceOk134, ceOk84, ceOk45, ceOk43, ceOk61, ceOk62, ceOk50, ceOk51, ceOk40, ceOk56, ceOk96, ceOk24, ceOk32, trivial⟩
theorem rd3 : ReadsD Tryd.prog 3 (Int) := ReadsD.int Tryd.underlying3 (by kernel_rfl)
theorem rd22 : ReadsD Tryd.prog 22 (List Int) := ReadsD.slice Tryd.underlying22 (by kernel_rfl) rd3 (by decide)
theorem rd39 : ReadsD Tryd.prog 39 (Sec) := ReadsD.sec Tryd.underlying39 Tryd.underlying5 (by kernel_rfl) (by kernel_rfl)
theorem rd35 : ReadsD Tryd.prog 35 (List Sec) := ReadsD.slice Tryd.underlying35 (by kernel_rfl) rd39 (by decide)
instance rg_api_Write : Rg api_Write := ⟨fun x => Rg.rg x.Volume ∧ Rg.rg x.Start ∧ Rg.rg x.Data⟩
theorem rd37 : ReadsD Tryd.prog 37 (api_Write) := (@Reads.struct Tryd.prog 37 _ (Int × Int × List Sec × Unit) (@datProd _ _ (datD (Int)) (@datProd _ _ (datD (Int)) (@datProd _ _ (datD (List Sec)) datUnit))) Tryd.underlying37 (by kernel_rfl) (@Fields.cons _ _ _ _ _ _ (datD (Int)) _ rfl rd3 (@Fields.cons _ _ _ _ _ _ (datD (Int)) _ rfl rd3 (@Fields.cons _ _ _ _ _ _ (datD (List Sec)) _ rfl rd35 (.nil _))))).map rfl fun {H cs a} h => by
  obtain ⟨a0, a1, a2, _⟩ := a
  obtain ⟨_, _, rfl, ⟨rfl, r0⟩, _, _, rfl, ⟨rfl, r1⟩, _, _, rfl, ⟨⟨A3, n3, c3, s3, rfl, hF3⟩, r2⟩, hz⟩ := h
  cases hz
  exact ⟨⟨a0, a1, a2⟩, ⟨A3, n3, c3, s3, rfl, hF3⟩, r0, r1, r2⟩
theorem rd23 : ReadsD Tryd.prog 23 (List api_Write) := ReadsD.slice Tryd.underlying23 (by kernel_rfl) rd37 (by decide)
instance rg_api_HistoryEvent : Rg api_HistoryEvent := ⟨fun x => Rg.rg x.Kind ∧ Rg.rg x.Write⟩
theorem rd71 : ReadsD Tryd.prog 71 (api_HistoryEvent) := (@Reads.struct Tryd.prog 71 _ (Int × Int × Unit) (@datProd _ _ (datD (Int)) (@datProd _ _ (datD (Int)) datUnit)) Tryd.underlying71 (by kernel_rfl) (@Fields.cons _ _ _ _ _ _ (datD (Int)) _ rfl rd3 (@Fields.cons _ _ _ _ _ _ (datD (Int)) _ rfl rd3 (.nil _)))).map rfl fun {H cs a} h => by
  obtain ⟨a0, a1, _⟩ := a
  obtain ⟨_, _, rfl, ⟨rfl, r0⟩, _, _, rfl, ⟨rfl, r1⟩, hz⟩ := h
  cases hz
  exact ⟨⟨a0, a1⟩, rfl, r0, r1⟩
theorem rd24 : ReadsD Tryd.prog 24 (List api_HistoryEvent) := ReadsD.slice Tryd.underlying24 (by kernel_rfl) rd71 (by decide)
instance rg_api_History : Rg api_History := ⟨fun x => Rg.rg x.Sizes ∧ Rg.rg x.Writes ∧ Rg.rg x.Events⟩
theorem rd26 : ReadsD Tryd.prog 26 (api_History) := (@Reads.struct Tryd.prog 26 _ (List Int × List api_Write × List api_HistoryEvent × Unit) (@datProd _ _ (datD (List Int)) (@datProd _ _ (datD (List api_Write)) (@datProd _ _ (datD (List api_HistoryEvent)) datUnit))) Tryd.underlying26 (by kernel_rfl) (@Fields.cons _ _ _ _ _ _ (datD (List Int)) _ rfl rd22 (@Fields.cons _ _ _ _ _ _ (datD (List api_Write)) _ rfl rd23 (@Fields.cons _ _ _ _ _ _ (datD (List api_HistoryEvent)) _ rfl rd24 (.nil _))))).map rfl fun {H cs a} h => by
  obtain ⟨a0, a1, a2, _⟩ := a
  obtain ⟨_, _, rfl, ⟨⟨A7, n7, c7, s7, rfl, hF7⟩, r0⟩, _, _, rfl, ⟨⟨A9, n9, c9, s9, rfl, hF9⟩, r1⟩, _, _, rfl, ⟨⟨A11, n11, c11, s11, rfl, hF11⟩, r2⟩, hz⟩ := h
  cases hz
  exact ⟨⟨a0, a1, a2⟩, ⟨A7, n7, c7, s7, A9, n9, c9, s9, A11, n11, c11, s11, rfl, hF7, hF9, hF11⟩, r0, r1, r2⟩
theorem rd4 : ReadsD Tryd.prog 4 (Bool) := ReadsD.bool Tryd.underlying4 (by kernel_rfl)
theorem rd32 : ReadsD Tryd.prog 32 (List Bool) := ReadsD.slice Tryd.underlying32 (by kernel_rfl) rd4 (by decide)
end Go.Proofs.YtjjodmgmidbamaaDoor
namespace Go.Proofs.YtjjodmgmidbamaaDoor
open Go.RowKit Go.ChangeShapes Go.WideShapes Go.ChangeAt
theorem Tryd.own : ownKnob Tryd.prog.godebug = none := by kernel_rfl
theorem Tryd.laidOut : laidOutB Tryd.prog = true := by kernel_rfl
theorem Tryd.doorMet (os : Os) (args : Array Value) : laidMetH Tryd.prog [("math/bits.deBruijn64tab", Rows.laid_math_bits_deBruijn64tab)] ((World.doorLaid Tryd.prog 14 os).forCall (fun _ _ => 0) ⟨#[], args, []⟩).memory :=
  laidMetH_of_parts3 (fuel := 8) (laidMet_of_run' 8 (by kernel_rfl) (by kernel_rfl)) (by kernel_rfl) (by kernel_rfl)
theorem tabHolds {W : World} (h : laidMetH Tryd.prog [("math/bits.deBruijn64tab", Rows.laid_math_bits_deBruijn64tab)] W) : TabH (HW W) 0 :=
  tab_of_laid (t := 150) (e := 5) (by kernel_rfl) (by kernel_rfl) Tryd.underlying150 Tryd.underlying5 (by kernel_rfl) (by kernel_rfl) rfl h
theorem lawRes (y : TupD DD [4]) (hy : y.1 = true) {H : Hp} {v : Value} {L : List Ent} (hr : ResR Tryd.prog tab [4] [[false]] y H v L) : ∃ z, z = true ∧ v = .bool z ∧ L = [] := by
  obtain ⟨ρ, _, _, _, _, h1, h2⟩ := hr 0 (fun _ => none) (fun _ _ => rfl) _ _ _ (show resE Tryd.prog tab _ _ y 0 = some (.b y.1, [], 0) by kernel_rfl)
  exact ⟨y.1, hy, h1, h2⟩
theorem pkw26 (v : Value) (cs : List Value) : PkR Tryd.prog 26 v cs = (v = .agg cs.toArray) := by kernel_rfl
theorem pkw32 (v : Value) (cs : List Value) : PkR Tryd.prog 32 v cs = (cs = [v]) := by kernel_rfl
end Go.Proofs.YtjjodmgmidbamaaDoor
