/- Part 3 of the proof of the statement CycleClosesSaid: lemmas. No condition of its own. -/
import Derived.Lib.TrailingZeros
import Derived.RecoverIn
import Derived.RangeFuncLeaves
import Derived.Test.YtbnfefbhalpceaaGreatM2
namespace Go.Proofs.YtbnfefbhalpceaaGreat
open Go.RowKit
section
section
variable {D : Nat → Type} [∀ t, Dt (D t)] {P : Program} {tb : Tb D} {σ : Nat → Value} {ty : TypeId} {w w0 : World} {H0 H : Hp} {ρ : RM} {R L F : List Ent} {st : St D} {fr : List (Nat × Blk D)}
def TupD (D : Nat → Type) : List Nat → Type
  | [] => Unit
  | t :: r => D t × TupD D r
def tupC (tb : Tb D) : (ts : List Nat) → TupD D ts → Option (List (List (SV D)))
  | [], _ => some []
  | t :: r, x => match toC tb t x.1, tupC tb r x.2 with
    | some l, some m => some (l :: m)
    | _, _ => none
def ofTup (tb : Tb D) : (ts : List Nat) → List (List (SV D)) → Option (TupD D ts)
  | [], [] => some ()
  | [], _ :: _ => none
  | _ :: _, [] => none
  | t :: r, l :: m => match ofC tb t l, ofTup tb r m with
    | some x, some y => some (x, y)
    | _, _ => none
def ArgsR (P : Program) (H : Hp) : (ts : List Nat) → TupD D ts → List Value → Prop
  | [], _, vs => vs = []
  | t :: r, x, vs => ∃ v cs q, vs = v :: q ∧ PkR P t v cs ∧ Dt.rd (α := D t) H cs x.1 ∧ ArgsR P H r x.2 q
def argsC (P : Program) : List Nat → List (SV D) → Option (List (List (SV D)))
  | [], [] => some []
  | t :: r, v :: q => match argC P t v, argsC P r q with
    | some l, some m => some (l :: m)
    | _, _ => none
  | _, _ => none
omit [∀ t, Dt (D t)] in
theorem ofTup2 {t : Nat} {r : List Nat} {l : List (SV D)} {m : List (List (SV D))} {x : TupD D (t :: r)} (h : ofTup tb (t :: r) (l :: m) = some x) : ofC tb t l = some x.1 ∧ ofTup tb r m = some x.2 := by
  rw [ofTup] at h
  cases ha : ofC tb t l with
  | none => simp only [ha] at h; cases h
  | some a =>
    cases hb : ofTup tb r m with
    | none => simp only [ha, hb] at h; cases h
    | some b =>
      simp only [ha, hb] at h
      have := Option.some.inj h
      subst this
      exact ⟨rfl, rfl⟩
theorem argsC_ok (htb : TbOk tb) : ∀ (ts : List Nat) {vs : List (SV D)} {xs : List Value} {ls : List (List (SV D))} {x : TupD D ts}, RvL H ρ xs vs → argsC P ts vs = some ls → ofTup tb ts ls = some x → ArgsR P H ts x xs := by
  intro ts
  induction ts with
  | nil =>
    intro vs xs ls x hv h ho
    cases vs with
    | nil => exact hv
    | cons _ _ => cases h
  | cons t r ih =>
    intro vs xs ls x hv h ho
    cases vs with
    | nil => cases h
    | cons v vs =>
      obtain ⟨y, q, e, h1, h2⟩ := hv
      rw [argsC] at h
      cases hl : argC P t v with
      | none => simp only [hl] at h; cases h
      | some l =>
        cases hm : argsC P r vs with
        | none => simp only [hl, hm] at h; cases h
        | some m =>
          simp only [hl, hm] at h
          have := Option.some.inj h
          subst this
          obtain ⟨cs, h3, h4⟩ := argC_ok h1 hl
          obtain ⟨g1, g2⟩ := ofTup2 ho
          exact ⟨y, cs, q, e, h3, ofC_ok htb g1 h4, ih h2 hm g2⟩
def ownC : List Bool → Nat → List (SV D) → Option (List (SV D) × List (Nat × Blk D) × Nat)
  | [], nx, [] => some ([], [], nx)
  | true :: bs, nx, .fsl e xs :: r => match ownC bs (nx + 1) r with
    | some (l, b, m) => some (.own nx :: l, (nx, .row e xs) :: b, m)
    | none => none
  | false :: bs, nx, v :: r => match ownC bs nx r with
    | some (l, b, m) => some (v :: l, b, m)
    | none => none
  | _, _, _ => none
def ownCC : List (List Bool) → Nat → List (List (SV D)) → Option (List (List (SV D)) × List (Nat × Blk D) × Nat)
  | [], nx, [] => some ([], [], nx)
  | o :: os, nx, l :: ls => match ownC o nx l with
    | some (l', b, m) => match ownCC os m ls with
      | some (ls', b', m') => some (l' :: ls', b ++ b', m')
      | none => none
    | none => none
  | _, _, _ => none
def packs (P : Program) : List Nat → List (List (SV D)) → Option (List (SV D))
  | [], [] => some []
  | t :: r, l :: q => match packT P t l, packs P r q with
    | some v, some m => some (v :: m)
    | _, _ => none
  | _, _ => none
def tupV : List (SV D) → SV D
  | [v] => v
  | l => .tup l
def resE (P : Program) (tb : Tb D) (rs : List Nat) (own : List (List Bool)) (y : TupD D rs) (nx : Nat) : Option (SV D × List (Nat × Blk D) × Nat) := match tupC tb rs y with
  | some ls => match ownCC own nx ls with
    | some (ls', b, m) => match packs P rs ls' with
      | some vs => some (tupV vs, b, m)
      | none => none
    | none => none
  | none => none
def ResR (P : Program) (tb : Tb D) (rs : List Nat) (own : List (List Bool)) (y : TupD D rs) (H : Hp) (v : Value) (L : List Ent) : Prop :=
  ∀ (nx : Nat) (ρ0 : RM), (∀ id, nx ≤ id → ρ0 id = none) → ∀ s b m, resE P tb rs own y nx = some (s, b, m) → ∃ ρ, RM.le ρ0 ρ ∧ nx ≤ m ∧ (∀ id, m ≤ id → ρ id = none) ∧ (∀ id, id < nx → ρ id = ρ0 id) ∧ Rv H ρ v s ∧ BkR H ρ b L
structure Ct (D : Nat → Type) where
  f : Nat
  ps : List Nat
  rs : List Nat
  own : List (List Bool)
  bw : Bool
  W : TupD D ps → (TupD D rs → Prop) → Prop
def GUp (G : Hp → Prop) : Prop := ∀ H H', G H → H.le H' → G H'
def Ct.Ok (P : Program) (tb : Tb D) (G : Hp → Prop) (c : Ct D) : Prop := ∀ (x : TupD D c.ps) (Φ : TupD D c.rs → Prop), c.W x Φ → ∀ (H : Hp) (vs : List Value), G H → ArgsR P H c.ps x vs → RetP P c.f vs.toArray H fun H' v L => ∃ y, Φ y ∧ ResR P tb c.rs c.own y H' v L
mutual
def scal : SV D → Bool
  | .i _ _ | .w _ | .y _ | .k _ | .b _ | .p _ _ | .c _ | .st _ => true
  | .agg l => scalL l
  | .tup l => scalL l
  | _ => false
def scalL : List (SV D) → Bool
  | [] => true
  | v :: r => scal v && scalL r
end
mutual
theorem scal_ok {H' : Hp} {ρ' : RM} : ∀ {s : SV D} {x : Value}, scal s = true → Rv H ρ x s → Rv H' ρ' x s
  | .i _ _, _, _, h => h
  | .w _, _, _, h => h
  | .y _, _, _, h => h
  | .k _, _, _, h => h
  | .b _, _, _, h => h
  | .p _ _, _, _, h => h
  | .c _, _, _, h => h
  | .agg l, _, hs, ⟨vs, h1, h2⟩ => ⟨vs, h1, scalL_ok (by simpa [scal] using hs) h2⟩
  | .tup l, _, hs, ⟨vs, h1, h2⟩ => ⟨vs, h1, scalL_ok (by simpa [scal] using hs) h2⟩
  | .nil, _, hs, _ => by cases hs
  | .ptr _ _, _, hs, _ => by cases hs
  | .fsl _ _, _, hs, _ => by cases hs
  | .own _, _, hs, _ => by cases hs
  | .fel _ _ _ _, _, hs, _ => by cases hs
  | .oel _ _ _ _, _, hs, _ => by cases hs
  | .fn _ _, _, hs, _ => by cases hs
  | .kp _, _, hs, _ => by cases hs
  | .vw _ _ _, _, hs, _ => by cases hs
  | .mp _, _, hs, _ => by cases hs
  | .hv _ _ _, _, hs, _ => by cases hs
  | .st _, _, _, h => h
  | .lel _ _ _, _, hs, _ => by cases hs
theorem scalL_ok {H' : Hp} {ρ' : RM} : ∀ {l : List (SV D)} {vs : List Value}, scalL l = true → RvL H ρ vs l → RvL H' ρ' vs l
  | [], _, _, h => h
  | s :: l, _, hs, ⟨v, r, h1, h2, h3⟩ => by
    have hs : scal s = true ∧ scalL l = true := by simpa [scalL, Bool.and_eq_true] using hs
    exact ⟨v, r, h1, scal_ok hs.1 h2, scalL_ok hs.2 h3⟩
end
def vals2 (st : St D) (fr : List (Nat × Blk D)) (xs : List Operand) : Option (List (SV D)) := mapO (fun x => (evO st.sl x).map fun v => rsD (st.lk fr) (resD st.kn v)) xs
def rsP (tb : Tb D) (st : St D) (fr : List (Nat × Blk D)) (v : SV D) : SV D := match v with
  | .ptr id 0 => match st.lk fr id with
    | some (.fbx T cs) => match ofC tb T (cs.map fun c => rsV (st.lk fr) (res st.kn c)) with
      | some x => .fel T [x] 0 0
      | none => .ptr id 0
    | _ => .ptr id 0
  | v => v
theorem fzBox {α : Type} [Dt α] {b T : Nat} {vs : List Value} {x : α} (hb : H b = some (.cells vs.toArray T (0, 0))) (hd : Dt.rd H vs x) : Fz H (some ⟨b, 0, none⟩) 1 1 [x] vs := by
  refine ⟨⟨?_, Nat.le_refl _, by decide, (fun h => by cases h), fun a ha _ => ?_⟩, DtL.single hd, rfl⟩
  · rw [Dt.len hd, Nat.one_mul]
  · obtain rfl := Option.some.inj ha
    exact ⟨rfl, _, _, _, hb, fun j u hj => by simpa using hj⟩
theorem rsP_ok {tb : Tb D} (htb : TbOk tb) (hs : Sat fr F w0 H0 R H ρ L st σ w) {x : Value} {v : SV D} (h : Rv H ρ x v) : Rv H ρ x (rsP tb st fr v) := by
  unfold rsP
  split
  · rename_i id
    split
    · rename_i T cs hl
      split
      · rename_i y hy
        obtain ⟨b, e1, e2⟩ := h
        obtain ⟨L1, S, L2, ⟨rfl, b', vs, f1, f2, f3⟩, hM⟩ := hs.read hl
        rw [e1] at f1; cases f1
        have f4 := rsL_ok hs (resL_ok hs.kn f3)
        rw [List.map_map] at f4
        have hd := ofC_ok htb hy f4
        exact ⟨some ⟨b, 0, none⟩, 1, 1, vs, by rw [e2]; simp [elp, Addr.add], fzBox f2 hd, ⟨Int.le_refl _, by simp⟩⟩
      · exact h
    · exact h
  · exact h
def argIds (st : St D) (fr : List (Nat × Blk D)) : List (SV D) → List Nat
  | [] => []
  | v :: r => (match v with
    | .ptr id _ => match st.lk fr id with
      | some (.box _ cs) => ownIdsL (cs.map (res st.kn)) ++ [id]
      | some (.fbx _ cs) => ownIdsL (cs.map (res st.kn))
      | _ => []
    | v => ownIds v) ++ argIds st fr r
def ctData (P : Program) (tb : Tb D) (c : Ct D) (st : St D) (fr : List (Nat × Blk D)) (xs : List Operand) : Option (TupD D c.ps) := match vals2 st fr xs with
  | some vs => match argsC P c.ps (vs.map (rsP tb st fr)) with
    | some ls => ofTup tb c.ps ls
    | none => none
  | none => none
abbrev cdP (b : Bool) (x y : Prop) : Prop := @Bool.rec (fun _ => Prop) y x b
def ctF (P : Program) (tb : Tb D) (c : Ct D) (st : St D) (fr : List (Nat × Blk D)) (xs : List Operand) (K : SV D → St D → Prop) : Prop := match vals2 st fr xs with
  | some vs => match ctData P tb c (st.frzL (argIds st fr vs)) fr xs with
    | some x => c.W x fun y => match resE P tb c.rs c.own y st.nx with
      | some (s, b, m) => match c.bw with
        | true => cdP (scal s) (K s st) False
        | false => K s ⟨st.sl, b ++ (st.frzL (argIds st fr vs)).bk, st.kn, m⟩
      | none => False
    | none => False
  | none => False
theorem cdP_false (x y : Prop) : cdP false x y = y := rfl
theorem cifP {b : Bool} {p : Prop} (h : cdP b p False) : b = true ∧ p := by
  cases b with
  | true => exact ⟨rfl, h⟩
  | false => exact h.elim
theorem ctData_ok (htb : TbOk tb) (hs : Sat fr F w0 H0 R H ρ L st σ w) {c : Ct D} {xs : List Operand} {x : TupD D c.ps} (h : ctData P tb c st fr xs = some x) : ArgsR P H c.ps x (xs.map (ev σ)) := by
  unfold ctData at h
  split at h
  · rename_i vs hv
    split at h
    · rename_i ls hl
      have hm : ∀ {l : List (SV D)} {us : List Value}, RvL H ρ us l → RvL H ρ us (l.map (rsP tb st fr)) := by
        intro l
        induction l with
        | nil => intro us h; exact h
        | cons v r ih => intro us ⟨x, q, e, h1, h2⟩; exact ⟨x, q, e, rsP_ok htb hs h1, ih h2⟩
      exact argsC_ok htb _ (hm (opVals_ok hs hv)) hl h
    · cases h
  · cases h
theorem ctF_ok (htb : TbOk tb) {G : Hp → Prop} (hG : GUp G) (h0 : G H0) (hs : Sat fr F w0 H0 R H ρ L st σ w) {c : Ct D} (hc : c.Ok P tb G) (he : Enters P c.f) {g : Operand} {xs : Array Operand} {tys : Array TypeId} (hg : ev σ g = .func (.func c.f) #[] #[]) {K : SV D → St D → Prop} (h : ctF P tb c st fr xs.toList K) :
    Dn P σ (.call { callee := .value g, args := xs, argTypes := tys }) ty w fun x w' => ∃ s st', K s st' ∧ st'.sl = st.sl ∧ st'.kn = st.kn ∧ OutN st.nx fr F w0 H0 R H ρ σ st' s x w' := by
  unfold ctF at h
  split at h
  · rename_i vs hv
    split at h
    · rename_i x hx
      obtain ⟨H1, L1, hle1, hs1⟩ := hs.frzL (argIds st fr vs)
      have hsl := frzL_sl (argIds st fr vs) st
      have hA := ctData_ok htb hs1 hx
      have hR := hc x _ h H1 _ (hG _ _ h0 hs1.mem.old) hA
      intro r md N ops l Q Dd d pos af gd hgd hd k
      refine RW.enter he hg (by simp) hgd hd ((hR w hs1.mem.agree).mono fun e w' ⟨v, H', L', h1, h2, h3⟩ => ⟨v, h1, (show ∃ H' L', Mem w H1 w' H' L' ∧ ∃ y, _ ∧ ResR P tb c.rs c.own y H' v L' from ⟨H', L', h2, h3⟩)⟩) fun v w' ⟨H', L', hM, y, hy, hr⟩ => k v w' ?_
      split at hy
      · rename_i s b m hre
        obtain ⟨ρ', hρ, hm, hn, hlo, hvs, hb⟩ := hr st.nx ρ hs.nx s b m hre
        split at hy
        · obtain ⟨hy1, hy⟩ := cifP hy
          exact ⟨s, st, hy, rfl, rfl, H, ρ, L, Hp.le.refl _, RM.le.refl _, fun _ _ => rfl, ⟨hs.mem.frame hM.below, hs.sl, hs.bk, hs.fr, hs.kn, hs.nx⟩, scal_ok hy1 hvs⟩
        · refine ⟨s, _, hy, rfl, rfl, H', ρ', L' ++ L1, hle1.trans hM.old, hρ, hlo, ⟨?_, hs.sl.mono (hle1.trans hM.old) hρ, hb.append (hs1.bk.mono hM.old hρ), hs.fr.mono (hle1.trans hM.old) hρ, hs.kn.mono (hle1.trans hM.old) hρ, hn⟩, hvs⟩
          rw [List.append_assoc]
          exact hs1.mem.comp hM
      · exact hy.elim
    · exact h.elim
  · exact h.elim
end
end
section
inductive VT where
  | int | word | byte | bool | str
  | lst (e : Nat)
  | mp (K V : Nat)
  | itr
inductive MT where
  | map (K V : Nat) (ka va : Bool)
  | itr (mid : Nat)
  | row (e : Nat)
inductive TV where
  | kp (n : Nat)
  | v (k : VT)
  | own (b : Nat)
  | agg (l : List TV)
  | fn (f : Nat) (l : List TV)
structure Tp where
  vts : List VT
  sl : List (Nat × TV)
  bx : List (Nat × Nat × List TV)
  rw : List Nat
  mp : List (Nat × MT) := []
section
variable {D : Nat → Type} [∀ t, Dt (D t)]
inductive Cv (D : Nat → Type) where
  | i (n : Int)
  | w (x : BitVec 64)
  | y (x : BitVec 8)
  | b (x : Bool)
  | st (x : ByteArray)
  | l (e : Nat) (xs : List (D e))
  | m (K V : Nat) (xs : List (D K × D V))
  | t (n : Nat) (seen : List Nat)
def castM0 {K' V' K V : Nat} (h1 : K' = K) (h2 : V' = V) (l : List (D K' × D V')) : List (D K × D V) := h1 ▸ h2 ▸ l
def castM (K' V' K V : Nat) (l : List (D K' × D V')) : Option (List (D K × D V)) := match Nat.decEq K' K, Nat.decEq V' V with
  | .isTrue h1, .isTrue h2 => some (castM0 h1 h2 l)
  | _, _ => none
def VT.ty (D : Nat → Type) : VT → Type
  | .int => Int
  | .word => BitVec 64
  | .byte => BitVec 8
  | .str => ByteArray
  | .bool => Bool
  | .lst e => List (D e)
  | .mp K V => List (D K × D V)
  | .itr => Nat × List Nat
def TupW (D : Nat → Type) : VT → List VT → Type
  | k, [] => k.ty D
  | k, j :: r => k.ty D × TupW D j r
def TupV (D : Nat → Type) : List VT → Type
  | [] => Unit
  | k :: r => TupW D k r
def cvO : (k : VT) → k.ty D → Cv D
  | .int, x => .i x
  | .word, x => .w x
  | .byte, x => .y x
  | .str, x => .st x
  | .bool, x => .b x
  | .lst e, x => .l e x
  | .mp K V, x => .m K V x
  | .itr, x => .t x.1 x.2
def cvW : (k : VT) → (ks : List VT) → TupW D k ks → List (Cv D)
  | k, [], x => [cvO k x]
  | k, j :: r, x => cvO k x.1 :: cvW j r x.2
def cvL : (ks : List VT) → TupV D ks → List (Cv D)
  | [], _ => []
  | k :: r, x => cvW k r x
def tyO : (k : VT) → Cv D → Option (k.ty D)
  | .int, .i x => some x
  | .word, .w x => some x
  | .byte, .y x => some x
  | .str, .st x => some x
  | .bool, .b x => some x
  | .lst e, .l e' x => castL e' e x
  | .mp K V, .m K' V' x => castM K' V' K V x
  | .itr, .t n s => some (n, s)
  | _, _ => none
def tyW : (k : VT) → (ks : List VT) → List (Cv D) → Option (TupW D k ks)
  | _, [], [] => none
  | k, [], [c] => tyO k c
  | _, [], _ :: _ :: _ => none
  | _, _ :: _, [] => none
  | k, j :: r, c :: q => match tyO k c, tyW j r q with
    | some x, some y => some (x, y)
    | _, _ => none
def tyL : (ks : List VT) → List (Cv D) → Option (TupV D ks)
  | [], [] => some ()
  | [], _ :: _ => none
  | k :: r, l => tyW k r l
omit [∀ t, Dt (D t)] in
theorem castM_ok {K' V' K V : Nat} {l : List (D K' × D V')} {x : List (D K × D V)} (h : castM K' V' K V l = some x) : ∃ (h1 : K' = K) (h2 : V' = V), x = castM0 h1 h2 l := by
  unfold castM at h
  split at h
  · rename_i h1 h2 _ _
    cases h
    exact ⟨h1, h2, rfl⟩
  · cases h
omit [∀ t, Dt (D t)] in
theorem tyO_ok : ∀ {k : VT} {c : Cv D} {x : k.ty D}, tyO k c = some x → cvO k x = c := by
  intro k c x h
  cases k with
  | lst e =>
    cases c with
    | l e' xs =>
      obtain ⟨he, h1⟩ := castL_ok (show castL e' e xs = some x from h)
      subst he
      rw [h1]
      rfl
    | _ => cases h
  | mp K V =>
    cases c with
    | m K' V' xs =>
      obtain ⟨h1, h2, h3⟩ := castM_ok (show castM K' V' K V xs = some x from h)
      subst h1
      subst h2
      rw [h3]
      rfl
    | _ => cases h
  | int => cases c with
    | i _ => cases h; rfl
    | _ => cases h
  | word => cases c with
    | w _ => cases h; rfl
    | _ => cases h
  | byte => cases c with
    | y _ => cases h; rfl
    | _ => cases h
  | str => cases c with
    | st _ => cases h; rfl
    | _ => cases h
  | bool => cases c with
    | b _ => cases h; rfl
    | _ => cases h
  | itr => cases c with
    | t _ _ => cases h; rfl
    | _ => cases h
omit [∀ t, Dt (D t)] in
theorem tyW_ok : ∀ {ks : List VT} {k : VT} {l : List (Cv D)} {x : TupW D k ks}, tyW k ks l = some x → cvW k ks x = l := by
  intro ks
  induction ks with
  | nil =>
    intro k l x h
    match l, h with
    | [], h => cases h
    | [c], h => exact congrArg (fun c => [c]) (tyO_ok (show tyO k c = some x from h))
    | _ :: _ :: _, h => cases h
  | cons j r ih =>
    intro k l x h
    cases l with
    | nil => cases h
    | cons c q =>
      rw [tyW] at h
      cases ha : tyO k c with
      | none => simp only [ha] at h; cases h
      | some a =>
        cases hb : tyW j r q with
        | none => simp only [ha, hb] at h; cases h
        | some b =>
          simp only [ha, hb] at h
          have := Option.some.inj h
          subst this
          show cvO k a :: cvW j r b = c :: q
          rw [tyO_ok ha, ih hb]
omit [∀ t, Dt (D t)] in
theorem tyL_ok {ks : List VT} {l : List (Cv D)} {x : TupV D ks} (h : tyL ks l = some x) : cvL ks x = l := by
  cases ks with
  | nil =>
    cases l with
    | nil => rfl
    | cons _ _ => cases h
  | cons k r => exact tyW_ok (show tyW k r l = some x from h)
mutual
def mkV (nx : Nat) : TV → List (Cv D) → Option (SV D × List (Cv D))
  | .kp n, cs => some (.kp n, cs)
  | .v .int, .i n :: r => some (.i .i64 n, r)
  | .v .word, .w x :: r => some (.w x, r)
  | .v .byte, .y x :: r => some (.y x, r)
  | .v .str, .st x :: r => some (.st x, r)
  | .v .bool, .b x :: r => some (.b x, r)
  | .v (.lst _), .l e xs :: r => some (.fsl e xs, r)
  | .v _, _ => none
  | .own b, cs => some (.own (nx + b), cs)
  | .agg l, cs => match mkVL nx l cs with
    | some (m, r) => some (.agg m, r)
    | none => none
  | .fn f l, cs => match mkVL nx l cs with
    | some (m, r) => some (.fn f m, r)
    | none => none
def mkVL (nx : Nat) : List TV → List (Cv D) → Option (List (SV D) × List (Cv D))
  | [], cs => some ([], cs)
  | t :: l, cs => match mkV nx t cs with
    | some (v, r) => match mkVL nx l r with
      | some (m, q) => some (v :: m, q)
      | none => none
    | none => none
end
def mkS (nx : Nat) : List (Nat × TV) → List (Cv D) → Option (List (Nat × SV D) × List (Cv D))
  | [], cs => some ([], cs)
  | (t, tv) :: l, cs => match mkV nx tv cs with
    | some (v, r) => match mkS nx l r with
      | some (m, q) => some ((t, v) :: m, q)
      | none => none
    | none => none
def mkB (nx : Nat) : List (Nat × Nat × List TV) → List (Cv D) → Option (List (Nat × Blk D) × List (Cv D))
  | [], cs => some ([], cs)
  | (id, T, tvs) :: l, cs => match mkVL nx tvs cs with
    | some (v, r) => match mkB nx l r with
      | some (m, q) => some ((id, .box T v) :: m, q)
      | none => none
    | none => none
def mkR : Nat → List Nat → List (Cv D) → Option (List (Nat × Blk D) × List (Cv D))
  | _, [], cs => some ([], cs)
  | n, c :: l, .l e xs :: cs => match mkR (n + 1) l cs with
    | some (m, q) => some ((n, bif Nat.blt c 100000 then .row e xs else .lrw e xs (c / 100000 - 1) (n + 1)) :: m, q)
    | none => none
  | _, _ :: _, _ => none
def mkM : List (Nat × MT) → List (Cv D) → Option (List (Nat × Blk D) × List (Cv D))
  | [], cs => some ([], cs)
  | (id, .map _ _ ka va) :: l, .m K V xs :: cs => match mkM l cs with
    | some (m, q) => some ((id, .map K V ka va xs) :: m, q)
    | none => none
  | (id, .itr mid) :: l, .t n s :: cs => match mkM l cs with
    | some (m, q) => some ((id, .itr mid n s) :: m, q)
    | none => none
  | (id, .row _) :: l, .l e xs :: cs => match mkM l cs with
    | some (m, q) => some ((id, .row e xs) :: m, q)
    | none => none
  | _ :: _, _ => none
def mkT (tp : Tp) (nx : Nat) (kn : List (Nat × SV D)) (cs : List (Cv D)) : Option (St D) := match mkS nx tp.sl cs with
  | some (sl, c1) => match mkB nx tp.bx c1 with
    | some (bx, c2) => match mkM tp.mp c2 with
      | some (mp, c3) => match mkR nx tp.rw c3 with
        | some (rw, _) => some ⟨sl, bx ++ (mp ++ rw), kn, nx + tp.rw.length⟩
        | none => none
      | none => none
    | none => none
  | none => none
abbrev Bd := List (Nat × Option Nat)
mutual
def insV (nx : Nat) (rv : SV D → SV D) : TV → SV D → Option (List (Cv D) × Bd)
  | .kp n, s => match s with
    | .kp m => bif Nat.beq n m && Nat.blt n nx then some ([], []) else none
    | _ => none
  | .v .int, s => match rv s with
    | .i .i64 n => some ([.i n], [])
    | _ => none
  | .v .word, s => match rv s with
    | .w x => some ([.w x], [])
    | _ => none
  | .v .byte, s => match rv s with
    | .y x => some ([.y x], [])
    | _ => none
  | .v .str, s => match rv s with
    | .st x => some ([.st x], [])
    | _ => none
  | .v .bool, s => match boolOf (rv s) with
    | some x => some ([.b x], [])
    | none => none
  | .v (.lst e), s => match rv s with
    | .fsl e' xs => bif Nat.beq e e' then some ([.l e' xs], []) else none
    | .nil => some ([.l e []], [])
    | _ => none
  | .v (.mp _ _), _ => none
  | .v .itr, _ => none
  | .own b, s => match rv s with
    | .own id => some ([], [(b, some id)])
    | .nil => some ([], [(b, none)])
    | _ => none
  | .agg l, s => match rv s with
    | .agg m => insVL nx rv l m
    | _ => none
  | .fn f l, s => match rv s with
    | .fn g m => bif Nat.beq f g then insVL nx rv l m else none
    | _ => none
def insVL (nx : Nat) (rv : SV D → SV D) : List TV → List (SV D) → Option (List (Cv D) × Bd)
  | [], [] => some ([], [])
  | t :: l, s :: m => match insV nx rv t s, insVL nx rv l m with
    | some (a, p), some (b, q) => some (a ++ b, p ++ q)
    | _, _ => none
  | _, _ => none
end
def BdR (ρ ρ' : RM) (nx : Nat) (bd : Bd) : Prop := ∀ b o, (b, o) ∈ bd → match o with
  | some id => ∃ A n c, ρ id = some (.r A n c) ∧ ρ' (nx + b) = some (.r A n c)
  | none => ρ' (nx + b) = some (.r none 0 0)
theorem BdR.left {ρ ρ' : RM} {nx : Nat} {p q : Bd} (h : BdR ρ ρ' nx (p ++ q)) : BdR ρ ρ' nx p := fun b o hm => h b o (List.mem_append_left _ hm)
theorem BdR.right {ρ ρ' : RM} {nx : Nat} {p q : Bd} (h : BdR ρ ρ' nx (p ++ q)) : BdR ρ ρ' nx q := fun b o hm => h b o (List.mem_append_right _ hm)
section
variable {H : Hp} {ρ ρ' : RM} {nx : Nat} {rv : SV D → SV D}
mutual
theorem insV_ok (hrv : ∀ x s, Rv H ρ x s → Rv H ρ x (rv s)) (hlo : ∀ n, n < nx → ρ' n = ρ n) : ∀ (tv : TV) {s : SV D} {x : Value} {cs : List (Cv D)} {bd : Bd}, Rv H ρ x s → insV nx rv tv s = some (cs, bd) → BdR ρ ρ' nx bd → ∀ r, ∃ s', mkV nx tv (cs ++ r) = some (s', r) ∧ Rv H ρ' x s'
  | .kp n, s, x, cs, bd, hx, h, hb, r => by
    unfold insV at h
    split at h
    · obtain ⟨hc, h⟩ := cif h
      cases h
      rw [Bool.and_eq_true] at hc
      have h1 := Nat.eq_of_beq_eq_true hc.1
      subst h1
      have h2 : n < nx := by simpa [Nat.blt_eq] using hc.2
      exact ⟨.kp n, by simp [mkV], (hlo n h2).trans hx⟩
    · cases h
  | .v .int, s, x, cs, bd, hx, h, hb, r => by
    have h1 := hrv _ _ hx
    unfold insV at h
    split at h
    · rename_i n hr; cases h; rw [hr] at h1; exact ⟨.i .i64 n, by simp [mkV], h1⟩
    · cases h
  | .v .word, s, x, cs, bd, hx, h, hb, r => by
    have h1 := hrv _ _ hx
    unfold insV at h
    split at h
    · rename_i n hr; cases h; rw [hr] at h1; exact ⟨.w n, by simp [mkV], h1⟩
    · cases h
  | .v .byte, s, x, cs, bd, hx, h, hb, r => by
    have h1 := hrv _ _ hx
    unfold insV at h
    split at h
    · rename_i n hr; cases h; rw [hr] at h1; exact ⟨.y n, by simp [mkV], h1⟩
    · cases h
  | .v .str, s, x, cs, bd, hx, h, hb, r => by
    have h1 := hrv _ _ hx
    unfold insV at h
    split at h
    · rename_i n hr; cases h; rw [hr] at h1; exact ⟨.st n, by simp [mkV], h1⟩
    · cases h
  | .v .bool, s, x, cs, bd, hx, h, hb, r => by
    have h1 := hrv _ _ hx
    unfold insV at h
    split at h
    · rename_i n hr; cases h; exact ⟨.b n, by simp [mkV], boolOf_ok hr h1⟩
    · cases h
  | .v (.lst e), s, x, cs, bd, hx, h, hb, r => by
    have h1 := hrv _ _ hx
    unfold insV at h
    split at h
    · rename_i e' xs hr
      obtain ⟨hc, h⟩ := cif h
      cases h
      rw [hr] at h1
      obtain ⟨A, n, c, z, g1, g2⟩ := h1
      exact ⟨.fsl e' xs, by simp [mkV], A, n, c, z, g1, g2⟩
    · rename_i hr
      cases h
      rw [hr] at h1
      exact ⟨.fsl e [], by simp [mkV], none, 0, 0, [], h1, Fz.nil⟩
    · cases h
  | .v (.mp _ _), s, x, cs, bd, hx, h, hb, r => by unfold insV at h; cases h
  | .v .itr, s, x, cs, bd, hx, h, hb, r => by unfold insV at h; cases h
  | .own b, s, x, cs, bd, hx, h, hb, r => by
    have h1 := hrv _ _ hx
    unfold insV at h
    split at h
    · rename_i id hr
      cases h
      rw [hr] at h1
      obtain ⟨A, n, c, g1, g2⟩ := h1
      obtain ⟨A', n', c', g3, g4⟩ := hb b (some id) (List.mem_singleton.2 rfl)
      rw [g1] at g3; cases g3
      exact ⟨.own (nx + b), by simp [mkV], A, n, c, g4, g2⟩
    · rename_i hr
      cases h
      rw [hr] at h1
      exact ⟨.own (nx + b), by simp [mkV], none, 0, 0, hb b none (List.mem_singleton.2 rfl), h1⟩
    · cases h
  | .agg l, s, x, cs, bd, hx, h, hb, r => by
    have h1 := hrv _ _ hx
    unfold insV at h
    split at h
    · rename_i m hr
      rw [hr] at h1
      obtain ⟨vs, g1, g2⟩ := h1
      obtain ⟨m', g3, g4⟩ := insVL_ok hrv hlo l g2 h hb r
      exact ⟨.agg m', by simp [mkV, g3], vs, g1, g4⟩
    · cases h
  | .fn f l, s, x, cs, bd, hx, h, hb, r => by
    have h1 := hrv _ _ hx
    unfold insV at h
    split at h
    · rename_i g m hr
      obtain ⟨hc, h2⟩ := cif h
      have hc := Nat.eq_of_beq_eq_true hc
      subst hc
      rw [hr] at h1
      obtain ⟨vs, g1, g2⟩ := h1
      obtain ⟨m', g3, g4⟩ := insVL_ok hrv hlo l g2 h2 hb r
      exact ⟨.fn f m', by simp [mkV, g3], vs, g1, g4⟩
    · cases h
theorem insVL_ok (hrv : ∀ x s, Rv H ρ x s → Rv H ρ x (rv s)) (hlo : ∀ n, n < nx → ρ' n = ρ n) : ∀ (l : List TV) {m : List (SV D)} {vs : List Value} {cs : List (Cv D)} {bd : Bd}, RvL H ρ vs m → insVL nx rv l m = some (cs, bd) → BdR ρ ρ' nx bd → ∀ r, ∃ m', mkVL nx l (cs ++ r) = some (m', r) ∧ RvL H ρ' vs m'
  | [], [], vs, cs, bd, hx, h, hb, r => by cases h; exact ⟨[], rfl, hx⟩
  | [], _ :: _, _, _, _, _, h, _, _ => by cases h
  | _ :: _, [], _, _, _, _, h, _, _ => by cases h
  | t :: l, s :: m, vs, cs, bd, ⟨v, q, e, h1, h2⟩, h, hb, r => by
    unfold insVL at h
    split at h
    · rename_i a p b q' ha hb'
      cases h
      obtain ⟨s', g1, g2⟩ := insV_ok hrv hlo t h1 ha hb.left (b ++ r)
      obtain ⟨m', g3, g4⟩ := insVL_ok hrv hlo l h2 hb' hb.right r
      refine ⟨s' :: m', ?_, v, q, e, g2, g4⟩
      rw [List.append_assoc]
      simp [mkVL, g1, g3]
    · cases h
end
end
end
end
section
section
variable {D : Nat → Type} [∀ t, Dt (D t)]
def remB (l : List (Nat × Blk D)) (id : Nat) : Option (Blk D × List (Nat × Blk D)) := match l with
  | [] => none
  | (s, v) :: r => bif Nat.beq id s then some (v, r) else match remB r id with
    | some (b, q) => some (b, (s, v) :: q)
    | none => none
theorem BkR.rem {H : Hp} {ρ : RM} {id : Nat} {b : Blk D} : ∀ {bk bk' : List (Nat × Blk D)} {L : List Ent}, BkR H ρ bk L → remB bk id = some (b, bk') → ∃ S L', L.Perm (S ++ L') ∧ BlR H ρ id b S ∧ BkR H ρ bk' L'
  | [], _, _, _, h => by cases h
  | (s, v) :: r, bk', L, ⟨S, L', h1, h2, h3⟩, h => by
    unfold remB at h
    cases hb : Nat.beq id s with
    | true =>
      rw [hb] at h
      cases h
      obtain rfl := Nat.eq_of_beq_eq_true hb
      exact ⟨S, L', by rw [h1], h2, h3⟩
    | false =>
      rw [hb] at h
      simp only [cond_false] at h
      split at h
      · rename_i b' q hq
        cases h
        obtain ⟨T, M, g1, g2, g3⟩ := BkR.rem h3 hq
        refine ⟨T, S ++ M, ?_, g2, S, M, rfl, h2, g3⟩
        rw [h1]
        refine (List.Perm.append_left S g1).trans ?_
        rw [← List.append_assoc, ← List.append_assoc]
        exact List.Perm.append_right M List.perm_append_comm
      · cases h
def insS (nx : Nat) (rv : SV D → SV D) (sl : List (Nat × SV D)) : List (Nat × TV) → Option (List (Cv D) × Bd)
  | [] => some ([], [])
  | (t, tv) :: l => match getS sl t with
    | some s => match insV nx rv tv s, insS nx rv sl l with
      | some (a, p), some (b, q) => some (a ++ b, p ++ q)
      | _, _ => none
    | none => none
def insB (nx : Nat) (rv : SV D → SV D) : List (Nat × Nat × List TV) → List (Nat × Blk D) → Option (List (Cv D) × Bd × List (Nat × Blk D))
  | [], bk => some ([], [], bk)
  | (id, T, tvs) :: l, bk => match remB bk id with
    | some (.box T' cs, bk1) => bif Nat.beq T T' && Nat.blt id nx then (match insVL nx rv tvs cs, insB nx rv l bk1 with
      | some (a, p), some (b, q, bk2) => some (a ++ b, p ++ q, bk2)
      | _, _ => none) else none
    | _ => none
def insM (nx : Nat) : List (Nat × MT) → List (Nat × Blk D) → Option (List (Cv D) × List (Nat × Blk D))
  | [], bk => some ([], bk)
  | (id, .map K V ka va) :: l, bk => match remB bk id with
    | some (.map K' V' ka' va' xs, bk1) => bif Nat.beq K K' && (Nat.beq V V' && (eqB ka ka' && (eqB va va' && Nat.blt id nx))) then (match insM nx l bk1 with
      | some (cs, bk2) => some (.m K' V' xs :: cs, bk2)
      | none => none) else none
    | _ => none
  | (id, .itr mid) :: l, bk => match remB bk id with
    | some (.itr mid' n s, bk1) => bif Nat.beq mid mid' && (Nat.blt id nx && Nat.blt mid nx) then (match insM nx l bk1 with
      | some (cs, bk2) => some (.t n s :: cs, bk2)
      | none => none) else none
    | _ => none
  | (id, .row e) :: l, bk => match remB bk id with
    | some (.row e' xs, bk1) => bif Nat.beq e e' && Nat.blt id nx then (match insM nx l bk1 with
      | some (cs, bk2) => some (.l e' xs :: cs, bk2)
      | none => none) else none
    | _ => none
def eqOO : Option Nat → Option Nat → Bool
  | some a, some b => Nat.beq a b
  | none, none => true
  | _, _ => false
theorem eqOO_ok {a b : Option Nat} (h : eqOO a b = true) : a = b := by
  cases a <;> cases b <;> first | rfl | cases h | exact congrArg some (Nat.eq_of_beq_eq_true h)
def bdGet : Bd → Nat → Option (Option Nat)
  | [], _ => none
  | (k, o) :: r, b => bif Nat.beq k b then some o else bdGet r b
def bdAll (bd : Bd) (b : Nat) (o : Option Nat) : Bool := bd.all fun p => !(Nat.beq p.1 b) || eqOO p.2 o
theorem bdAll_ok {bd : Bd} {b : Nat} {o o' : Option Nat} (h : bdAll bd b o = true) (hm : (b, o') ∈ bd) : o' = o := by
  have := List.all_eq_true.1 h _ hm
  simp only [Nat.beq_refl, Bool.not_true, Bool.false_or] at this
  exact eqOO_ok this
def insR : Bd → Nat → List Nat → List (Nat × Blk D) → Option (List (Cv D))
  | _, _, [], _ => some []
  | bd, b, e :: l, bk => match bdGet bd b with
    | some (some id) => bif bdAll bd b (some id) then (match remB bk id with
      | some (.row e' xs, bk1) => bif Nat.beq e e' && Nat.blt e 100000 then (match insR bd (b + 1) l bk1 with
        | some cs => some (.l e' xs :: cs)
        | none => none) else none
      | some (.lrw e' xs f k, bk1) => bif Nat.beq (e % 100000) e' && (Nat.beq (e / 100000 - 1) f && (!(Nat.blt e 100000) && !(l.isEmpty))) then (match insR ((b + 1, some k) :: bd) (b + 1) l bk1 with
        | some cs => some (.l e' xs :: cs)
        | none => none) else none
      | _ => none) else none
    | some none => bif bdAll bd b none then (bif Nat.blt e 100000 then (match insR bd (b + 1) l bk with
      | some cs => some (.l e [] :: cs)
      | none => none) else bif !(l.isEmpty) && Nat.blt (e / 100000 - 1) (Dt.sz (D (e % 100000))) then (match insR ((b + 1, none) :: bd) (b + 1) l bk with
      | some cs => some (.l (e % 100000) [] :: cs)
      | none => none) else none) else none
    | none => none
def insT (tp : Tp) (nx : Nat) (st : St D) (fr : List (Nat × Blk D)) : Option (List (Cv D)) := match insS nx (fun v => rsV (st.lk fr) (res st.kn v)) st.sl tp.sl with
  | some (c1, b1) => match insB nx (fun v => rsV (st.lk fr) (res st.kn v)) tp.bx st.bk with
    | some (c2, b2, bk) => match insM nx tp.mp bk with
      | some (cm, bk) => bif (b1 ++ b2).all fun p => Nat.blt p.1 tp.rw.length then (match insR (b1 ++ b2) 0 tp.rw bk with
        | some c3 => some (c1 ++ (c2 ++ (cm ++ c3)))
        | none => none) else none
      | none => none
    | none => none
  | none => none
section
variable {H : Hp} {ρ ρ' : RM} {nx : Nat} {rv : SV D → SV D}
theorem insS_ok (hrv : ∀ x s, Rv H ρ x s → Rv H ρ x (rv s)) (hlo : ∀ n, n < nx → ρ' n = ρ n) {sl : List (Nat × SV D)} {σ : Nat → Value} (hs : SlR H ρ sl σ) : ∀ {l : List (Nat × TV)} {cs : List (Cv D)} {bd : Bd}, insS nx rv sl l = some (cs, bd) → BdR ρ ρ' nx bd → ∀ r, ∃ m, mkS nx l (cs ++ r) = some (m, r) ∧ SlR H ρ' m σ
  | [], cs, bd, h, hb, r => by cases h; exact ⟨[], rfl, fun t v hv => by cases hv⟩
  | (t, tv) :: l, cs, bd, h, hb, r => by
    unfold insS at h
    split at h
    · rename_i s hg
      split at h
      · rename_i a p b q ha hb'
        cases h
        obtain ⟨s', g1, g2⟩ := insV_ok hrv hlo tv (hs t s hg) ha hb.left (b ++ r)
        obtain ⟨m, g3, g4⟩ := insS_ok hrv hlo hs hb' hb.right r
        refine ⟨(t, s') :: m, by rw [List.append_assoc]; simp [mkS, g1, g3], fun u v hv => ?_⟩
        unfold getS at hv
        cases hut : Nat.beq u t with
        | true =>
          rw [hut] at hv
          obtain rfl := Nat.eq_of_beq_eq_true hut
          cases hv
          exact g2
        | false => rw [hut] at hv; exact g4 u v hv
      · cases h
    · cases h
theorem insB_ok (hrv : ∀ x s, Rv H ρ x s → Rv H ρ x (rv s)) : ∀ {l : List (Nat × Nat × List TV)} {bk bk' : List (Nat × Blk D)} {L : List Ent} {cs : List (Cv D)} {bd : Bd}, BkR H ρ bk L → insB nx rv l bk = some (cs, bd, bk') →
    ∃ S L', L.Perm (S ++ L') ∧ BkR H ρ bk' L' ∧ ∀ ρ', (∀ n, n < nx → ρ' n = ρ n) → BdR ρ ρ' nx bd → ∀ r, ∃ m, mkB nx l (cs ++ r) = some (m, r) ∧ BkR H ρ' m S
  | [], bk, bk', L, cs, bd, hk, h => by
    cases h
    exact ⟨[], L, List.Perm.refl _, hk, fun ρ' _ _ r => ⟨[], rfl, rfl⟩⟩
  | (id, T, tvs) :: l, bk, bk', L, cs, bd, hk, h => by
    unfold insB at h
    split at h
    · rename_i T' ds bk1 hr
      have hh := cif h
      clear h
      obtain ⟨hc, h⟩ := hh
      rw [Bool.and_eq_true] at hc
      have hT := Nat.eq_of_beq_eq_true hc.1
      have hid : id < nx := by simpa [Nat.blt_eq] using hc.2
      subst hT
      split at h
      · rename_i a p b q bk2 ha hb
        cases h
        obtain ⟨S, L', g1, ⟨bl, vs, g2, rfl, g3⟩, g4⟩ := hk.rem hr
        obtain ⟨S2, L2, g5, g6, g7⟩ := insB_ok hrv g4 hb
        refine ⟨[.box bl T vs] ++ S2, L2, ?_, g6, fun ρ' hlo hbd r => ?_⟩
        · rw [List.append_assoc]
          exact g1.trans (List.Perm.append_left _ g5)
        · obtain ⟨m, e1, e2⟩ := insVL_ok hrv hlo tvs g3 ha hbd.left (b ++ r)
          obtain ⟨m2, e3, e4⟩ := g7 ρ' hlo hbd.right r
          exact ⟨(id, .box T m) :: m2, by rw [List.append_assoc]; simp [mkB, e1, e3], _, _, rfl, ⟨bl, vs, (hlo id hid).trans g2, rfl, e2⟩, e4⟩
      · cases h
    · cases h
theorem insM_ok : ∀ {l : List (Nat × MT)} {bk bk' : List (Nat × Blk D)} {L : List Ent} {cs : List (Cv D)}, BkR H ρ bk L → insM nx l bk = some (cs, bk') →
    ∃ S L', L.Perm (S ++ L') ∧ BkR H ρ bk' L' ∧ ∀ ρ', (∀ n, n < nx → ρ' n = ρ n) → ∀ r, ∃ m, mkM l (cs ++ r) = some (m, r) ∧ BkR H ρ' m S
  | [], bk, bk', L, cs, hk, h => by
    cases h
    exact ⟨[], L, List.Perm.refl _, hk, fun ρ' _ r => ⟨[], rfl, rfl⟩⟩
  | (id, .map K V ka va) :: l, bk, bk', L, cs, hk, h => by
    unfold insM at h
    split at h
    · rename_i K' V' ka' va' xs bk1 hr
      have hh := cif h
      clear h
      obtain ⟨hc, h⟩ := hh
      simp only [Bool.and_eq_true] at hc
      obtain ⟨h1, h2, h3, h4, h5⟩ := hc
      obtain rfl := Nat.eq_of_beq_eq_true h1
      obtain rfl := Nat.eq_of_beq_eq_true h2
      obtain rfl := eqB_ok h3
      obtain rfl := eqB_ok h4
      have hid : id < nx := by simpa [Nat.blt_eq] using h5
      split at h
      · rename_i cs1 bk2 hm
        cases h
        obtain ⟨S, L', g1, ⟨b, es, g2, rfl, g3⟩, g4⟩ := hk.rem hr
        obtain ⟨S2, L2, g5, g6, g7⟩ := insM_ok g4 hm
        refine ⟨[.obj b (.map es.toArray es.length)] ++ S2, L2, ?_, g6, fun ρ' hlo r => ?_⟩
        · rw [List.append_assoc]
          exact g1.trans (List.Perm.append_left _ g5)
        · obtain ⟨m2, e3, e4⟩ := g7 ρ' hlo r
          exact ⟨(id, .map K V ka va xs) :: m2, by simp [mkM, e3], _, _, rfl, ⟨b, es, (hlo id hid).trans g2, rfl, g3⟩, e4⟩
      · cases h
    · cases h
  | (id, .itr mid) :: l, bk, bk', L, cs, hk, h => by
    unfold insM at h
    split at h
    · rename_i mid' n s bk1 hr
      have hh := cif h
      clear h
      obtain ⟨hc, h⟩ := hh
      simp only [Bool.and_eq_true] at hc
      obtain ⟨h1, h2, h3⟩ := hc
      obtain rfl := Nat.eq_of_beq_eq_true h1
      have hid : id < nx := by simpa [Nat.blt_eq] using h2
      have hmid : mid < nx := by simpa [Nat.blt_eq] using h3
      split at h
      · rename_i cs1 bk2 hm
        cases h
        obtain ⟨S, L', g1, ⟨b, c, g2, g3, rfl⟩, g4⟩ := hk.rem hr
        obtain ⟨S2, L2, g5, g6, g7⟩ := insM_ok g4 hm
        refine ⟨[.obj b (itrO c n s)] ++ S2, L2, ?_, g6, fun ρ' hlo r => ?_⟩
        · rw [List.append_assoc]
          exact g1.trans (List.Perm.append_left _ g5)
        · obtain ⟨m2, e3, e4⟩ := g7 ρ' hlo r
          exact ⟨(id, .itr mid n s) :: m2, by simp [mkM, e3], _, _, rfl, ⟨b, c, (hlo id hid).trans g2, (hlo mid hmid).trans g3, rfl⟩, e4⟩
      · cases h
    · cases h
  | (id, .row e) :: l, bk, bk', L, cs, hk, h => by
    unfold insM at h
    split at h
    · rename_i e' xs bk1 hr
      have hh := cif h
      clear h
      obtain ⟨hc, h⟩ := hh
      simp only [Bool.and_eq_true] at hc
      obtain ⟨h1, h2⟩ := hc
      obtain rfl := Nat.eq_of_beq_eq_true h1
      have hid : id < nx := by simpa [Nat.blt_eq] using h2
      split at h
      · rename_i cs1 bk2 hm
        cases h
        obtain ⟨S, L', g1, ⟨A, n, c, z, g2, g3, g4', g5'⟩, g4⟩ := hk.rem hr
        obtain ⟨S2, L2, g5, g6, g7⟩ := insM_ok g4 hm
        refine ⟨S ++ S2, L2, ?_, g6, fun ρ' hlo r => ?_⟩
        · rw [List.append_assoc]
          exact g1.trans (List.Perm.append_left _ g5)
        · obtain ⟨m2, e3, e4⟩ := g7 ρ' hlo r
          exact ⟨(id, .row e xs) :: m2, by simp [mkM, e3], _, _, rfl, ⟨A, n, c, z, (hlo id hid).trans g2, g3, g4', g5'⟩, e4⟩
      · cases h
    · cases h
theorem blt_lt0 {a b : Nat} (h : Nat.blt a b = true) : a < b := by simpa [Nat.blt_eq] using h
def InsRs (w0 w : World) (H0 H : Hp) (ρ : RM) (nx : Nat) (bd : Bd) (l : List Nat) (b : Nat) (X : List Ent) (cs : List (Cv D)) (ρ1 : RM) : Prop :=
  ∃ ρ2 S, (∀ id, id < nx + b → ρ2 id = ρ1 id) ∧ (∀ id, nx + b + l.length ≤ id → ρ2 id = none) ∧ Mem w0 H0 w H (S ++ X) ∧ (∀ r, ∃ m, mkR (nx + b) l (cs ++ r) = some (m, r) ∧ BkR H ρ2 m S) ∧ ∀ k o, b ≤ k → k < b + l.length → (k, o) ∈ bd → match o with
    | some id => ∃ A n c, ρ id = some (.r A n c) ∧ ρ2 (nx + k) = some (.r A n c)
    | none => ρ2 (nx + k) = some (.r none 0 0)
theorem insR_ok {w0 w : World} {H0 : Hp} : ∀ {l : List Nat} {bd : Bd} {b : Nat} {bk : List (Nat × Blk D)} {L X : List Ent} {cs : List (Cv D)} {ρ1 : RM}, Mem w0 H0 w H (L ++ X) → BkR H ρ bk L → insR bd b l bk = some cs → (∀ id, nx + b ≤ id → ρ1 id = none) →
    InsRs w0 w H0 H ρ nx bd l b X cs ρ1
  | [], bd, b, bk, L, X, cs, ρ1, hM, hk, h, hn => by
    cases h
    exact ⟨ρ1, [], fun _ _ => rfl, by simpa using hn, hM.sub (List.sublist_append_right L X), fun r => ⟨[], rfl, rfl⟩, fun k o h1 h2 => by simp at h2; omega⟩
  | e :: l, bd, b, bk, L, X, cs, ρ1, hM, hk, h, hn => by
    have step : ∀ {bd' : Bd} {blk : Blk D} {bk1 : List (Nat × Blk D)} {L1 : List Ent} {A : Option Addr} {n c e1 : Nat} {z : List Value} {xs : List (D e1)} {cs1 : List (Cv D)} {o : Option Nat}, Mem w0 H0 w H (.row (.slice A n c) e1 (Dt.sz (D e1)) n z :: (L1 ++ X)) → BkR H ρ bk1 L1 → insR bd' (b + 1) l bk1 = some cs1 → (∀ p, p ∈ bd → p ∈ bd') →
        (∀ ρ2 : RM, ρ2 (nx + b) = some (.r A n c) → (∀ k o, b + 1 ≤ k → k < b + 1 + l.length → (k, o) ∈ bd' → match o with
          | some id => ∃ A n c, ρ id = some (.r A n c) ∧ ρ2 (nx + k) = some (.r A n c)
          | none => ρ2 (nx + k) = some (.r none 0 0)) → BlR H ρ2 (nx + b) blk [.row (.slice A n c) e1 (Dt.sz (D e1)) n z]) → blk = (bif Nat.blt e 100000 then .row e1 xs else .lrw e1 xs (e / 100000 - 1) (nx + b + 1)) → cs = .l e1 xs :: cs1 → bdAll bd b o = true → (match o with
        | some id => ∃ A' n' c', ρ id = some (.r A' n' c') ∧ some (RB.r A n c) = some (.r A' n' c')
        | none => some (RB.r A n c) = some (.r none 0 0)) → InsRs w0 w H0 H ρ nx bd (e :: l) b X cs ρ1 := by
      intro bd' blk bk1 L1 A n c e1 z xs cs1 o hM1 hk1 h1 hsub hB hblk hcs hall ho
      have hM2 : Mem w0 H0 w H (L1 ++ ([.row (.slice A n c) e1 (Dt.sz (D e1)) n z] ++ X)) := hM1.perm (by
        rw [← List.append_assoc]
        exact (List.perm_append_comm (l₁ := [Ent.row (.slice A n c) e1 (Dt.sz (D e1)) n z]) (l₂ := L1)).append_right X |>.trans (List.Perm.refl _))
      obtain ⟨ρ2, S, a1, a2, a3, a4, a5⟩ := insR_ok (ρ1 := ρ1.put (nx + b) (.r A n c)) hM2 hk1 h1 (fun id hid => by rw [RM.put_ne _ _ (by omega)]; exact hn id (by omega))
      have e0 : ρ2 (nx + b) = some (.r A n c) := by rw [a1 _ (by omega), RM.put_same]
      refine ⟨ρ2, .row (.slice A n c) e1 (Dt.sz (D e1)) n z :: S, fun id hid => ?_, fun id hid => a2 id (by simp at hid; omega), a3.perm ?_, fun r => ?_, fun k o' h3 h4 h5 => ?_⟩
      · rw [a1 _ (by omega), RM.put_ne _ _ (by omega)]
      · show (S ++ ([Ent.row (.slice A n c) e1 (Dt.sz (D e1)) n z] ++ X)).Perm ([Ent.row (.slice A n c) e1 (Dt.sz (D e1)) n z] ++ S ++ X)
        rw [← List.append_assoc]
        exact List.perm_append_comm.append_right X
      · obtain ⟨m, b1, b2⟩ := a4 r
        refine ⟨(nx + b, blk) :: m, ?_, _, _, rfl, hB ρ2 e0 a5, b2⟩
        rw [hcs]
        have b1 : mkR (nx + b + 1) l (cs1 ++ r) = some (m, r) := b1
        rw [hblk]
        simp [mkR, b1]
      · by_cases hkb : k = b
        · subst hkb
          have := bdAll_ok hall h5
          subst this
          rw [e0]
          exact ho
        · exact a5 k o' (by omega) (by simp at h4; omega) (hsub _ h5)
    have ext : ∀ {q : Nat × Option Nat} (p : Nat × Option Nat), p ∈ bd → p ∈ q :: bd := fun p hp => List.mem_cons_of_mem _ hp
    have pos : l.isEmpty = false → b + 1 < b + 1 + l.length := fun h => by
      cases l with
      | nil => cases h
      | cons _ _ => simp
    unfold insR at h
    split at h
    · rename_i id hg
      have hh := cif h
      clear h
      obtain ⟨hall, h⟩ := hh
      split at h
      · rename_i e' xs bk1 hr
        have hh := cif h
        clear h
        obtain ⟨hee, h⟩ := hh
        rw [Bool.and_eq_true] at hee
        obtain ⟨hee, hlt⟩ := hee
        have hee := Nat.eq_of_beq_eq_true hee
        subst hee
        split at h
        · rename_i cs1 hcs1
          obtain rfl := Option.some.inj h
          obtain ⟨S, L', g1, ⟨A, n, c, z, g2, rfl, g3, g4⟩, g5⟩ := hk.rem hr
          refine step (blk := .row e xs) (z := z) (xs := xs) (hM.perm ?_) g5 hcs1 (fun _ hp => hp) (fun ρ2 e0 _ => ⟨A, n, c, z, e0, rfl, g3, g4⟩) (by rw [hlt]; rfl) rfl hall ⟨A, n, c, g2, rfl⟩
          exact g1.append_right X
        · cases h
      · rename_i e' xs f k bk1 hr
        have hh := cif h
        clear h
        obtain ⟨hee, h⟩ := hh
        simp only [Bool.and_eq_true, Bool.not_eq_true'] at hee
        obtain ⟨he1, he2, he3, he4⟩ := hee
        have he1 := Nat.eq_of_beq_eq_true he1
        have he2 := Nat.eq_of_beq_eq_true he2
        subst he1
        subst he2
        split at h
        · rename_i cs1 hcs1
          obtain rfl := Option.some.inj h
          obtain ⟨S, L', g1, ⟨A, n, c, z, z', A', n', c', g2, g3, rfl, g4⟩, g5⟩ := hk.rem hr
          refine step (blk := .lrw (e % 100000) xs (e / 100000 - 1) (nx + b + 1)) (z := z) (xs := xs) (hM.perm ?_) g5 hcs1 ext (fun ρ2 e0 hq => ?_) (by rw [he3]; rfl) rfl hall ⟨A, n, c, g2, rfl⟩
          · exact g1.append_right X
          · obtain ⟨A2, n2, c2, q1, q2⟩ := hq (b + 1) (some k) (Nat.le_refl _) (pos he4) (List.mem_cons_self ..)
            rw [g3] at q1; cases q1
            exact ⟨A, n, c, z, z', A', n', c', e0, q2, rfl, g4⟩
        · cases h
      · cases h
    · rename_i hg
      have hh := cif h
      clear h
      obtain ⟨hall, h⟩ := hh
      cases he : Nat.blt e 100000 with
      | true =>
        rw [he, cond_true] at h
        split at h
        · rename_i cs1 hcs1
          obtain rfl := Option.some.inj h
          exact step (blk := .row e []) (xs := ([] : List (D e))) (hM.nilRow e (Dt.sz (D e))) hk hcs1 (fun _ hp => hp) (fun ρ2 e0 _ => ⟨none, 0, 0, [], e0, rfl, DtL.nil, rfl⟩) (by rw [he]; rfl) rfl hall rfl
        · cases h
      | false =>
        rw [he, cond_false] at h
        have hh := cif h
        clear h
        obtain ⟨hee, h⟩ := hh
        simp only [Bool.and_eq_true, Bool.not_eq_true'] at hee
        split at h
        · rename_i cs1 hcs1
          obtain rfl := Option.some.inj h
          refine step (blk := .lrw (e % 100000) [] (e / 100000 - 1) (nx + b + 1)) (xs := ([] : List (D (e % 100000)))) (hM.nilRow (e % 100000) (Dt.sz (D (e % 100000)))) hk hcs1 ext (fun ρ2 e0 hq => ?_) (by rw [he]; rfl) rfl hall rfl
          have := hq (b + 1) none (Nat.le_refl _) (pos hee.1) (List.mem_cons_self ..)
          exact ⟨none, 0, 0, [], [], none, 0, 0, e0, this, rfl, DtL.nil, rfl, blt_lt0 hee.2, rfl⟩
        · cases h
    · cases h
end
theorem insT_ok {fr : List (Nat × Blk D)} {F : List Ent} {w0 w : World} {H0 H : Hp} {R : List Ent} {ρ : RM} {L : List Ent} {st : St D} {σ : Nat → Value} {tp : Tp} {nx : Nat} {kn : List (Nat × SV D)} {cs : List (Cv D)} (hs : Sat fr F w0 H0 R H ρ L st σ w) (hkn : ∀ ρ' : RM, (∀ n, n < nx → ρ' n = ρ n) → KnR H ρ' kn) (hfr : ∀ ρ' : RM, (∀ n, n < nx → ρ' n = ρ n) → BkR H ρ' fr F) (h : insT tp nx st fr = some cs) :
    ∃ ρ' L' st', mkT tp nx kn cs = some st' ∧ (∀ n, n < nx → ρ' n = ρ n) ∧ Sat fr F w0 H0 R H ρ' L' st' σ w := by
  unfold insT at h
  have hrv : ∀ x s, Rv H ρ x s → Rv H ρ x (rsV (st.lk fr) (res st.kn s)) := fun x s hx => rsV_ok hs (hs.res hx)
  split at h
  · rename_i c1 b1 h1
    split at h
    · rename_i c2 b2 bk0 h2
      split at h
      case h_2 => cases h
      rename_i cm bk hmp
      have hh := cif h
      clear h
      obtain ⟨hall, h⟩ := hh
      split at h
      · rename_i c3 h3
        obtain rfl := Option.some.inj h
        obtain ⟨S0, L0, g1, g2, g3⟩ := insB_ok (nx := nx) hrv hs.bk h2
        obtain ⟨S1, L1, m1, m2, m3⟩ := insM_ok (nx := nx) g2 hmp
        have hM : Mem w0 H0 w H (L1 ++ ((S0 ++ S1) ++ (F ++ R))) := hs.mem.perm (by
          have hp : L.Perm ((S0 ++ S1) ++ L1) := by
            rw [List.append_assoc]
            exact g1.trans (List.Perm.append_left _ m1)
          have := (hp.trans List.perm_append_comm).append_right (F ++ R)
          rwa [List.append_assoc L1 (S0 ++ S1)] at this)
        obtain ⟨ρ2, S2, a1, a2, a3, a4, a5⟩ := insR_ok (nx := nx) (bd := b1 ++ b2) (b := 0) (ρ1 := fun id => bif Nat.blt id nx then ρ id else none) hM m2 h3 (fun id hid => by
          have : Nat.blt id nx = false := by
            cases hb : Nat.blt id nx with
            | true => have : id < nx := by simpa [Nat.blt_eq] using hb
                      omega
            | false => rfl
          simp [this])
        have hlo : ∀ n, n < nx → ρ2 n = ρ n := fun n hn => by
          rw [a1 n (by omega)]
          have : Nat.blt n nx = true := by simpa [Nat.blt_eq] using hn
          simp [this]
        have hbd : BdR ρ ρ2 nx (b1 ++ b2) := fun b o hm => by
          have := List.all_eq_true.1 hall _ hm
          exact a5 b o (Nat.zero_le _) (by simpa [Nat.blt_eq] using this) hm
        obtain ⟨m1, e1, e2⟩ := insS_ok hrv hlo hs.sl h1 hbd.left (c2 ++ (cm ++ c3))
        obtain ⟨m2, e3, e4⟩ := g3 ρ2 hlo hbd.right (cm ++ c3)
        obtain ⟨mm, e7, e8⟩ := m3 ρ2 hlo c3
        obtain ⟨m3, e5, e6⟩ := a4 []
        rw [List.append_nil] at e5
        refine ⟨ρ2, (S0 ++ S1) ++ S2, ⟨m1, m2 ++ (mm ++ m3), kn, nx + tp.rw.length⟩, ?_, hlo, ?_, e2, by rw [← List.append_assoc]; exact (e4.append e8).append e6, hfr _ hlo, hkn _ hlo, fun id hid => a2 id ?_⟩
        · have e5 : mkR nx tp.rw c3 = some (m3, []) := e5
          simp [mkT, e1, e3, e5, e7]
        · refine a3.perm ?_
          rw [← List.append_assoc]
          exact List.perm_append_comm.append_right _
        · have hid : nx + tp.rw.length ≤ id := hid
          omega
      · cases h
    · cases h
  · cases h
def tagL (sl : List (Nat × SV D)) : List Nat → Nat → List (Nat × SV D) → List (Nat × SV D) × List (Nat × SV D) × Nat
  | [], nx, kn => ([], kn, nx)
  | t :: r, nx, kn => match getS sl t with
    | some (.kp n) => match tagL sl r nx kn with
      | (l, k, m) => ((t, .kp n) :: l, k, m)
    | some v => match tagL sl r (nx + 1) ((nx, v) :: kn) with
      | (l, k, m) => ((t, .kp nx) :: l, k, m)
    | none => tagL sl r nx kn
def tagC : List (SV D) → Nat → List (Nat × SV D) → List (SV D) × List (Nat × SV D) × Nat
  | [], nx, kn => ([], kn, nx)
  | .kp n :: r, nx, kn => match tagC r nx kn with
    | (l, k, m) => (.kp n :: l, k, m)
  | v :: r, nx, kn => match tagC r (nx + 1) ((nx, v) :: kn) with
    | (l, k, m) => (.kp nx :: l, k, m)
def tagB : List (Nat × Blk D) → Nat → List (Nat × SV D) → List (Nat × Blk D) × List (Nat × SV D) × Nat
  | [], nx, kn => ([], kn, nx)
  | (id, .box T cs) :: r, nx, kn => match tagC cs nx kn with
    | (cs', k, m) => match tagB r m k with
      | (l, k', m') => ((id, .box T cs') :: l, k', m')
  | q :: r, nx, kn => match tagB r nx kn with
    | (l, k, m) => (q :: l, k, m)
def St.tag (st : St D) : St D := match tagL st.sl (st.sl.map (·.1)) st.nx st.kn with
  | (sl, kn, nx) => match tagB st.bk nx kn with
    | (bk, kn, nx) => ⟨sl, bk, kn, nx⟩
theorem KnR.cons {H : Hp} {ρ : RM} {kn : List (Nat × SV D)} {n : Nat} {v : SV D} {x : Value} (h : KnR H ρ kn) (h1 : ρ n = some (.v x)) (h2 : Rv H ρ x v) : KnR H ρ ((n, v) :: kn) := fun m u hm => by
  unfold getS at hm
  cases hb : Nat.beq m n with
  | true =>
    rw [hb] at hm
    cases hm
    obtain rfl := Nat.eq_of_beq_eq_true hb
    exact ⟨x, h1, h2⟩
  | false => rw [hb] at hm; exact h m u hm
theorem SlR.cons {H : Hp} {ρ : RM} {l : List (Nat × SV D)} {σ : Nat → Value} {t : Nat} {v : SV D} (h : SlR H ρ l σ) (h1 : Rv H ρ (σ t) v) : SlR H ρ ((t, v) :: l) σ := fun u s hu => by
  unfold getS at hu
  cases hb : Nat.beq u t with
  | true =>
    rw [hb] at hu
    cases hu
    obtain rfl := Nat.eq_of_beq_eq_true hb
    exact h1
  | false => rw [hb] at hu; exact h u s hu
theorem fresh_put {ρ : RM} {nx : Nat} (h : ∀ id, nx ≤ id → ρ id = none) (q : RB) : RM.le ρ (ρ.put nx q) ∧ ∀ id, nx + 1 ≤ id → ρ.put nx q id = none :=
  ⟨RM.le_put (h _ (Nat.le_refl _)) q, fun id hid => by rw [RM.put_ne _ _ (by omega)]; exact h _ (by omega)⟩
theorem tagL_ok {H : Hp} {sl : List (Nat × SV D)} {σ : Nat → Value} : ∀ {ks : List Nat} {ρ : RM} {nx : Nat} {kn : List (Nat × SV D)} {l k : List (Nat × SV D)} {m : Nat}, SlR H ρ sl σ → KnR H ρ kn → (∀ id, nx ≤ id → ρ id = none) → tagL sl ks nx kn = (l, k, m) → ∃ ρ', RM.le ρ ρ' ∧ nx ≤ m ∧ (∀ id, m ≤ id → ρ' id = none) ∧ KnR H ρ' k ∧ SlR H ρ' l σ
  | [], ρ, nx, kn, l, k, m, hs, hk, hn, h => by
    cases h
    exact ⟨ρ, RM.le.refl _, Nat.le_refl _, hn, hk, fun t v hv => by cases hv⟩
  | t :: r, ρ, nx, kn, l, k, m, hs, hk, hn, h => by
    unfold tagL at h
    split at h
    · rename_i n hg
      rcases hr : tagL sl r nx kn with ⟨l', k', m'⟩
      rw [hr] at h
      cases h
      obtain ⟨ρ', h1, h1', h2, h3, h4⟩ := tagL_ok hs hk hn hr
      exact ⟨ρ', h1, h1', h2, h3, h4.cons ((hs t _ hg).mono (Hp.le.refl _) h1)⟩
    · rename_i v hv0 hg
      rcases hr : tagL sl r (nx + 1) ((nx, v) :: kn) with ⟨l', k', m'⟩
      rw [hr] at h
      cases h
      obtain ⟨f1, f2⟩ := fresh_put hn (.v (σ t))
      obtain ⟨ρ', h1, h1', h2, h3, h4⟩ := tagL_ok (hs.mono (Hp.le.refl _) f1) ((hk.mono (Hp.le.refl _) f1).cons (RM.put_same _ _ _) ((hs t _ hg).mono (Hp.le.refl _) f1)) f2 hr
      exact ⟨ρ', f1.trans h1, by omega, h2, h3, h4.cons (h1 _ _ (RM.put_same _ _ _))⟩
    · exact tagL_ok hs hk hn h
theorem tagC_ok {H : Hp} : ∀ {cs : List (SV D)} {vs : List Value} {ρ : RM} {nx : Nat} {kn : List (Nat × SV D)} {l : List (SV D)} {k : List (Nat × SV D)} {m : Nat}, RvL H ρ vs cs → KnR H ρ kn → (∀ id, nx ≤ id → ρ id = none) → tagC cs nx kn = (l, k, m) → ∃ ρ', RM.le ρ ρ' ∧ nx ≤ m ∧ (∀ id, m ≤ id → ρ' id = none) ∧ KnR H ρ' k ∧ RvL H ρ' vs l
  | [], vs, ρ, nx, kn, l, k, m, hs, hk, hn, h => by
    cases h
    exact ⟨ρ, RM.le.refl _, Nat.le_refl _, hn, hk, hs⟩
  | v :: r, vs, ρ, nx, kn, l, k, m, ⟨x, q, e, g1, g2⟩, hk, hn, h => by
    by_cases hv : ∃ n, v = .kp n
    · obtain ⟨n, rfl⟩ := hv
      unfold tagC at h
      rcases hr : tagC r nx kn with ⟨l', k', m'⟩
      rw [hr] at h
      cases h
      obtain ⟨ρ', h1, h1', h2, h3, h4⟩ := tagC_ok g2 hk hn hr
      exact ⟨ρ', h1, h1', h2, h3, x, q, e, h1 _ _ g1, h4⟩
    · have h : (match tagC r (nx + 1) ((nx, v) :: kn) with
        | (l, k, m) => (SV.kp nx :: l, k, m)) = (l, k, m) := by
        cases v <;> first | exact h | exact absurd ⟨_, rfl⟩ hv
      rcases hr : tagC r (nx + 1) ((nx, v) :: kn) with ⟨l', k', m'⟩
      rw [hr] at h
      cases h
      obtain ⟨f1, f2⟩ := fresh_put hn (.v x)
      obtain ⟨ρ', h1, h1', h2, h3, h4⟩ := tagC_ok (RvL.mono (Hp.le.refl _) f1 _ g2) ((hk.mono (Hp.le.refl _) f1).cons (RM.put_same _ _ _) (g1.mono (Hp.le.refl _) f1)) f2 hr
      exact ⟨ρ', f1.trans h1, by omega, h2, h3, x, q, e, h1 _ _ (RM.put_same _ _ _), h4⟩
theorem tagB_ok {H : Hp} : ∀ {bk : List (Nat × Blk D)} {L : List Ent} {ρ : RM} {nx : Nat} {kn : List (Nat × SV D)} {l : List (Nat × Blk D)} {k : List (Nat × SV D)} {m : Nat}, BkR H ρ bk L → KnR H ρ kn → (∀ id, nx ≤ id → ρ id = none) → tagB bk nx kn = (l, k, m) → ∃ ρ', RM.le ρ ρ' ∧ nx ≤ m ∧ (∀ id, m ≤ id → ρ' id = none) ∧ KnR H ρ' k ∧ BkR H ρ' l L
  | [], L, ρ, nx, kn, l, k, m, hs, hk, hn, h => by
    cases h
    exact ⟨ρ, RM.le.refl _, Nat.le_refl _, hn, hk, hs⟩
  | (id, .box T cs) :: r, L, ρ, nx, kn, l, k, m, ⟨S, L', e, ⟨b, vs, g1, g2, g3⟩, g4⟩, hk, hn, h => by
    unfold tagB at h
    rcases hr : tagC cs nx kn with ⟨cs', k', m'⟩
    rw [hr] at h
    rcases hr2 : tagB r m' k' with ⟨l2, k2, m2⟩
    simp only [hr2] at h
    cases h
    obtain ⟨ρ', h1, h1', h2, h3, h4⟩ := tagC_ok g3 hk hn hr
    obtain ⟨ρ2, i1, i1', i2, i3, i4⟩ := tagB_ok (g4.mono (Hp.le.refl _) h1) h3 h2 hr2
    exact ⟨ρ2, h1.trans i1, by omega, i2, i3, S, L', e, ⟨b, vs, i1 _ _ (h1 _ _ g1), g2, RvL.mono (Hp.le.refl _) i1 _ h4⟩, i4⟩
  | (id, .row _ _) :: r, L, ρ, nx, kn, l, k, m, ⟨S, L', e, g1, g4⟩, hk, hn, h => by
    unfold tagB at h
    rcases hr : tagB r nx kn with ⟨l2, k2, m2⟩
    rw [hr] at h
    cases h
    obtain ⟨ρ2, i1, i1', i2, i3, i4⟩ := tagB_ok g4 hk hn hr
    exact ⟨ρ2, i1, i1', i2, i3, S, L', e, g1.mono (Hp.le.refl _) i1, i4⟩
  | (id, .frz _ _) :: r, L, ρ, nx, kn, l, k, m, ⟨S, L', e, g1, g4⟩, hk, hn, h => by
    unfold tagB at h
    rcases hr : tagB r nx kn with ⟨l2, k2, m2⟩
    rw [hr] at h
    cases h
    obtain ⟨ρ2, i1, i1', i2, i3, i4⟩ := tagB_ok g4 hk hn hr
    exact ⟨ρ2, i1, i1', i2, i3, S, L', e, g1.mono (Hp.le.refl _) i1, i4⟩
  | (id, .fbx _ _) :: r, L, ρ, nx, kn, l, k, m, ⟨S, L', e, g1, g4⟩, hk, hn, h => by
    unfold tagB at h
    rcases hr : tagB r nx kn with ⟨l2, k2, m2⟩
    rw [hr] at h
    cases h
    obtain ⟨ρ2, i1, i1', i2, i3, i4⟩ := tagB_ok g4 hk hn hr
    exact ⟨ρ2, i1, i1', i2, i3, S, L', e, g1.mono (Hp.le.refl _) i1, i4⟩
  | (id, .map _ _ _ _ _) :: r, L, ρ, nx, kn, l, k, m, ⟨S, L', e, g1, g4⟩, hk, hn, h => by
    unfold tagB at h
    rcases hr : tagB r nx kn with ⟨l2, k2, m2⟩
    rw [hr] at h
    cases h
    obtain ⟨ρ2, i1, i1', i2, i3, i4⟩ := tagB_ok g4 hk hn hr
    exact ⟨ρ2, i1, i1', i2, i3, S, L', e, g1.mono (Hp.le.refl _) i1, i4⟩
  | (id, .itr _ _ _) :: r, L, ρ, nx, kn, l, k, m, ⟨S, L', e, g1, g4⟩, hk, hn, h => by
    unfold tagB at h
    rcases hr : tagB r nx kn with ⟨l2, k2, m2⟩
    rw [hr] at h
    cases h
    obtain ⟨ρ2, i1, i1', i2, i3, i4⟩ := tagB_ok g4 hk hn hr
    exact ⟨ρ2, i1, i1', i2, i3, S, L', e, g1.mono (Hp.le.refl _) i1, i4⟩
  | (id, .lrw _ _ _ _) :: r, L, ρ, nx, kn, l, k, m, ⟨S, L', e, g1, g4⟩, hk, hn, h => by
    unfold tagB at h
    rcases hr : tagB r nx kn with ⟨l2, k2, m2⟩
    rw [hr] at h
    cases h
    obtain ⟨ρ2, i1, i1', i2, i3, i4⟩ := tagB_ok g4 hk hn hr
    exact ⟨ρ2, i1, i1', i2, i3, S, L', e, g1.mono (Hp.le.refl _) i1, i4⟩
theorem Sat.tag {fr : List (Nat × Blk D)} {F : List Ent} {w0 w : World} {H0 H : Hp} {R : List Ent} {ρ : RM} {L : List Ent} {st : St D} {σ : Nat → Value} (hs : Sat fr F w0 H0 R H ρ L st σ w) : ∃ ρ', RM.le ρ ρ' ∧ Sat fr F w0 H0 R H ρ' L st.tag σ w := by
  rcases hr : tagL st.sl (st.sl.map (·.1)) st.nx st.kn with ⟨sl, kn, nx⟩
  rcases hr2 : tagB st.bk nx kn with ⟨bk, kn2, nx2⟩
  have e : st.tag = ⟨sl, bk, kn2, nx2⟩ := by
    unfold St.tag
    rw [hr]
    show (match tagB st.bk nx kn with
      | (bk, kn, nx) => (⟨sl, bk, kn, nx⟩ : St D)) = _
    rw [hr2]
  rw [e]
  obtain ⟨ρ1, h1, h1', h2, h3, h4⟩ := tagL_ok hs.sl hs.kn hs.nx hr
  obtain ⟨ρ2, i1, i1', i2, i3, i4⟩ := tagB_ok (hs.bk.mono (Hp.le.refl _) h1) h3 h2 hr2
  exact ⟨ρ2, h1.trans i1, hs.mem, h4.mono (Hp.le.refl _) i1, i4, hs.fr.mono (Hp.le.refl _) (h1.trans i1), i3, i2⟩
end
end
section
section
variable {D : Nat → Type} [∀ t, Dt (D t)] {P : Program} {tb : Tb D} {σ : Nat → Value} {w w0 : World} {H0 H : Hp} {ρ : RM} {R L F : List Ent} {st : St D} {fr : List (Nat × Blk D)}
def rvE (P : Program) (tb : Tb D) (st : St D) (fr : List (Nat × Blk D)) : ResultVar → Option (SV D)
  | .tmp t => getS st.sl t
  | .cell a T => match (getS st.sl a).map (res st.kn) with
    | some (.ptr id off) => ldE P tb (st.lk fr) (.ptr id off) T
    | _ => none
theorem loadVar_of {T : TypeId} {a : Addr} {t : Nat} {u : Value} (hx : σ t = .pointer (some a)) (h : Ex P σ (.load T (.tmp t)) 0 w u w) : (loadVar T a).run P w = .ok u w := by
  have h1 := h none "" #[] none
  simp only [execOp, ev, hx] at h1
  have h2 : (Instr.loadAt T (.pointer (some a))).run P w = .ok u w := by
    cases hr : (Instr.loadAt T (.pointer (some a))).run P w with
    | ok v w' => simp [hr] at h1; obtain ⟨rfl, rfl⟩ := h1; rfl
    | halt e w' => simp [hr] at h1
  simpa [Instr.loadAt, Instr.sureAddr] using h2
def resF (tm : Array Value) (r : ResultVar) : Sem Value := match r with
  | .tmp t => pure (tm.getD t undef)
  | .cell a t => do loadVar t (← asAddr (tm.getD a undef))
theorem run_resL (htb : TbOk tb) (hs : Sat fr F w0 H0 R H ρ L st σ w) : ∀ {rs : List ResultVar} {vs : List (SV D)}, mapO (rvE P tb st fr) rs = some vs → ∃ us, RvL H ρ us vs ∧ ∀ tm : Array Value, (∀ t, tm.getD t undef = σ t) → (rs.mapM (resF tm)).run P w = .ok us w
  | [], vs, h => by cases h; exact ⟨[], rfl, fun _ _ => rfl⟩
  | r :: rs, vs, h => by
    unfold mapO at h
    split at h
    · cases h
    · rename_i y hy
      split at h
      · cases h
      · rename_i l hl
        cases h
        obtain ⟨us, h1, h2⟩ := run_resL htb hs hl
        have key : ∃ u, Rv H ρ u y ∧ ∀ tm : Array Value, (∀ t, tm.getD t undef = σ t) → (resF tm r).run P w = .ok u w := by
          cases r with
          | tmp t => exact ⟨σ t, hs.sl _ _ hy, fun tm ht => by rw [← ht t]; rfl⟩
          | cell a T =>
            simp only [rvE] at hy
            split at hy
            · rename_i id off hg
              obtain ⟨v, g1, g2⟩ := Option.map_eq_some_iff.1 hg
              have g3 := hs.res (hs.sl _ _ g1)
              rw [g2] at g3
              have g4 := g3
              obtain ⟨b, e1, e2⟩ := g3
              obtain ⟨u, g5, g6⟩ := ldE_ok (P := P) (x := .tmp a) (ty := 0) htb hs g4 hy
              refine ⟨u, g6, fun tm ht => ?_⟩
              have g7 := loadVar_of e2 g5
              simp [resF, ht a, e2, asAddr, g7]
            · cases hy
        obtain ⟨u, h3, h4⟩ := key
        refine ⟨u :: us, ⟨u, us, rfl, h3, h1⟩, fun tm ht => ?_⟩
        rw [List.mapM_cons, Sem.run_bind, h4 tm ht, Result.andThen_ok, Sem.run_bind, h2 tm ht]
        rfl
def tupVal (us : List Value) : Value := match us with
  | [u] => u
  | us => .tuple us.toArray
theorem tupVal_ok {us : List Value} {vs : List (SV D)} (h : RvL H ρ us vs) : Rv H ρ (tupVal us) (tupV vs) := by
  match vs, us, h with
  | [], us, h => obtain rfl : us = [] := h; exact ⟨[], rfl, rfl⟩
  | [s], us, h => obtain ⟨x, rfl, h3⟩ := rv1 h; exact h3
  | s :: t :: r, us, ⟨x, q, h2, h3, y, q', h4, h5, h6⟩ =>
    subst h4
    subst h2
    exact ⟨x :: y :: q', rfl, x, _, rfl, h3, y, q', rfl, h5, h6⟩
theorem results_ok (htb : TbOk tb) (hs : Sat fr F w0 H0 R H ρ L st σ w) {fn : Func} {vs : List (SV D)} (h : mapO (rvE P tb st fr) fn.results.toList = some vs) : ∃ us, RvL H ρ us vs ∧ ∀ a, Rep fn.ntmps [] σ a → (results fn a.tmps).run P w = .ok (tupVal us) w := by
  obtain ⟨us, h1, h2⟩ := run_resL htb hs h
  refine ⟨us, h1, fun a ha => ?_⟩
  have h3 : (fn.results.mapM (resF a.tmps)).run P w = .ok us.toArray w := by
    rw [Array.mapM_eq_mapM_toList]
    rw [show (List.toArray <$> (fn.results.toList.mapM (resF a.tmps))) = ((fn.results.toList.mapM (resF a.tmps)) >>= fun l => pure l.toArray) from rfl, Sem.run_bind, h2 _ ha.2.2]
    rfl
  unfold results
  rw [Sem.run_bind]
  refine (congrArg (fun q => Result.andThen q _) h3).trans ?_
  match us with
  | [] => rfl
  | [u] => rfl
  | u :: v :: r => rfl
end
end
section
def IterR (P : Program) (g : FuncId) (lb : List Value) (H : Hp) (n : Nat) (A : Nat → List Value → Prop) : Prop :=
  ∀ (l : Nat) (J Jx : Nat → World → Prop) (W : World), (∀ b o, H b = some o → W.heap[b]? = some o) →
    (∀ k A B, J k A → Below A.heap.size A B → J k B) → (∀ k A B, Jx k A → Below A.heap.size A B → Jx k B) →
    (∀ k A0 vs, k < n → A k vs → J k A0 → (∀ b o, H b = some o → A0.heap[b]? = some o) → Yield P l vs A0 fun v B => (∀ b o, H b = some o → B.heap[b]? = some o) ∧ ((v = .bool true ∧ J (k + 1) B) ∨ (v = .bool false ∧ Jx k B))) →
    J 0 W → Calls P g (Value.func (.yield l) #[] #[] :: lb).toArray W fun e B => ∃ v, e = .returned v ∧ (J n B ∨ ∃ k, k < n ∧ Jx k B)
section
variable {P : Program} {N : Nat} {Q : Exit → List Deferred → (Nat → Value) → World → Prop} {D : List Deferred} {σ : Nat → Value} {w w0 : World} {H0 H H1 : Hp} {L : List Ent}
theorem CW.rangeR {g : Operand} {ps : Array Tmp} {assign body : Code} {gf : FuncId} {lb : List Value} {n : Nat} {A : Nat → List Value → Prop} (Inv : Nat → Hp → List Ent → Prop) (hM : Mem w0 H0 w H L) (hg : ev σ g = .func (.func gf) #[] lb.toArray) (he : Enters P gf)
    (hle : H1.le H) (hit : IterR P gf lb H1 n A) (hps : ∀ k vs, A k vs → vs.length = ps.size) (hpN : (ps.toList.all fun p => Nat.blt p N) = true) (h0 : Inv 0 H L)
    (hbody : ∀ l D0 rdy bsy k vs H' L' W, k < n → A k vs → H.le H' → Inv k H' L' → Mem w0 H0 W H' (L' ++ [.obj l rdy, .obj D0 ddO]) →
      CW (some l) 0 P N assign (thenQ (midQ (some l) P N body w0 H0 H l D0 rdy bsy (roundQ w0 H0 H l D0 bsy (Inv (k + 1)) fun e W2 => Q e (mark D0 :: D) σ W2)) fun _ _ _ _ => False) [] (slp ps.toList vs σ) W)
    (hdone : ∀ D0 H' L' W, H.le H' → Inv n H' L' → Mem w0 H0 W H' (L' ++ [.obj D0 ddO]) → Q .normal (mark D0 :: D) σ W) : CW none 0 P N (.rangeFunc g ps assign body) Q D σ w := by
  intro a ha
  refine wpIn_rangeFunc (F := FR none) fun fn _ => ?_
  obtain ⟨rec, hrec⟩ : ∃ rec : LoopState → Option Code → Loop, rec = fun st pe => { state := st, pending := pe, fn, tmps := a.tmps, params := ps, assign, body, defers := w.heap.size } := ⟨_, rfl⟩
  have hM1 : Mem w0 H0 ((w.alloc ddO).alloc (.loop (rec .ready none))) H (.obj (w.heap.size + 1) (.loop (rec .ready none)) :: .obj w.heap.size ddO :: L) := by
    have := (hM.newObj ddO).newObj (.loop (rec .ready none))
    rwa [World.size_alloc] at this
  have hM1 : Mem w0 H0 ((w.alloc ddO).alloc (.loop (rec .ready none))) H (L ++ [.obj (w.heap.size + 1) (.loop (rec .ready none)), .obj w.heap.size ddO]) :=
    hM1.perm (show ([Ent.obj (w.heap.size + 1) (.loop (rec .ready none)), Ent.obj w.heap.size ddO] ++ L).Perm _ from List.perm_append_comm)
  have hset : ∀ s s' pe, ({ rec s pe with state := s' } : Loop) = rec s' pe := by intro s s' pe; rw [hrec]
  generalize hW1 : (w.alloc ddO).alloc (.loop (rec .ready none)) = W1 at hM1
  refine ⟨w.heap.size + 1, [mark w.heap.size], W1, { target := .fn (.func gf) lb.toArray, args := #[.func (.yield (w.heap.size + 1)) #[] #[]] }, W1, gf, (Value.func (.yield (w.heap.size + 1)) #[] #[] :: lb).toArray, W1, ?_, ?_, ?_, ?_, ?_, ?_⟩
  · rw [← hW1, hrec]; exact run_enterLoop_outer _ _ _ _ _
  · have : a.eval g = .func (.func gf) #[] lb.toArray := by rw [ha.eval]; exact hg
    simp only [resolve, this]
    simp [Deferred.ofValue, Act.eval]
  · intro f' _; trivial
  · have := he (#[.func (.yield (w.heap.size + 1)) #[] #[]] ++ lb.toArray) W1
    simp only [invoke]
    simpa using this
  · intro h; simp [FR, Fence.wide] at h
  · refine FR_callsIn ((hit (w.heap.size + 1)
      (fun k W => ∃ H' L', H.le H' ∧ Inv k H' L' ∧ Mem w0 H0 W H' (L' ++ [.obj (w.heap.size + 1) (.loop (rec .ready none)), .obj w.heap.size ddO]))
      (fun _ W => ∃ c H' L', H.le H' ∧ Mem w0 H0 W H' (L' ++ [.obj (w.heap.size + 1) (.loop (rec .done (some c))), .obj w.heap.size ddO]) ∧ ∀ W2, Mem w0 H0 W2 H' (L' ++ [.obj w.heap.size ddO]) → CW none 0 P N c Q (mark w.heap.size :: D) σ W2)
      W1 (fun b o e => hM1.agree b o (hle b o e)) ?_ ?_ ?_ ⟨H, L, Hp.le.refl _, h0, hM1⟩).mono ?_)
    · rintro k A1 B ⟨H', L', h1, h2, h3⟩ hb; exact ⟨H', L', h1, h2, h3.frame hb⟩
    · rintro k A1 B ⟨c, H', L', h1, h2, h3⟩ hb; exact ⟨c, H', L', h1, h2.frame hb, h3⟩
    · -- one round
      rintro k A0 vs hk hvs ⟨H', L', h1, h2, h3⟩ _
      have hl := h3.objAt (get_mid L' _ _)
      have hy := run_yield (P := P) (args := vs.toArray) hl (by rw [hrec]; simpa using hps k vs hvs)
      rw [hrec] at hy
      refine ⟨fn, _, assign, body, hy, roundIn_of_wpIn trivial ?_⟩
      have hrep : Rep N [] (slp ps.toList vs σ) { tmps := (ps.zip vs.toArray).foldl (fun t (p, v) => t.setIfInBounds p v) a.tmps, defers := [] } := by
        have := rep_slp (N := N) (D := []) ps.toList vs σ a.tmps hpN ⟨rfl, ha.2.1, ha.2.2⟩
        have e : (ps.zip vs.toArray).foldl (fun t (p, v) => t.setIfInBounds p v) a.tmps = (ps.toList.zip vs).foldl (fun t (p, v) => t.setIfInBounds p v) a.tmps := by
          rw [← Array.foldl_toList]; simp
        rw [e]; exact this
      refine wpIn_mono (hbody _ w.heap.size (.loop (rec .ready none)) (.loop (rec .busy none)) k vs H' L' A0 hk hvs h1 h2 h3 _ hrep) ?_
      rintro e a1 W1' ⟨D1, σ1, hr1, hq1⟩
      cases e with
      | normal =>
        obtain ⟨rfl, H2, L2, h4, h5, h6⟩ := hq1
        have hl2 := h5.objAt (get_mid L2 _ _)
        have hbr := run_beginRound (P := P) hl2 (by rw [hrec])
        have h7 := h5.putObj L2.length (get_mid L2 _ _) (.loop { rec .ready none with state := .busy })
        rw [set_mid, hset] at h7
        rw [hset] at hbr
        refine ⟨_, hbr, ?_⟩
        refine wpIn_mono (h6 _ h7 a1 hr1) ?_
        rintro e2 a2 W3 ⟨D2, σ2, hr2, rfl, hq2⟩
        have fin : ∀ (jump : Option Code) {H3 : Hp} {L3 : List Ent}, Mem w0 H0 W3 H3 (L3 ++ [.obj (w.heap.size + 1) (.loop (rec .busy none)), .obj w.heap.size ddO]) →
            (Instr.endRound (w.heap.size + 1) jump).run P W3 = .ok (.bool jump.isNone) (W3.putObj (w.heap.size + 1) (.loop (rec (if jump.isNone then .ready else .done) jump))) ∧
            Mem w0 H0 (W3.putObj (w.heap.size + 1) (.loop (rec (if jump.isNone then .ready else .done) jump))) H3 (L3 ++ [.obj (w.heap.size + 1) (.loop (rec (if jump.isNone then .ready else .done) jump)), .obj w.heap.size ddO]) := by
          intro jump H3 L3 hm
          have hl3 := hm.objAt (get_mid L3 _ _)
          have h9 := run_endRound (P := P) jump hl3
          have h10 := hm.putObj L3.length (get_mid L3 _ _) (.loop (rec (if jump.isNone then .ready else .done) jump))
          rw [set_mid] at h10
          rw [hrec] at h9
          exact ⟨by rw [hrec]; exact h9, h10⟩
        have hag : ∀ {H3 : Hp} {L3 : List Ent} {W4 : World}, H.le H3 → Mem w0 H0 W4 H3 L3 → ∀ b o, H1 b = some o → W4.heap[b]? = some o := fun h11 h12 b o e => h12.agree b o (h11 b o (hle b o e))
        cases e2 with
        | normal =>
          obtain ⟨H3, L3, h9, h10, h11⟩ := hq2
          obtain ⟨h12, h13⟩ := fin none h10
          exact ⟨_, _, h12, _, rfl, hag h9 h13, .inl ⟨rfl, H3, L3, h9, h11, h13⟩⟩
        | ret =>
          obtain ⟨H3, L3, h9, h10, h11⟩ := hq2
          obtain ⟨h12, h13⟩ := fin (some .ret) h10
          exact ⟨_, _, h12, _, rfl, hag h9 h13, .inr ⟨rfl, .ret, H3, L3, h9, h13, fun W2 hW2 => CW.ret (h11 W2 hW2)⟩⟩
        | exit id =>
          obtain ⟨H3, L3, h9, h10, h11⟩ := hq2
          obtain ⟨h12, h13⟩ := fin (some (.exit id)) h10
          exact ⟨_, _, h12, _, rfl, hag h9 h13, .inr ⟨rfl, .exit id, H3, L3, h9, h13, fun W2 hW2 => CW.exit (h11 W2 hW2)⟩⟩
        | goto t => exact hq2.elim
        | panic c => exact hq2.elim
        | outgrown => exact hq2.elim
      | exit id => exact hq1.elim
      | goto t => exact hq1.elim
      | ret => exact hq1.elim
      | panic c => exact hq1.elim
      | outgrown => exact hq1.elim
    · -- behind the iterator
      have hra : ∀ (d : List Deferred), Rep N (d ++ D) σ { a with defers := d ++ a.defers } := fun d => ⟨by rw [ha.1], ha.2.1, ha.2.2⟩
      have drop : ∀ {W2 : World} {H' : Hp} {L' : List Ent} (r : Loop), Mem w0 H0 W2 H' (L' ++ [.obj (w.heap.size + 1) (.loop r), .obj w.heap.size ddO]) → Mem w0 H0 (W2.putObj (w.heap.size + 1) (.loop { r with state := .exhausted })) H' (L' ++ [.obj w.heap.size ddO]) := by
        intro W2 H' L' r hm
        have h10 := hm.putObj L'.length (get_mid L' _ _) (.loop { r with state := .exhausted })
        rw [set_mid] at h10
        exact h10.sub ((List.Sublist.refl L').append (List.sublist_cons_self _ _))
      rintro e W2 ⟨v, rfl, ⟨H', L', h1, h2, h3⟩ | ⟨k, hk, c, H', L', h1, h2, h3⟩⟩
      · have hl := h3.objAt (get_mid L' _ _)
        have := run_endLoop (P := P) hl (by rw [hrec]; simp)
        refine ⟨none, _, by rw [hrec] at this ⊢; exact this, ⟨_, σ, hra [mark w.heap.size], hdone _ H' L' _ h1 h2 (drop _ h3)⟩⟩
      · have hl := h2.objAt (get_mid L' _ _)
        have := run_endLoop (P := P) hl (by rw [hrec]; simp)
        refine ⟨some c, _, by rw [hrec] at this ⊢; exact this, h3 _ (drop _ h2) _ (hra [mark w.heap.size])⟩
end
end
section
section
variable {r : Option Nat} {md : Nat} {P : Program} {N : Nat} {ops : Array Oper} {l : List Oper} {Q : Exit → List Deferred → (Nat → Value) → World → Prop} {D : List Deferred} {σ : Nat → Value} {w : World} {gd : Option (Nat × Bool)} {d : Option Nat} {ty : TypeId} {pos : String} {af : Array Edge}
theorem RW.enterP {g : Operand} {xs : Array Operand} {ts : Array TypeId} {f : FuncId} {lb : Array Value} {args : List Value} {R : Value → World → Prop} {S : List PanicEntry → World → Prop} (he : Enters P f) (hf : ev σ g = .func (.func f) #[] lb) (ha : xs.toList.map (ev σ) ++ lb.toList = args)
    (hg : gdOk ops σ gd = true) (hd : dstOk d N = true) (hc : Calls P f args.toArray w fun e w' => (∃ v, e = .returned v ∧ R v w') ∨ ∃ c, e = .panicked c ∧ S c w') (K : ∀ v w', R v w' → RW r md P N ops l Q D (upd σ d v) w') (KP : ∀ c w', S c w' → Q (.panic c) D σ w') :
    RW r md P N ops (⟨d, .call { callee := .value g, args := xs, argTypes := ts }, ty, pos, af, gd⟩ :: l) Q D σ w := by
  intro a hra
  have hw := wanted_of (ops := ops) hra (o := ⟨d, .call { callee := .value g, args := xs, argTypes := ts }, ty, pos, af, gd⟩)
  unfold wpListIn
  rw [hw, if_pos hg]
  refine ⟨fun f _ => trivial, ?_⟩
  have hs : Oper.semAt (FR r).round a.eval ⟨d, .call { callee := .value g, args := xs, argTypes := ts }, ty, pos, af, gd⟩ = execOp a.eval ⟨d, .call { callee := .value g, args := xs, argTypes := ts }, ty, pos, af, gd⟩ := Oper.semAt_eq _ _ _ (by intro c hc; cases hc)
  have hrun : (execOp (ev σ) ⟨d, .call { callee := .value g, args := xs, argTypes := ts }, ty, pos, af, gd⟩).run P w = .ok (.enter f args.toArray) w := by
    have h1 := he args.toArray w
    have ha : xs.map (ev σ) ++ lb = args.toArray := by
      apply Array.ext'
      simp [← ha]
    simp only [execOp, resolve, hf, Deferred.ofValue]
    simp [invoke, ha, h1]
  rw [hs, hra.eval, hrun, Oper.uponIn_enter]
  refine ⟨fun h => by simp [FR, Fence.wide] at h, ?_⟩
  refine (FR_callsIn hc).mono ?_
  rintro e w' (⟨v, rfl, hR⟩ | ⟨c, rfl, hS⟩)
  · exact K v w' hR _ (hra.put hd v)
  · exact ⟨D, σ, hra, KP c w' hS⟩
theorem RW.panic {x : Operand} {T : TypeId} {v : Value} (hx : ev σ x = .iface T v) (hg : gdOk ops σ gd = true) (K : Q (.panic [{ v := .iface T v, recovered := false }]) D σ w) : RW r md P N ops (⟨d, .panic x, ty, pos, af, gd⟩ :: l) Q D σ w := by
  intro a ha
  have hw := wanted_of (ops := ops) ha (o := ⟨d, .panic x, ty, pos, af, gd⟩)
  unfold wpListIn
  rw [hw, if_pos hg]
  refine ⟨fun f _ => trivial, ?_⟩
  have hs : Oper.semAt (FR r).round a.eval ⟨d, .panic x, ty, pos, af, gd⟩ = execOp a.eval ⟨d, .panic x, ty, pos, af, gd⟩ := Oper.semAt_eq _ _ _ (by intro c hc; cases hc)
  have hr : (execOp (ev σ) ⟨d, .panic x, ty, pos, af, gd⟩).run P w = .halt (.panic (.iface T v)) w := by
    simp only [execOp, hx, Instr.panic]
    rfl
  rw [hs, ha.eval, hr]
  exact ⟨D, σ, ha, K⟩
theorem RW.defer {g : Operand} {ts : Array TypeId} {f : FuncId} {lb : Array Value} (hf : ev σ g = .func (.func f) #[] lb) (hr : r = none) (hg : gdOk ops σ gd = true) (K : RW r md P N ops l Q (⟨.fn (.func f) lb, #[]⟩ :: D) σ w) : RW r md P N ops (⟨none, .defer ⟨.value g, #[], ts⟩, ty, pos, af, gd⟩ :: l) Q D σ w := by
  subst hr
  intro a ha
  have hw := wanted_of (ops := ops) ha (o := ⟨none, .defer ⟨.value g, #[], ts⟩, ty, pos, af, gd⟩)
  unfold wpListIn
  rw [hw, if_pos hg]
  refine ⟨fun f _ => trivial, ?_⟩
  have hs : Oper.semAt (FR none).round a.eval ⟨none, .defer ⟨.value g, #[], ts⟩, ty, pos, af, gd⟩ = execOp a.eval ⟨none, .defer ⟨.value g, #[], ts⟩, ty, pos, af, gd⟩ := Oper.semAt_none _ _
  have hrun : (execOp (ev σ) ⟨none, .defer ⟨.value g, #[], ts⟩, ty, pos, af, gd⟩).run P w = .ok (.defer ⟨.fn (.func f) lb, #[]⟩) w := by
    simp [execOp, resolve, hf, Deferred.ofValue]
  rw [hs, ha.eval, hrun]
  refine K _ ⟨?_, ha.2.1, ha.2.2⟩
  show _ :: a.defers = _
  rw [ha.1]
end
def panM (S : World → Prop) : List Deferred → World → Prop
  | [], w => S w
  | d :: ds, w => ∃ b, d = mark b ∧ w.heap[b]? = some ddO ∧ panM S ds (w.putObj b (.deferred none))
def endP (P : Program) (fn : Func) (R : Value → World → Prop) (S : List PanicEntry → World → Prop) (e : Exit) (D : List Deferred) (σ : Nat → Value) (w : World) : Prop := match e with
  | .panic c => panM (S c) D w
  | e => endQM P fn R e D σ w
section
variable {P : Program} {σ : Nat → Value} {w w0 : World} {H0 H : Hp} {L : List Ent} {D : List Deferred}
theorem leavesP {fn : Func} {R : Ending → World → Prop} {c : List PanicEntry} (tm : Array Value) : ∀ (D : List Deferred) (w : World), panM (fun w' => R (.panicked c) w') D w → LeavesInM Fence.wide 0 P fn tm R D (.panicking c) w
  | [], w, h => h
  | d :: ds, w, h => by
    obtain ⟨b, rfl, h2, h3⟩ := h
    exact ⟨by simp, .inl ⟨b, _, rfl, run_takeDeferred h2, leavesP tm ds _ h3⟩⟩
theorem leavesM2 {fn : Func} {R : Value → World → Prop} {T : Ending → World → Prop} (hT : ∀ v w', R v w' → T (.returned v) w') {e : Exit} (tm : Array Value) : ∀ (D : List Deferred) (w : World), (∀ D', Rep fn.ntmps D' σ { tmps := tm, defers := D' }) → endQM P fn R e D σ w →
    LeavesInM Fence.wide 0 P fn tm T D .returning w
  | [], w, hr, h => by
    obtain ⟨_, _, v, h3, h4⟩ := h
    exact ⟨v, h3 _ (hr []), hT v _ h4⟩
  | d :: ds, w, hr, h => by
    obtain ⟨_, b, rfl, h2, h3⟩ := h
    exact ⟨by simp, .inl ⟨b, _, rfl, run_takeDeferred h2, leavesM2 hT tm ds _ hr h3⟩⟩
theorem endQM_end {fn : Func} {R : Value → World → Prop} {e : Exit} : ∀ {D : List Deferred}, endQM P fn R e D σ w → e = .ret ∨ e = .normal
  | [], h => h.1
  | _ :: _, h => h.1
theorem calls_of_codeP {f : FuncId} {fn : Func} {c : Code} {args : Array Value} {R : Value → World → Prop} {S : List PanicEntry → World → Prop} (hf : P.funcs[f]? = some fn) (hb : fn.body = some c) (hN : args.size ≤ fn.ntmps)
    (h : CW none 0 P fn.ntmps c (endP P fn R S) [] (sl (enumA 0 args.toList) fun _ => undef) w) : Calls P f args w fun e w' => (∃ v, e = .returned v ∧ R v w') ∨ ∃ c, e = .panicked c ∧ S c w' := by
  refine callsIn_wide (n := 0).1 (callsIn_of_wp_marks (F := Fence.wide) hf hb trivial (wpIn_mono (h _ (rep_start args fn.ntmps hN)) ?_))
  rintro e a' w' ⟨D', σ', h1, h2⟩
  have hd : a'.defers = D' := h1.1
  have fin : endQM P fn R e D' σ' w' → bodyPostM Fence.wide 0 P fn (fun e w' => (∃ v, e = .returned v ∧ R v w') ∨ ∃ c, e = .panicked c ∧ S c w') e a' w' := fun h2 => by
    have h3 := leavesM2 (P := P) (T := fun e w' => (∃ v, e = .returned v ∧ R v w') ∨ ∃ c, e = .panicked c ∧ S c w') (fun v w' h => .inl ⟨v, rfl, h⟩) a'.tmps D' w' (fun D'' => ⟨rfl, h1.2.1, h1.2.2⟩) h2
    rcases endQM_end h2 with rfl | rfl
    · show LeavesInM _ _ _ _ _ _ a'.defers _ _
      rw [hd]; exact h3
    · show LeavesInM _ _ _ _ _ _ a'.defers _ _
      rw [hd]; exact h3
  cases e with
  | panic c =>
    show LeavesInM _ _ _ _ _ _ a'.defers _ _
    rw [hd]
    refine leavesP a'.tmps D' w' ?_
    have : ∀ {D' : List Deferred} {w' : World}, panM (S c) D' w' → panM (fun w' => (∃ v, Ending.panicked c = .returned v ∧ R v w') ∨ ∃ c', Ending.panicked c = .panicked c' ∧ S c' w') D' w' := by
      intro D'
      induction D' with
      | nil => exact fun h => .inr ⟨c, rfl, h⟩
      | cons d ds ih => exact fun ⟨b, h1, h2, h3⟩ => ⟨b, h1, h2, ih h3⟩
    exact this h2
  | _ => exact fin h2
end
end
section
section
variable {P : Program} {σ : Nat → Value} {w : World} {ty : TypeId}
theorem run_equalIn_ifc0 {t : TypeId} {ms : Array (String × TypeId)} (ht : P.underlying t = some (.interface ms)) (d : Nat) (w : World) : (Op.equalIn (d + 1) t .nilIface .nilIface).run P w = .ok true w := by
  simp [Op.equalIn, run_underlying ht]
theorem run_equalIn_ifc1 {t : TypeId} {ms : Array (String × TypeId)} (ht : P.underlying t = some (.interface ms)) (d : Nat) (T : TypeId) (z : Value) (w : World) : (Op.equalIn (d + 1) t (.iface T z) .nilIface).run P w = .ok false w := by
  simp [Op.equalIn, run_underlying ht]
theorem run_equal_ifc0 {t : TypeId} {ms : Array (String × TypeId)} (ht : P.underlying t = some (.interface ms)) (w : World) : (Op.equal t .nilIface .nilIface).run P w = .ok true w := run_equalIn_ifc0 ht 9999 w
theorem run_equal_ifc1 {t : TypeId} {ms : Array (String × TypeId)} (ht : P.underlying t = some (.interface ms)) (T : TypeId) (z : Value) (w : World) : (Op.equal t (.iface T z) .nilIface).run P w = .ok false w := run_equalIn_ifc1 ht 9999 T z w
theorem Ex.neqIfc0 {t : TypeId} {ms : Array (String × TypeId)} {x : Operand} {u : TypeId} (ht : P.underlying t = some (.interface ms)) (hx : ev σ x = .nilIface) : Ex P σ (.binOp .neq t x (.const .nilIface) u) ty w (.bool false) w := by
  intro d pos af gd
  have h : (binOp .neq t .nilIface .nilIface).run P w = .ok (.bool false) w := by
    show (do pure (Value.bool (!(← Op.equal t .nilIface .nilIface))) : Sem Value).run P w = _
    simp [run_equal_ifc0 ht w]
  simp only [execOp, hx, show ev σ (.const .nilIface) = .nilIface from rfl]
  simp [eqGuard, h]
theorem Ex.neqIfc1 {t : TypeId} {ms : Array (String × TypeId)} {x : Operand} {u : TypeId} {T : TypeId} {z : Value} (ht : P.underlying t = some (.interface ms)) (hx : ev σ x = .iface T z) : Ex P σ (.binOp .neq t x (.const .nilIface) u) ty w (.bool true) w := by
  intro d pos af gd
  have h : (binOp .neq t (.iface T z) .nilIface).run P w = .ok (.bool true) w := by
    show (do pure (Value.bool (!(← Op.equal t (.iface T z) .nilIface))) : Sem Value).run P w = _
    simp [run_equal_ifc1 ht T z w]
  simp only [execOp, hx, show ev σ (.const .nilIface) = .nilIface from rfl]
  simp [eqGuard, h]
theorem Ex.mkIfc {T : TypeId} {fs : Array Field} {x : Operand} {v : Value} (ht : P.underlying T = some (.struct fs)) (hx : ev σ x = v) : Ex P σ (.makeInterface T x) ty w (.iface T v) w := by
  intro d pos af gd
  simp only [execOp, hx, Instr.makeInterface]
  simp [run_underlying ht]
theorem Ex.tyAs {T : TypeId} {fs : Array Field} {x : Operand} {xT : TypeId} {v : Value} (ht : P.underlying T = some (.struct fs)) (hx : ev σ x = .iface T v) : Ex P σ (.typeAssert x xT T true) ty w (.tuple #[v, .bool true]) w := by
  intro d pos af gd
  simp only [execOp, hx, Instr.typeAssert]
  simp [run_underlying ht]
end
end
section
def eqLs : List Nat → List Nat → Bool
  | [], [] => true
  | a :: l, b :: m => Nat.beq a b && eqLs l m
  | _, _ => false
def findSp (pos : List Nat) : List (List Nat × Nat) → Option Nat
  | [] => none
  | p :: r => bif eqLs p.1 pos then some p.2 else findSp pos r
section
variable {D : Nat → Type} [∀ t, Dt (D t)] {P : Program} {tb : Tb D} {σ : Nat → Value} {ty : TypeId} {w w0 : World} {H0 H : Hp} {ρ : RM} {R L F : List Ent} {st : St D} {fr : List (Nat × Blk D)}
def setlE (tb : Tb D) (st : St D) (v : SV D) : Option (SV D × St D) := match res st.kn v with
  | .hv id e hi => match gtB st.bk id with
    | some (.row e' xs) => bif Nat.beq e e' then some (.own st.nx, ⟨st.sl, setB st.bk id (st.nx, .row e' (sub xs 0 hi)), st.kn, st.nx + 1⟩) else none
    | _ => none
  | .own id => match gtB st.bk id with
    | some (.lrw _ _ _ k) => match gtB (st.frz k).bk id with
      | some (.lrw e xs f k2) => match gtB (st.frz k).bk k2 with
        | some (.frz e' ys) => match clsL tb e xs f e' ys with
          | some zs => some (.own id, ⟨st.sl, setB (st.frz k).bk id (id, .row e zs), st.kn, st.nx⟩)
          | none => none
        | _ => none
      | _ => none
    | _ => none
  | _ => none
theorem grown_refl (w : World) (o : Option Nat) : w.grownBy w o := ⟨rfl, rfl, rfl, Nat.le_refl _, fun _ _ _ => rfl⟩
theorem setlE_ok (htb : TbOk tb) (hs : Sat fr F w0 H0 R H ρ L st σ w) {x : Value} {v v' : SV D} {st' : St D} (hv : Rv H ρ x v) (h : setlE tb st v = some (v', st')) : ∃ H' ρ' L', H.le H' ∧ RM.le ρ ρ' ∧ Sat fr F w0 H0 R H' ρ' L' st' σ w ∧ Rv H' ρ' x v' := by
  have hv2 := hs.res hv
  unfold setlE at h
  split at h
  · rename_i id e hi hr
    rw [hr] at hv2
    obtain ⟨A, n, c, e1, e2, e3⟩ := hv2
    split at h
    · rename_i e' xs hl
      have hh := cif h
      clear h
      obtain ⟨hee, h⟩ := hh
      have hee := Nat.eq_of_beq_eq_true hee
      subst hee
      cases h
      obtain ⟨L1, S, L2, ⟨A', n', c', s, f1, rfl, f3, f4⟩, hM, hK⟩ := hs.write hl
      rw [e1] at f1; cases f1
      obtain ⟨i1, i2, i3⟩ := e3
      have hh : w.ownsRow w0.heap.size e (Dt.sz (D e)) (.slice A n c) n s := hM.holds _ (List.mem_of_getElem? (get_at L1 _ _))
      have hsub : sub xs 0 hi = xs.take hi.toNat := by unfold sub; simp
      have hown : w.ownsRow w0.heap.size e (Dt.sz (D e)) (.slice A hi.toNat c) hi.toNat (s.take (hi.toNat * Dt.sz (D e))) := by
        have hle : hi.toNat * Dt.sz (D e) ≤ n * Dt.sz (D e) := Nat.mul_le_mul_right _ (by omega)
        refine ⟨by rw [List.length_take, hh.1]; exact Nat.min_eq_left hle, ?_⟩
        rcases hh.2 with ⟨q1, q2⟩ | ⟨g, cap, cur, q1, q2, q3, q4, q5, q6, q7⟩
        · cases q1
          exact .inl ⟨by rw [show hi.toNat = 0 by omega], by omega⟩
        · cases q1
          exact .inr ⟨g, c, cur, rfl, q2, q3, by omega, q5, q6, by rw [← q7, List.take_take, Nat.min_eq_left hle]⟩
      have hM' := hM.turn L1.length (get_at L1 _ _) (grown_refl w _) (E' := .row (.slice A hi.toNat c) e (Dt.sz (D e)) hi.toNat (s.take (hi.toNat * Dt.sz (D e)))) hown (.inl (by cases A <;> rfl))
      rw [set_at] at hM'
      refine ⟨H, ρ.put st.nx (.r A hi.toNat c), _, Hp.le.refl _, hs.fresh _, hK (Hp.le.refl _) (hs.fresh _) ⟨A, hi.toNat, c, _, RM.put_same _ _ _, rfl, ?_, ?_⟩ hM' (hs.freshN _), A, hi.toNat, c, RM.put_same _ _ _, e2⟩
      · rw [hsub]; exact DtL.take _ f3 (by omega)
      · rw [hsub, List.length_take]; omega
    · cases h
  · rename_i id hr
    rw [hr] at hv2
    split at h
    · rename_i e0 xs0 f0 k hl0
      split at h
      · rename_i e xs f k2 hl
        split at h
        · rename_i e' ys hk
          split at h
          · rename_i zs hz
            cases h
            obtain ⟨H1, L1', hle, hs1⟩ := hs.frz k
            obtain ⟨L1, S, L2, ⟨A, n, c, s, s', A2, n2, c2, g1, g2, rfl, g3, g4, g5, g6⟩, hM, hK⟩ := hs1.write hl
            obtain ⟨M1, S2, M2, g7, _⟩ := hs1.bk.split hk
            have hS := hs1.bk.split hk
            obtain ⟨M1, S2, M2, _, ⟨rfl, A8, n8, c8, s8, p1, p2⟩, _⟩ := hS
            rw [g2] at p1; cases p1
            have hds : DtL (α := D e) H1 s zs := by rw [g6]; exact clsL_ok htb hz g3 g4 g5 p2
            have h1 := frz_sl st k
            obtain ⟨A9, n9, c9, q1, q2⟩ := hv2
            rw [q1] at g1; cases g1
            have hfin := hK (id' := id) (b' := .row e zs) (S' := [.row (.slice A n c) e (Dt.sz (D e)) n s]) (nx' := st.nx) (Hp.le.refl _) (RM.le.refl _) ⟨A, n, c, s, q1, rfl, hds, by rw [clsL_len hz]; exact g4⟩ hM (by have := hs1.nx; rw [h1.2.2] at this; exact this)
            rw [h1.1, h1.2.1] at hfin
            exact ⟨H1, ρ, _, hle, RM.le.refl _, hfin, A, n, c, q1, q2⟩
          · cases h
        · cases h
      · cases h
    · cases h
  · cases h
def apartE (P : Program) (tb : Tb D) (st : St D) (fr : List (Nat × Blk D)) (op : Op) (f e' : Nat) : Option (List Prop × SV D × St D) := match op with
  | .buildSlice t 1 ps => match opVals st fr op, slOf D P t with
    | some vs, some (e, _) => match zcE D P e with
      | some z => match fillS (fun i => some (i * Dt.sz (D e), Dt.sz (D e))) (repS 1 z) (zipP ps.toList vs) with
        | some cs => bif Nat.ble (1 * Dt.sz (D e)) 16777216 && (Nat.beq cs.length (1 * Dt.sz (D e)) && Nat.blt f (Dt.sz (D e))) then (match ofC tb e (cs.set f (.fsl e' [])) with
          | some x => match cs[f]? with
            | some .nil => some ([], .own (st.nx + 1), ⟨st.sl, (st.nx + 1, .lrw e [x] f st.nx) :: (st.nx, .row e' []) :: st.bk, st.kn, st.nx + 1 + 1⟩)
            | some (.own k) => some ([], .own st.nx, ⟨st.sl, (st.nx, .lrw e [x] f k) :: st.bk, st.kn, st.nx + 1⟩)
            | _ => none
          | none => none) else none
        | none => none
      | none => none
    | _, _ => none
  | .call ⟨.builtin .append, _, _⟩ => match opVals st fr op with
    | some (.own id :: _) => match gtB st.bk id with
      | some (.lrw _ _ _ k) => match opVals (st.frz k) fr op with
        | some vs => opE P tb (st.frz k) fr op vs
        | none => none
      | _ => none
    | some vs => opE P tb st fr op vs
    | none => none
  | .binOp .sub _ _ _ _ => match opVals st fr op with
    | some [.i k a, .i l b] => if k = .i64 then (if l = .i64 then some ([], .i .i64 (IntKind.wrap .i64 (a - b)), st) else none) else none
    | _ => none
  | _ => none
theorem apart_last {e f : Nat} {x : D e} {cs : List (SV D)} {us : List Value} {e' : Nat} {A : Option Addr} {n c : Nat} (htb : TbOk tb) (hu : RvL H ρ us cs) (hx : ofC tb e (cs.set f (.fsl e' [])) = some x) (hf : f < Dt.sz (D e)) (hl : us.length = Dt.sz (D e)) (hh : us[f]? = some (.slice A n c)) :
    ∃ s', DtL (α := D e) H s' [x] ∧ us = s'.set ((1 - 1) * Dt.sz (D e) + f) (.slice A n c) := by
  have h1 := hu.set f (show Rv H ρ (.slice none 0 0) (.fsl e' []) from ⟨none, 0, 0, [], rfl, Fz.nil⟩)
  refine ⟨_, DtL.single (ofC_ok htb hx h1), ?_⟩
  rw [Nat.sub_self, Nat.zero_mul, Nat.zero_add, List.set_set]
  apply List.ext_getElem?
  intro j
  by_cases hj : j = f
  · subst hj
    rw [List.getElem?_set_self (by omega)]
    exact hh
  · rw [List.getElem?_set_ne (Ne.symm hj)]
theorem apartE_ok (htb : TbOk tb) (hs : Sat fr F w0 H0 R H ρ L st σ w) {op : Op} {f e' : Nat} {gs : List Prop} {v : SV D} {st' : St D} (hd : isDefer op = false) (h : apartE P tb st fr op f e' = some (gs, v, st')) (hg : AllP gs) : Dn P σ op ty w (OutN st.nx fr F w0 H0 R H ρ σ st' v) := by
  unfold apartE at h
  split at h
  · rename_i t ps
    split at h
    · rename_i vs e bts hvs ht
      split at h
      · rename_i z hz
        split at h
        · rename_i cs hc
          have hh := cif h
          clear h
          obtain ⟨hb, h⟩ := hh
          simp only [Bool.and_eq_true] at hb
          obtain ⟨hb1, hb2, hb3⟩ := hb
          have hb2 := Nat.eq_of_beq_eq_true hb2
          have hf : f < Dt.sz (D e) := by simpa [Nat.blt_eq] using hb3
          have hV := opVals_ok hs hvs
          have hV' : RvL H ρ (ps.toList.map fun p => ev σ p.2) vs := by
            have hv' := hV
            simp only [Op.operands, List.map_map] at hv'
            exact hv'
          obtain ⟨zv, hz1, hz2⟩ := zcE_ok hz
          obtain ⟨us, hu, hu2⟩ := fillS_ok (zipP_ok hV') (repS_ok (hz2 H ρ) 1) hc
          have hul : us.length = 1 * Dt.sz (D e) := by rw [RvL.length hu2]; exact hb2
          split at h
          · rename_i x hx
            split at h
            · rename_i hcf
              cases h
              obtain ⟨u0, hu0, hu1⟩ := hu2.get hcf
              obtain rfl : u0 = .slice none 0 0 := hu1
              obtain ⟨s', hs1, hs2⟩ := apart_last htb hu2 hx hf (by rw [hul, Nat.one_mul]) hu0
              obtain ⟨hle1, hsat1⟩ := hs.new (q := .r none 0 0) (b := .row e' []) (S := [.row (.slice none 0 0) e' (Dt.sz (D e')) 0 []]) (Hp.le.refl _) ⟨none, 0, 0, [], RM.put_same _ _ _, rfl, DtL.nil, rfl⟩ (hs.mem.nilRow e' (Dt.sz (D e')))
              intro r md N ops l2 Q Dd d pos af gd hg hd k
              refine RW.buildSlice hsat1.mem (slOf_ok ht) hz1 _ us (Nat.le_of_ble_eq_true hb1) rfl hu hul (by decide) hg hd fun b w' hM => k _ _ ?_
              obtain ⟨H2, ρ2, L2, a1, a2, a3, a4, a5⟩ := hsat1.outNew (q := .r (some ⟨b, 0, none⟩) 1 1) (b := .lrw e [x] f st.nx) (v := .own (st.nx + 1)) (x := .slice (some ⟨b, 0, none⟩) 1 1) (S := [.row (.slice (some ⟨b, 0, none⟩) 1 1) e (Dt.sz (D e)) 1 us]) (Hp.le.refl _) ⟨_, _, _, us, s', none, 0, 0, RM.put_same _ _ _, hsat1.fresh _ _ _ (RM.put_same _ _ _), rfl, hs1, rfl, hf, hs2⟩ hM ⟨_, _, _, RM.put_same _ _ _, rfl⟩
              exact ⟨H2, ρ2, L2, a1, hle1.trans a2, fun id hid => (a3 id (by show id < st.nx + 1; omega)).trans (RM.put_ne _ _ (Nat.ne_of_lt hid)), a4, a5⟩
            · rename_i k hcf
              cases h
              obtain ⟨u0, hu0, A0, n0, c0, hk0, rfl⟩ := hu2.get hcf
              obtain ⟨s', hs1, hs2⟩ := apart_last htb hu2 hx hf (by rw [hul, Nat.one_mul]) hu0
              intro r md N ops l2 Q Dd d pos af gd hg hd kk
              refine RW.buildSlice hs.mem (slOf_ok ht) hz1 _ us (Nat.le_of_ble_eq_true hb1) rfl hu hul (by decide) hg hd fun b w' hM => kk _ _ ?_
              exact (hs.outNew (q := .r (some ⟨b, 0, none⟩) 1 1) (b := .lrw e [x] f k) (v := .own st.nx) (x := .slice (some ⟨b, 0, none⟩) 1 1) (S := [.row (.slice (some ⟨b, 0, none⟩) 1 1) e (Dt.sz (D e)) 1 us]) (Hp.le.refl _) ⟨_, _, _, us, s', A0, n0, c0, RM.put_same _ _ _, hs.fresh _ _ _ hk0, rfl, hs1, rfl, hf, hs2⟩ hM ⟨_, _, _, RM.put_same _ _ _, rfl⟩)
            · cases h
          · cases h
        · cases h
      · cases h
    · cases h
  · split at h
    · rename_i id r hvs
      split at h
      · rename_i e xs f' k hl
        split at h
        · rename_i vs hvs2
          obtain ⟨H1, L1, hle1, hs1⟩ := hs.frz k
          have hV := opVals_ok hs1 hvs2
          intro r md N ops l2 Q Dd d pos af gd hg' hd' kk
          refine opE_ok htb hs1 hd hV h hg hg' hd' fun x w' ho => kk _ _ ?_
          obtain ⟨H2, ρ2, L2, a1, a2, a3, a4, a5⟩ := ho
          exact ⟨H2, ρ2, L2, hle1.trans a1, a2, fun id hid => a3 id (by rw [(frz_sl st k).2.2]; exact hid), a4, a5⟩
        · cases h
      · cases h
    · rename_i vs _ hvs
      have hV := opVals_ok hs hvs
      intro r md N ops l2 Q Dd d pos af gd hg' hd' kk
      exact opE_ok htb hs hd hV h hg hg' hd' fun x w' ho => kk _ _ ho
    · cases h
  · rename_i t x y u
    split at h
    · rename_i k a l b hvs
      obtain ⟨hk, h⟩ := oif h
      obtain ⟨hl, h⟩ := oif h
      subst hk; subst hl
      cases h
      have hV := opVals_ok hs hvs
      obtain ⟨u1, r1, e1, g1, u2, r2, e2, g2, _⟩ := hV
      have e3 : [ev σ x, ev σ y] = u1 :: u2 :: r2 := by rw [← e2]; exact e1
      obtain ⟨rfl, rfl⟩ : ev σ x = u1 ∧ ev σ y = u2 := by
        injection e3 with h1 h2
        injection h2 with h3 h4
        exact ⟨h1, h3⟩
      have g1 : ev σ x = .int .i64 a := g1
      have g2 : ev σ y = .int .i64 b := g2
      have h2 := Ex.subW (P := P) (ty := ty) (w := w) (t := t) (u := u) g1 g2
      have h3 : Rv H ρ (.int .i64 (IntKind.wrap .i64 (a - b))) (.i .i64 (IntKind.wrap .i64 (a - b)) : SV D) := rfl
      intro r md N ops l2 Q Dd d pos af gd hg' hd' kk
      exact Dn.ex h2 hd (hs.out h3 st.nx) hg' hd' kk
    · cases h
  · cases h
end
end
section
structure PE where
  pos : List Nat
  fz : List Nat
  kp : List Nat
  tp : Tp
  sure : Bool
def eqL : List Nat → List Nat → Bool
  | [], [] => true
  | a :: l, b :: m => Nat.beq a b && eqL l m
  | _, _ => false
def CapsR {D : Nat → Type} [∀ t, Dt (D t)] (H : Hp) : (cs : List Nat) → TupD D cs → List Value → Prop
  | [], _, vs => vs = []
  | t :: r, x, vs => ∃ b us q, vs = .pointer (some ⟨b, 0, none⟩) :: q ∧ H b = some (.cells (us : List Value).toArray t (0, 0)) ∧ Dt.rd (α := D t) H us x.1 ∧ CapsR H r x.2 q
structure It (D : Nat → Type) where
  f : Nat
  cs : List Nat
  ts : List Nat
  W : TupD D cs → List (TupD D ts) → Prop
def It.Ok {D : Nat → Type} [∀ t, Dt (D t)] (P : Program) (G : Hp → Prop) (it : It D) : Prop := ∀ (x : TupD D it.cs) (l : List (TupD D it.ts)), it.W x l → ∀ (H : Hp) (lb : List Value), G H → CapsR H it.cs x lb → IterR P it.f lb H l.length fun k vs => ∃ y, l[k]? = some y ∧ ArgsR P H it.ts y vs
def ItsOk {D : Nat → Type} [∀ t, Dt (D t)] (P : Program) (G : Hp → Prop) : List (It D) → Prop
  | [] => True
  | c :: r => c.Ok P G ∧ ItsOk P G r
def findI {D : Nat → Type} (f : Nat) : List (It D) → Option (It D)
  | [] => none
  | c :: r => bif Nat.beq c.f f then some c else findI f r
theorem findI_ok {D : Nat → Type} [∀ t, Dt (D t)] {P : Program} {G : Hp → Prop} {f : Nat} {c : It D} : ∀ {l : List (It D)}, ItsOk P G l → findI f l = some c → c.Ok P G ∧ c.f = f
  | [], _, h => by cases h
  | d :: r, hk, h => by
    unfold findI at h
    cases hb : Nat.beq d.f f with
    | true => rw [hb] at h; cases h; exact ⟨hk.1, Nat.eq_of_beq_eq_true hb⟩
    | false => rw [hb] at h; exact findI_ok hk.2 h
structure Tn (D : Nat → Type) where
  f : Nat
  e : Nat
  gs : List Nat
  W : List (D e) → (List (D e) → Prop) → Prop
def fnVs (gs : List Nat) : List Value := gs.map fun g => .func (.func g) #[] #[]
def Tn.Ok {D : Nat → Type} [∀ t, Dt (D t)] (P : Program) (G : Hp → Prop) (t : Tn D) : Prop := ∀ (xs : List (D t.e)) (Φ : List (D t.e) → Prop), t.W xs Φ → ∀ (H : Hp) (w : World) (base : Nat) (v : Value) (n : Nat) (s : List Value), G H → (∀ b o, H b = some o → w.heap[b]? = some o) → (∀ b, v.ownBlock = some b → H b = none) →
  w.ownsRow base t.e (Dt.sz (D t.e)) v n s → n = xs.length → DtL (α := D t.e) H s xs → Calls P t.f (v :: fnVs t.gs).toArray w fun e w' => e = .returned (.tuple #[]) ∧ ∃ (ys : List (D t.e)) (s' : List Value), Φ ys ∧ DtL (α := D t.e) H s' ys ∧ ys.length = xs.length ∧ w.grownBy w' v.ownBlock ∧ w.drawn ≤ w'.drawn ∧ w'.ownsRow base t.e (Dt.sz (D t.e)) v n s'
def TnsOk {D : Nat → Type} [∀ t, Dt (D t)] (P : Program) (G : Hp → Prop) : List (Tn D) → Prop
  | [] => True
  | c :: r => c.Ok P G ∧ TnsOk P G r
def findT {D : Nat → Type} (f : Nat) : List (Tn D) → Option (Tn D)
  | [] => none
  | c :: r => bif Nat.beq c.f f then some c else findT f r
theorem findT_ok {D : Nat → Type} [∀ t, Dt (D t)] {P : Program} {G : Hp → Prop} {f : Nat} {c : Tn D} : ∀ {l : List (Tn D)}, TnsOk P G l → findT f l = some c → c.Ok P G ∧ c.f = f
  | [], _, h => by cases h
  | d :: r, hk, h => by
    unfold findT at h
    cases hb : Nat.beq d.f f with
    | true => rw [hb] at h; cases h; exact ⟨hk.1, Nat.eq_of_beq_eq_true hb⟩
    | false => rw [hb] at h; exact findT_ok hk.2 h
structure Env (D : Nat → Type) where
  P : Program
  tb : Tb D
  cts : List (Ct D)
  plan : List PE
  its : List (It D)
  G : Hp → Prop
  tns : List (Tn D)
  sp : List (List Nat × Nat)
def CtsOk {D : Nat → Type} [∀ t, Dt (D t)] (P : Program) (tb : Tb D) (G : Hp → Prop) : List (Ct D) → Prop
  | [] => True
  | c :: r => c.Ok P tb G ∧ CtsOk P tb G r
structure Env.Ok {D : Nat → Type} [∀ t, Dt (D t)] (E : Env D) : Prop where
  tb : TbOk E.tb
  cts : CtsOk E.P E.tb E.G E.cts
  mo : E.P.follows .mixedOrders = true
  its : ItsOk E.P E.G E.its
  gm : GUp E.G
  tns : TnsOk E.P E.G E.tns
def entB (P : Program) (f : Nat) : Bool := match P.funcs[f]? with
  | some fn => !(fn.name == "runtime.NumGoroutine") && fn.body.isSome
  | none => false
theorem entB_ok {P : Program} {f : Nat} (h : entB P f = true) : Enters P f := by
  unfold entB at h
  split at h
  · rename_i fn hf
    rw [Bool.and_eq_true] at h
    obtain ⟨c, hc⟩ := Option.isSome_iff_exists.1 h.2
    exact enters_of hf (by simpa using h.1) hc
  · cases h
def findC {D : Nat → Type} (f : Nat) : List (Ct D) → Option (Ct D)
  | [] => none
  | c :: r => bif Nat.beq c.f f then some c else findC f r
theorem findC_ok {D : Nat → Type} [∀ t, Dt (D t)] {P : Program} {tb : Tb D} {G : Hp → Prop} {f : Nat} {c : Ct D} : ∀ {l : List (Ct D)}, CtsOk P tb G l → findC f l = some c → c.Ok P tb G ∧ c.f = f
  | [], _, h => by cases h
  | d :: r, hk, h => by
    unfold findC at h
    cases hb : Nat.beq d.f f with
    | true => rw [hb] at h; cases h; exact ⟨hk.1, Nat.eq_of_beq_eq_true hb⟩
    | false => rw [hb] at h; exact findC_ok hk.2 h
section
variable {D : Nat → Type} [∀ t, Dt (D t)]
abbrev AndL : List Prop → Prop → Prop
  | [], X => X
  | g :: r, X => g ∧ AndL r X
theorem AndL_ok : ∀ {gs : List Prop} {X : Prop}, AndL gs X → AllP gs ∧ X
  | [], _, h => ⟨trivial, h⟩
  | _ :: _, _, ⟨h1, h2⟩ => ⟨⟨h1, (AndL_ok h2).1⟩, (AndL_ok h2).2⟩
abbrev askF (v : SV D) (a b : Prop) : Prop := match v with
  | .b x => (x = true → a) ∧ (¬ x = true → b)
  | .p p _ => (p → a) ∧ (¬ p → b)
  | _ => False
theorem askF_ok {H : Hp} {ρ : RM} {x : Value} {v : SV D} {a b : Prop} (hx : Rv H ρ x v) (h : askF v a b) : (x = .bool true ∧ a) ∨ (x = .bool false ∧ b) := by
  unfold askF at h
  split at h
  · rename_i y
    cases y with
    | true => exact .inl ⟨hx, h.1 rfl⟩
    | false => exact .inr ⟨hx, h.2 (by simp)⟩
  · rename_i p d
    by_cases hp : p
    · exact .inl ⟨(show x = _ from hx).trans (by rw [decide_eq_true hp]), h.1 hp⟩
    · exact .inr ⟨(show x = _ from hx).trans (by rw [decide_eq_false hp]), h.2 hp⟩
  · exact h.elim
def St.know (st : St D) (c : Operand) (b : Bool) : St D := match c with
  | .tmp t => ⟨setS st.sl t (.k b), st.bk, st.kn, st.nx⟩
  | _ => st
theorem Sat.know {fr : List (Nat × Blk D)} {F : List Ent} {w0 w : World} {H0 H : Hp} {R : List Ent} {ρ : RM} {L : List Ent} {st : St D} {σ : Nat → Value} (hs : Sat fr F w0 H0 R H ρ L st σ w) {c : Operand} {b : Bool} (hc : ev σ c = .bool b) : Sat fr F w0 H0 R H ρ L (st.know c b) σ w := by
  unfold St.know
  split
  · rename_i t
    refine ⟨hs.mem, fun u v hu => ?_, hs.bk, hs.fr, hs.kn, hs.nx⟩
    have hu : getS (setS st.sl t (.k b)) u = some v := hu
    rw [getS_setS] at hu
    cases hb : Nat.beq u t with
    | true =>
      rw [hb] at hu
      cases hu
      obtain rfl := Nat.eq_of_beq_eq_true hb
      exact hc
    | false => rw [hb] at hu; exact hs.sl u v hu
  · exact hs
inductive Gd (D : Nat → Type) where
  | yes | no | bad
  | ask (t : Nat) (v : SV D) (want : Bool)
def isBoolV : Value → Bool
  | .bool _ => true
  | _ => false
def gdE (ops : Array Oper) (st : St D) (gd : Option (Nat × Bool)) : Gd D := match gd with
  | none => .yes
  | some (j, want) => match (ops[j]?).bind (·.dst) with
    | none => .no
    | some d => match (getS st.sl d).map (res st.kn) with
      | some (.k b) => bif b == want then .yes else .no
      | some (.c v) => bif isBoolV v then .bad else .no
      | some (.b x) => .ask d (.b x) want
      | some (.p p i) => .ask d (.p p i) want
      | _ => .bad
abbrev CallI (D : Nat → Type) := Nat → List (SV D) → St D → List (Nat × Blk D) → List Nat → (SV D → St D → Prop) → (Exit → St D → Prop) → Prop
def CallOk (P : Program) (G : Hp → Prop) (cI : CallI D) : Prop := ∀ (f : Nat) (vs : List (SV D)) (st : St D) (fr : List (Nat × Blk D)) (pos : List Nat) (K : SV D → St D → Prop) (kp : Exit → St D → Prop) (F : List Ent) (w0 : World) (H0 : Hp) (R : List Ent) (H : Hp) (ρ : RM) (L : List Ent) (σ : Nat → Value) (w : World) (xs : List Value),
  cI f vs st fr pos K kp → G H0 → Sat fr F w0 H0 R H ρ L st σ w → RvL H ρ xs vs → Enters P f ∧ Calls P f xs.toArray w fun e w' => (∃ v, e = .returned v ∧ ∃ s st', K s st' ∧ Out fr F w0 H0 R H ρ (fun _ => undef) ⟨[], st'.bk, st'.kn, st'.nx⟩ s v w') ∨
    ∃ c, e = .panicked c ∧ ∃ st' H' ρ' L', kp (.panic c) st' ∧ H.le H' ∧ RM.le ρ ρ' ∧ Sat fr F w0 H0 R H' ρ' L' (⟨[], st'.bk, st'.kn, st'.nx⟩ : St D) (fun _ => undef) w'
def fnB (g : Nat) : SV D → Bool
  | .fn f l => match l with
    | [] => Nat.beq g f
    | _ :: _ => false
  | _ => false
def fnsB : List Nat → List (SV D) → Bool
  | [], l => match l with
    | [] => true
    | _ :: _ => false
  | g :: gs, l => match l with
    | [] => false
    | v :: r => fnB g v && fnsB gs r
theorem fnB_ok {H : Hp} {ρ : RM} {g : Nat} {v : SV D} {x : Value} (h : fnB g v = true) (hv : Rv H ρ x v) : x = .func (.func g) #[] #[] := by
  unfold fnB at h
  split at h
  · split at h
    · obtain ⟨cs, e1, e2⟩ := hv
      obtain rfl : cs = [] := e2
      rw [e1, Nat.eq_of_beq_eq_true h]
    · cases h
  · cases h
theorem fnsB_ok {H : Hp} {ρ : RM} : ∀ {gs : List Nat} {vs : List (SV D)} {xs : List Value}, fnsB gs vs = true → RvL H ρ xs vs → xs = fnVs gs
  | [], [], _, _, h => h
  | [], _ :: _, _, h, _ => by cases h
  | _ :: _, [], _, h, _ => by cases h
  | g :: gs, v :: r, xs, h, ⟨x, q, e, h1, h2⟩ => by
    have h : (fnB g v && fnsB gs r) = true := h
    rw [Bool.and_eq_true] at h
    rw [e, fnB_ok h.1 h1, fnsB_ok h.2 h2]; rfl
abbrev tnF (t : Tn D) (st : St D) (fr : List (Nat × Blk D)) (xs : List Operand) (K : SV D → St D → Prop) : Prop := match vals2 st fr xs with
  | some (.own id :: r) => cdP (fnsB t.gs r) (match gtB st.bk id with
    | some (.row e zs) => match castL e t.e zs with
      | some ys => t.W ys fun ys' => K (.tup []) ⟨st.sl, setB st.bk id (id, .row t.e ys'), st.kn, st.nx⟩
      | none => False
    | _ => False) False
  | _ => False
abbrev inlE (cI : CallI D) (fr : List (Nat × Blk D)) (pos : List Nat) (f : Nat) (caps : List (SV D)) (xs : List Operand) (d : Option Nat) (st : St D) (K : St D → Prop) (kp : Exit → St D → Prop) : Prop := match mapO (evO st.sl) xs with
  | some vs => cI f (vs ++ caps) st fr pos (fun s st' => K ⟨putS st.sl d s, st'.bk, st'.kn, st'.nx⟩) fun e st' => kp e ⟨st.sl, st'.bk, st'.kn, st'.nx⟩
  | none => False
def callE (E : Env D) (cI : CallI D) (fr : List (Nat × Blk D)) (pos : List Nat) (g : Operand) (xs : List Operand) (d : Option Nat) (st : St D) (K : St D → Prop) (kp : Exit → St D → Prop) : Prop := match (evO st.sl g).map (res st.kn) with
  | some (.fn f caps) => match caps with
    | [] => match findC f E.cts with
      | some c => cdP (entB E.P f) (ctF E.P E.tb c st fr xs fun s st' => K (st'.put d s)) False
      | none => match findT f E.tns with
        | some t => cdP (entB E.P f) (tnF t st fr xs fun s st' => K (st'.put d s)) False
        | none => inlE cI fr pos f [] xs d st K kp
    | u :: r => inlE cI fr pos f (u :: r) xs d st K kp
  | _ => False
def toV : SV D → Option Value
  | .i k n => some (.int k n)
  | .k b => some (.bool b)
  | .b b => some (.bool b)
  | _ => none
theorem toV_ok {H : Hp} {ρ : RM} {x v : Value} {s : SV D} (h : toV s = some v) (hx : Rv H ρ x s) : x = v := by
  cases s <;> first | (cases h; exact hx) | cases h
theorem toVs_ok {H : Hp} {ρ : RM} : ∀ {l : List (SV D)} {xs vs : List Value}, mapO toV l = some vs → RvL H ρ xs l → xs = vs
  | [], xs, vs, h, hx => by cases h; exact hx
  | s :: l, xs, vs, h, ⟨y, q, e, h1, h2⟩ => by
    unfold mapO at h
    split at h
    · cases h
    · rename_i u hu
      split at h
      · cases h
      · rename_i us hus
        cases h
        rw [e, toV_ok hu h1, toVs_ok hus h2]
def strcB (P : Program) (t : Nat) : Bool := match P.underlying t with
  | some (.struct _) => true
  | _ => false
theorem strcB_ok {P : Program} {t : Nat} (h : strcB P t = true) : ∃ fs, P.underlying t = some (.struct fs) := by
  unfold strcB at h
  split at h
  · rename_i fs hf; exact ⟨fs, hf⟩
  · cases h
def ifcB (P : Program) (t : Nat) : Bool := match P.underlying t with
  | some (.interface _) => true
  | _ => false
theorem ifcB_ok {P : Program} {t : Nat} (h : ifcB P t = true) : ∃ ms, P.underlying t = some (.interface ms) := by
  unfold ifcB at h
  split at h
  · rename_i fs hf; exact ⟨fs, hf⟩
  · cases h
def nqI : Op → Option (Nat × Operand)
  | .binOp o t x y _ => match o with
    | .neq => match y with
      | .const v => match v with
        | .nilIface => some (t, x)
        | _ => none
      | _ => none
    | _ => none
  | _ => none
theorem nqI_ok {op : Op} {t : Nat} {x : Operand} (h : nqI op = some (t, x)) : ∃ u, op = .binOp .neq t x (.const .nilIface) u := by
  unfold nqI at h
  split at h
  · split at h
    · split at h
      · split at h
        · cases h; exact ⟨_, rfl⟩
        · cases h
      · cases h
    · cases h
  · cases h
def stepE (E : Env D) (cI : CallI D) (fr : List (Nat × Blk D)) (pos : List Nat) (o : Oper) (st : St D) (K : St D → Prop) (kp : Exit → St D → Prop) : Prop := match o.op with
  | .move x => match evO st.sl x with
    | some v => K (st.put o.dst v)
    | none => False
  | .assign x => match evO st.sl x with
    | some v => match findSp pos E.sp with
      | none => K (st.put o.dst v)
      | some _ => match setlE E.tb st v with
        | some (v', st') => K (st'.put o.dst v')
        | none => False
    | none => False
  | .pick c a b => match (evO st.sl c).map (res st.kn), evO st.sl a, evO st.sl b with
    | some (.k true), some v, _ => K (st.put o.dst v)
    | some (.k false), _, some v => K (st.put o.dst v)
    | some s, some v, some u => askF s (K ((st.know c true).put o.dst v)) (K ((st.know c false).put o.dst u))
    | _, _, _ => False
  | .call ⟨.value g, xs, _⟩ => callE E cI fr pos g xs.toList o.dst st K kp
  | .panic x => match (evO st.sl x).map (res st.kn) with
    | some (.c (.iface T u)) => kp (.panic [{ v := .iface T u, recovered := false }]) st
    | _ => False
  | .makeInterface T x => match (evO st.sl x).map (resD st.kn) with
    | some (.agg l) => match mapO toV l with
      | some us => cdP (strcB E.P T) (K (st.put o.dst (.c (.iface T (.agg us.toArray))))) False
      | none => False
    | _ => False
  | .typeAssert x _ T ok => cdP ok (match (evO st.sl x).map (res st.kn) with
    | some (.c (.iface U u)) => cdP (Nat.beq U T && strcB E.P T) (match svC u with
      | some s => K (st.put o.dst (.tup [s, .k true]))
      | none => False) False
    | _ => False) False
  | .next x false => match (evO st.sl x).map fun v => rsD (st.lk fr) (resD st.kn v) with
    | some a => match nxOf E.P (gtB st.bk) (st.lk fr) a with
      | some q => nxF E.P E.tb st o.dst q K
      | none => False
    | none => False
  | op => match nqI op with
   | some (t, x) => match (evO st.sl x).map (res st.kn) with
    | some (.c v) => match v with
      | .nilIface => cdP (ifcB E.P t) (K (st.put o.dst (.k false))) False
      | .iface _ _ => cdP (ifcB E.P t) (K (st.put o.dst (.k true))) False
      | _ => False
    | _ => False
   | none => cdP (isDefer op) False <| match findSp pos E.sp with
    | some f => match apartE E.P E.tb st fr op (f % 1000) (f / 1000) with
      | some (gs, v, st') => AndL gs (K (st'.put o.dst v))
      | none => False
    | none => match opVals st fr op with
     | some vs0 => match opVals (st.frzL (prepIds op vs0)) fr op with
      | some vs => match nqE E.P op ((st.frzL (prepIds op vs0)).lk fr) vs with
        | some (p, b) => (p → K ((st.frzL (prepIds op vs0)).put o.dst (.k b))) ∧ K ((st.frzL (prepIds op vs0)).put o.dst (.k (!b)))
        | none => match opE E.P E.tb (st.frzL (prepIds op vs0)) fr op vs with
          | some (gs, v, st') => AndL gs (K (st'.put o.dst v))
          | none => False
      | none => False
     | none => False
def runR (E : Env D) (cI : CallI D) (N : Nat) (fr : List (Nat × Blk D)) (pos : List Nat) (ops : Array Oper) : Nat → List Oper → St D → (St D → Prop) → (Exit → St D → Prop) → Prop
  | _, [], st, K, _ => K st
  | i, o :: l, st, K, kp => cdP (dstOk o.dst N) (match gdE ops st o.guard with
    | .yes => stepE E cI fr ((10 + i) :: pos) o st (fun st' => runR E cI N fr pos ops (i + 1) l st' K kp) kp
    | .no => runR E cI N fr pos ops (i + 1) l (st.put o.dst (.c undef)) K kp
    | .ask t v want => askF v
        (cdP want (stepE E cI fr ((10 + i) :: pos) o (st.know (.tmp t) true) (fun st' => runR E cI N fr pos ops (i + 1) l st' K kp) kp) (runR E cI N fr pos ops (i + 1) l ((st.know (.tmp t) true).put o.dst (.c undef)) K kp))
        (cdP want (runR E cI N fr pos ops (i + 1) l ((st.know (.tmp t) false).put o.dst (.c undef)) K kp) (stepE E cI fr ((10 + i) :: pos) o (st.know (.tmp t) false) (fun st' => runR E cI N fr pos ops (i + 1) l st' K kp) kp))
    | .bad => False) False
variable {E : Env D} {cI : CallI D} {fr : List (Nat × Blk D)} {F : List Ent} {w0 w : World} {H0 H : Hp} {R : List Ent} {ρ : RM} {L : List Ent} {st : St D} {σ : Nat → Value}
def Goes (fr : List (Nat × Blk D)) (F : List Ent) (w0 : World) (H0 : Hp) (R : List Ent) (H : Hp) (ρ : RM) (K : St D → Prop) (T : (Nat → Value) → World → Prop) : Prop := ∀ st' σ' w' H' ρ' L', K st' → H.le H' → RM.le ρ ρ' → Sat fr F w0 H0 R H' ρ' L' st' σ' w' → T σ' w'
theorem Goes.mono {H' : Hp} {ρ' : RM} {K : St D → Prop} {T : (Nat → Value) → World → Prop} (h : Goes fr F w0 H0 R H ρ K T) (hH : H.le H') (hρ : RM.le ρ ρ') : Goes fr F w0 H0 R H' ρ' K T := fun st σ w H2 ρ2 L hk h1 h2 hs => h st σ w H2 ρ2 L hk (hH.trans h1) (hρ.trans h2) hs
theorem Goes.go {K : St D → Prop} {T : (Nat → Value) → World → Prop} (h : Goes fr F w0 H0 R H ρ K T) (hk : K st) (hs : Sat fr F w0 H0 R H ρ L st σ w) : T σ w := h _ _ _ _ _ _ hk (Hp.le.refl _) (RM.le.refl _) hs
theorem mapEv_ok (hs : Sat fr F w0 H0 R H ρ L st σ w) : ∀ {xs : List Operand} {vs : List (SV D)}, mapO (evO st.sl) xs = some vs → RvL H ρ (xs.map (ev σ)) vs
  | [], vs, h => by cases h; rfl
  | x :: r, vs, h => by
    unfold mapO at h
    split at h
    · cases h
    · rename_i y hy
      split at h
      · cases h
      · rename_i l hl
        cases h
        exact ⟨_, _, rfl, evO_ok hs.sl hy, mapEv_ok hs hl⟩
theorem Out.put {v : SV D} {x : Value} (h : Out fr F w0 H0 R H ρ σ st v x w) (d : Option Nat) {K : St D → Prop} {T : (Nat → Value) → World → Prop} (hg : Goes fr F w0 H0 R H ρ K T) (hk : K (st.put d v)) : T (upd σ d x) w := by
  obtain ⟨H', ρ', L, h1, h2, h3, h4⟩ := h
  exact hg _ _ _ _ _ _ hk h1 h2 (h3.put h4 d)
theorem tnF_ok {G : Hp → Prop} (hG : GUp G) {P : Program} (h0 : G H0) (hs : Sat fr F w0 H0 R H ρ L st σ w) {c : Tn D} (hc : c.Ok P G) (he : Enters P c.f) {g : Operand} {xs : Array Operand} {tys : Array TypeId} {ty : TypeId} (hg : ev σ g = .func (.func c.f) #[] #[]) {K : SV D → St D → Prop} (h : tnF c st fr xs.toList K) :
    Dn P σ (.call { callee := .value g, args := xs, argTypes := tys }) ty w fun x w' => ∃ s st', K s st' ∧ st'.sl = st.sl ∧ st'.kn = st.kn ∧ OutN st.nx fr F w0 H0 R H ρ σ st' s x w' := by
  unfold tnF at h
  split at h
  · rename_i id vr hv
    obtain ⟨hfn, h⟩ := cifP h
    split at h
    · rename_i e zs hl
      split at h
      · rename_i ys hcs
        obtain ⟨he, hy⟩ := castL_ok hcs
        subst he
        have hy : zs = ys := hy.symm
        subst hy
        obtain ⟨x, q, e1, ⟨A, n, cc, f1, rfl⟩, e2⟩ := opVals_ok hs hv
        obtain ⟨L1, S, L2, ⟨A', n', c', s, g1, rfl, g3, g4⟩, hM, hK⟩ := hs.write hl
        rw [f1] at g1; cases g1
        obtain rfl := fnsB_ok hfn e2
        have hE := hM.holds _ (List.mem_of_getElem? (get_at L1 _ _))
        have hH := hM.hapart _ (List.mem_of_getElem? (get_at L1 _ _))
        have hR := hc _ _ h H w _ (.slice A n cc) n s (hG _ _ h0 hM.old) hM.agree hH hE g4 g3
        intro r md N ops l Q Dd d pos af gd hgd hd k
        refine RW.enter (R := fun v w' => v = .tuple #[] ∧ ∃ (ys : List (D c.e)) (s' : List Value), K (.tup []) ⟨st.sl, setB st.bk id (id, .row c.e ys), st.kn, st.nx⟩ ∧ DtL (α := D c.e) H s' ys ∧ ys.length = zs.length ∧ w.grownBy w' (Value.ownBlock (.slice A n cc)) ∧ w.drawn ≤ w'.drawn ∧ w'.ownsRow w0.heap.size c.e (Dt.sz (D c.e)) (.slice A n cc) n s') he hg (by rw [e1]; simp) hgd hd (hR.mono fun e w' ⟨k1, k2⟩ => ⟨_, k1, rfl, k2⟩) fun v w' ⟨hv', zs', s', hy, k1, k2, k3, kd, k4⟩ => k v w' ?_
        subst hv'
        have hM' := hM.turn L1.length (get_at L1 _ _) k3 (E' := .row (.slice A n cc) c.e (Dt.sz (D c.e)) n s') k4 (.inl rfl) kd
        rw [set_at] at hM'
        exact ⟨_, _, hy, rfl, rfl, H, ρ, _, Hp.le.refl _, RM.le.refl _, fun _ _ => rfl, hK (Hp.le.refl _) (RM.le.refl _) ⟨A, n, cc, s', f1, rfl, k1, by omega⟩ hM' hs.nx, [], rfl, rfl⟩
      · exact h.elim
    · exact h.elim
  · exact h.elim
theorem callE_ok (hE : E.Ok) (h0 : E.G H0) (hI : CallOk E.P E.G cI) {pos : List Nat} {g : Operand} {xs : Array Operand} {tys : Array TypeId} {d : Option Tmp} {ty : TypeId} {ps : String} {af : Array Edge} {gd : Option (Nat × Bool)} {K : St D → Prop} {kp : Exit → St D → Prop} {r : Option Nat} {md N : Nat} {ops : Array Oper} {l : List Oper} {Q : Exit → List Deferred → (Nat → Value) → World → Prop} {Dd : List Deferred} (hs : Sat fr F w0 H0 R H ρ L st σ w) (h : callE E cI fr pos g xs.toList d st K kp)
    (hg : gdOk ops σ gd = true) (hd : dstOk d N = true) (k : Goes fr F w0 H0 R H ρ K fun σ' w' => RW r md E.P N ops l Q Dd σ' w') (kq : ∀ e, Goes fr F w0 H0 R H ρ (kp e) fun σ' w' => Q e Dd σ' w') : RW r md E.P N ops (⟨d, .call ⟨.value g, xs, tys⟩, ty, ps, af, gd⟩ :: l) Q Dd σ w := by
  have inl : ∀ {f : Nat} {caps : List (SV D)} {cs : List Value}, ev σ g = .func (.func f) #[] cs.toArray → RvL H ρ cs caps → inlE cI fr pos f caps xs.toList d st K kp → RW r md E.P N ops (⟨d, .call ⟨.value g, xs, tys⟩, ty, ps, af, gd⟩ :: l) Q Dd σ w := by
    intro f caps cs e1 e2 h
    unfold inlE at h
    split at h
    · rename_i vs hvs
      have hA := (mapEv_ok hs hvs).append e2
      obtain ⟨hen, hcalls⟩ := hI f _ st fr pos _ _ F w0 H0 R H ρ L σ w _ h h0 hs hA
      refine RW.enterP (R := fun v w' => ∃ (s : SV D) (st' : St D), K ⟨putS st.sl d s, st'.bk, st'.kn, st'.nx⟩ ∧ Out fr F w0 H0 R H ρ (fun _ => undef) ⟨[], st'.bk, st'.kn, st'.nx⟩ s v w') hen e1 (by simp) hg hd hcalls (fun v w' ⟨s, st', hk, H', ρ', L', h1, h2, h3, h4⟩ => ?_) fun c w' ⟨st', H', ρ', L', hk, h1, h2, h3⟩ => kq _ _ _ _ _ _ _ hk h1 h2 ⟨h3.mem, hs.sl.mono h1 h2, h3.bk, h3.fr, h3.kn, h3.nx⟩
      exact k _ _ _ _ _ _ hk h1 h2 ⟨h3.mem, (hs.sl.mono h1 h2).put h4 d, h3.bk, h3.fr, h3.kn, h3.nx⟩
    · exact h.elim
  unfold callE at h
  split at h
  · rename_i f caps hf
    obtain ⟨v0, hv0, hv1⟩ := Option.map_eq_some_iff.1 hf
    have hv2 := hs.res (evO_ok hs.sl hv0)
    rw [hv1] at hv2
    obtain ⟨cs, e1, e2⟩ := hv2
    split at h
    · split at h
      · rename_i c hc
        obtain ⟨hen, h2⟩ := cifP h
        obtain ⟨hok, hcf⟩ := findC_ok hE.cts hc
        subst hcf
        obtain rfl : cs = [] := e2
        refine ctF_ok hE.tb hE.gm h0 hs hok (entB_ok hen) e1 h2 hg hd fun x w' ⟨s, st', hk, h1, h2, ho⟩ => ho.out.put d k hk
      · split at h
        · rename_i c hc
          obtain ⟨hen, h2⟩ := cifP h
          obtain ⟨hok, hcf⟩ := findT_ok hE.tns hc
          subst hcf
          obtain rfl : cs = [] := e2
          exact tnF_ok hE.gm h0 hs hok (entB_ok hen) e1 h2 hg hd fun x w' ⟨s, st', hk, h1, h2, ho⟩ => ho.out.put d k hk
        · exact inl e1 e2 h
    · exact inl e1 e2 h
  · exact h.elim
theorem stepE_ok (hE : E.Ok) (h0 : E.G H0) (hI : CallOk E.P E.G cI) {pos : List Nat} {o : Oper} {K : St D → Prop} {kp : Exit → St D → Prop} {r : Option Nat} {md N : Nat} {ops : Array Oper} {l : List Oper} {Q : Exit → List Deferred → (Nat → Value) → World → Prop} {Dd : List Deferred} (hs : Sat fr F w0 H0 R H ρ L st σ w) (h : stepE E cI fr pos o st K kp)
    (hg : gdOk ops σ o.guard = true) (hd : dstOk o.dst N = true) (k : Goes fr F w0 H0 R H ρ K fun σ' w' => RW r md E.P N ops l Q Dd σ' w') (kq : ∀ e, Goes fr F w0 H0 R H ρ (kp e) fun σ' w' => Q e Dd σ' w') : RW r md E.P N ops (o :: l) Q Dd σ w := by
  obtain ⟨d, op, ty, ps, af, gd⟩ := o
  unfold stepE at h
  split at h
  · rename_i x hop
    have hop : op = .move x := hop
    subst hop
    split at h
    · rename_i v hv
      exact RW.step (Ex.move _ rfl) rfl hg hd (k.go h (hs.put (evO_ok hs.sl hv) d))
    · exact h.elim
  · rename_i x hop
    have hop : op = .assign x := hop
    subst hop
    split at h
    · rename_i v hv
      split at h
      · exact RW.step (Ex.assign _ rfl) rfl hg hd (k.go h (hs.put (evO_ok hs.sl hv) d))
      · split at h
        · rename_i v' st' hse
          obtain ⟨H', ρ', L', a1, a2, a3, a4⟩ := setlE_ok hE.tb hs (evO_ok hs.sl hv) hse
          exact RW.step (Ex.assign _ rfl) rfl hg hd (k _ _ _ _ _ _ h a1 a2 (a3.put a4 d))
        · exact h.elim
    · exact h.elim
  · rename_i c a b hop
    have hop : op = .pick c a b := hop
    subst hop
    split at h
    · rename_i v hc ha
      obtain ⟨v0, hv0, hv1⟩ := Option.map_eq_some_iff.1 hc
      have hv2 := hs.res (evO_ok hs.sl hv0)
      rw [hv1] at hv2
      exact RW.step (Ex.pickT _ hv2 rfl) rfl hg hd (k.go h (hs.put (evO_ok hs.sl ha) d))
    · rename_i v hc hb
      obtain ⟨v0, hv0, hv1⟩ := Option.map_eq_some_iff.1 hc
      have hv2 := hs.res (evO_ok hs.sl hv0)
      rw [hv1] at hv2
      exact RW.step (Ex.pickF _ hv2 rfl) rfl hg hd (k.go h (hs.put (evO_ok hs.sl hb) d))
    · rename_i s v u hc ha hb
      obtain ⟨v0, hv0, hv1⟩ := Option.map_eq_some_iff.1 hc
      have hv2 := hs.res (evO_ok hs.sl hv0)
      rw [hv1] at hv2
      rcases askF_ok hv2 h with ⟨e, h⟩ | ⟨e, h⟩
      · exact RW.step (Ex.pickT _ e rfl) rfl hg hd (k.go h ((hs.know e).put (evO_ok hs.sl ha) d))
      · exact RW.step (Ex.pickF _ e rfl) rfl hg hd (k.go h ((hs.know e).put (evO_ok hs.sl hb) d))
    · exact h.elim
  · rename_i g xs tys hop
    have hop : op = .call ⟨.value g, xs, tys⟩ := hop
    subst hop
    exact callE_ok hE h0 hI hs h hg hd k kq
  · rename_i x hop
    have hop : op = .panic x := hop
    subst hop
    split at h
    · rename_i T u hc
      obtain ⟨v0, hv0, hv1⟩ := Option.map_eq_some_iff.1 hc
      have hv2 := hs.res (evO_ok hs.sl hv0)
      rw [hv1] at hv2
      exact RW.panic hv2 hg ((kq _).go h hs)
    · exact h.elim
  · rename_i T x hop
    have hop : op = .makeInterface T x := hop
    subst hop
    split at h
    · rename_i l hl
      obtain ⟨v0, hv0, hv1⟩ := Option.map_eq_some_iff.1 hl
      have hv2 := resD_ok hs (evO_ok hs.sl hv0)
      rw [hv1] at hv2
      obtain ⟨vs, e1, e2⟩ := hv2
      split at h
      · rename_i us hus
        obtain ⟨ht, h⟩ := cifP h
        obtain ⟨fs, hfs⟩ := strcB_ok ht
        obtain rfl := toVs_ok hus e2
        exact RW.step (Ex.mkIfc hfs e1) rfl hg hd (k.go h (hs.put (v := .c _) (show _ = _ from rfl) d))
      · exact h.elim
    · exact h.elim
  · rename_i x xT T ok hop
    have hop : op = .typeAssert x xT T ok := hop
    subst hop
    obtain ⟨hok, h⟩ := cifP h
    subst hok
    split at h
    · rename_i U u hl
      obtain ⟨v0, hv0, hv1⟩ := Option.map_eq_some_iff.1 hl
      have hv2 := hs.res (evO_ok hs.sl hv0)
      rw [hv1] at hv2
      obtain ⟨hq, h⟩ := cifP h
      rw [Bool.and_eq_true] at hq
      obtain rfl := Nat.eq_of_beq_eq_true hq.1
      obtain ⟨fs, hfs⟩ := strcB_ok hq.2
      split at h
      · rename_i s hsv
        exact RW.step (Ex.tyAs hfs hv2) rfl hg hd (k.go h (hs.put (v := .tup [s, .k true]) ⟨[u, .bool true], rfl, u, [.bool true], rfl, svC_ok hsv, .bool true, [], rfl, rfl, rfl⟩ d))
      · exact h.elim
    · exact h.elim
  · rename_i x hop
    have hop : op = .next x false := hop
    subst hop
    split at h
    · rename_i a ha
      obtain ⟨v, hv1, rfl⟩ := Option.map_eq_some_iff.1 ha
      split at h
      · rename_i q hq
        exact nxF_ok hE.tb hs (rsD_ok hs (resD_ok hs (evO_ok hs.sl hv1))) hq h hg hd fun st' σ' w' hk L' hs' => k _ _ _ _ _ _ hk (Hp.le.refl _) (RM.le.refl _) hs'
      · exact h.elim
    · exact h.elim
  · split at h
    · rename_i t x hnq
      obtain ⟨u, hop⟩ := nqI_ok hnq
      have hop : op = .binOp .neq t x (.const .nilIface) u := hop
      subst hop
      split at h
      · rename_i v hv
        obtain ⟨v0, hv0, hv1⟩ := Option.map_eq_some_iff.1 hv
        have hv2 := hs.res (evO_ok hs.sl hv0)
        rw [hv1] at hv2
        split at h
        · obtain ⟨ht, h⟩ := cifP h
          obtain ⟨ms, hms⟩ := ifcB_ok ht
          exact RW.step (Ex.neqIfc0 hms hv2) rfl hg hd (k.go h (hs.put (v := .k false) rfl d))
        · obtain ⟨ht, h⟩ := cifP h
          obtain ⟨ms, hms⟩ := ifcB_ok ht
          exact RW.step (Ex.neqIfc1 hms hv2) rfl hg hd (k.go h (hs.put (v := .k true) rfl d))
        · exact h.elim
      · exact h.elim
    cases hdf : isDefer op with
    | true => rw [hdf] at h; exact (show False from h).elim
    | false =>
      rw [hdf, cdP_false] at h
      split at h
      · split at h
        · rename_i gs v st' hap
          obtain ⟨hgs, hk⟩ := AndL_ok h
          exact apartE_ok hE.tb hs hdf hap hgs hg hd fun x w' ho => ho.out.put d k hk
        · exact h.elim
      split at h
      · rename_i vs0 hvs0
        split at h
        · rename_i vs hvs
          obtain ⟨H1, L1, hle1, hs1⟩ := hs.frzL (prepIds op vs0)
          have hV := opVals_ok hs1 hvs
          split at h
          · rename_i p b hq
            obtain ⟨z, hz1, hz2⟩ := nqE_ok (ty := ty) hs1 hV hq
            refine RW.step hz1 hdf hg hd ?_
            by_cases hzb : z = b
            · exact k _ _ _ _ _ _ (h.1 (hz2 hzb)) hle1 (RM.le.refl _) (hs1.put (v := .k b) (by rw [hzb]; rfl) d)
            · have : z = !b := by cases z <;> cases b <;> simp_all
              exact k _ _ _ _ _ _ h.2 hle1 (RM.le.refl _) (hs1.put (v := .k (!b)) (by rw [this]; rfl) d)
          · split at h
            · rename_i gs v st' ho
              obtain ⟨hgs, hk⟩ := AndL_ok h
              refine opE_ok (ty := ty) hE.tb hs1 hdf hV ho hgs hg hd fun x w' ho' => ho'.out.put d (k.mono hle1 (RM.le.refl _)) hk
            · exact h.elim
        · exact h.elim
      · exact h.elim
theorem runR_ok (hE : E.Ok) (h0 : E.G H0) (hI : CallOk E.P E.G cI) {pos : List Nat} {r : Option Nat} {md N : Nat} {ops : Array Oper} {Q : Exit → List Deferred → (Nat → Value) → World → Prop} {Dd : List Deferred} {K : St D → Prop} {kp : Exit → St D → Prop} : ∀ {l : List Oper} {i : Nat} {st : St D} {H : Hp} {ρ : RM} {L : List Ent} {σ : Nat → Value} {w : World}, Sat fr F w0 H0 R H ρ L st σ w → runR E cI N fr pos ops i l st K kp → Goes fr F w0 H0 R H ρ K (fun σ' w' => Q .normal Dd σ' w') → (∀ e, Goes fr F w0 H0 R H ρ (kp e) fun σ' w' => Q e Dd σ' w') → RW r md E.P N ops l Q Dd σ w
  | [], i, st, H, ρ, L, σ, w, hs, h, k, _ => RW.nil (k.go h hs)
  | o :: l, i, st, H, ρ, L, σ, w, hs, h, k, kq => by
    unfold runR at h
    obtain ⟨hd, h⟩ := cifP h
    have rest : ∀ {st' : St D} {σ' : Nat → Value} {w' : World} {H' : Hp} {ρ' : RM} {L' : List Ent}, runR E cI N fr pos ops (i + 1) l st' K kp → H.le H' → RM.le ρ ρ' → Sat fr F w0 H0 R H' ρ' L' st' σ' w' → RW r md E.P N ops l Q Dd σ' w' := fun h1 h2 h3 h4 => runR_ok hE h0 hI h4 h1 (k.mono h2 h3) fun e => (kq e).mono h2 h3
    have pass : ∀ {st : St D}, Sat fr F w0 H0 R H ρ L st σ w → gdOk ops σ o.guard = false → runR E cI N fr pos ops (i + 1) l (st.put o.dst (.c undef)) K kp → RW r md E.P N ops (o :: l) Q Dd σ w := fun hs hgf h => by
      obtain ⟨d, op, ty, ps, af, gd⟩ := o
      exact RW.pass hgf hd (rest h (Hp.le.refl _) (RM.le.refl _) (hs.putU d))
    have step : ∀ {st : St D}, Sat fr F w0 H0 R H ρ L st σ w → gdOk ops σ o.guard = true → stepE E cI fr ((10 + i) :: pos) o st (fun st' => runR E cI N fr pos ops (i + 1) l st' K kp) kp → RW r md E.P N ops (o :: l) Q Dd σ w := fun hs hgt h => stepE_ok hE h0 hI hs h hgt hd (fun st' σ' w' H' ρ' L' h1 h2 h3 h4 => rest h1 h2 h3 h4) kq
    have gok : ∀ {j want d} {x : Bool}, o.guard = some (j, want) → (ops[j]?).bind (·.dst) = some d → σ d = .bool x → gdOk ops σ o.guard = (x == want) := fun h1 h2 h3 => by
      unfold gdOk
      rw [h1]
      simp only [h2, h3]
    unfold gdE at h
    cases hgd : o.guard with
    | none =>
      simp only [hgd] at h
      exact step hs (by rw [hgd]; rfl) h
    | some jw =>
      obtain ⟨j, want⟩ := jw
      simp only [hgd] at h
      cases hj : (ops[j]?).bind (·.dst) with
      | none =>
        simp only [hj] at h
        refine pass hs ?_ h
        unfold gdOk
        rw [hgd]
        simp only [hj]
      | some d =>
        simp only [hj] at h
        cases hsl : (getS st.sl d).map (res st.kn) with
        | none => simp only [hsl] at h
        | some s =>
          obtain ⟨v0, hv0, hv1⟩ := Option.map_eq_some_iff.1 hsl
          have hv2 := hs.res (hs.sl _ _ hv0)
          rw [hv1] at hv2
          simp only [hsl] at h
          have ask : ∀ {v : SV D}, Rv H ρ (σ d) v → askF v (cdP want (stepE E cI fr ((10 + i) :: pos) o (st.know (.tmp d) true) (fun st' => runR E cI N fr pos ops (i + 1) l st' K kp) kp) (runR E cI N fr pos ops (i + 1) l ((st.know (.tmp d) true).put o.dst (.c undef)) K kp))
              (cdP want (runR E cI N fr pos ops (i + 1) l ((st.know (.tmp d) false).put o.dst (.c undef)) K kp) (stepE E cI fr ((10 + i) :: pos) o (st.know (.tmp d) false) (fun st' => runR E cI N fr pos ops (i + 1) l st' K kp) kp)) → RW r md E.P N ops (o :: l) Q Dd σ w := fun hv h => by
            rcases askF_ok hv h with ⟨e, h⟩ | ⟨e, h⟩
            · have hk := hs.know (c := .tmp d) (b := true) e
              have hgg := gok hgd hj e
              cases want with
              | true => exact step hk hgg h
              | false => exact pass hk hgg h
            · have hk := hs.know (c := .tmp d) (b := false) e
              have hgg := gok hgd hj e
              cases want with
              | true => exact pass hk hgg h
              | false => exact step hk hgg h
          cases s with
          | k b =>
            simp only at h
            have hgg := gok hgd hj (show σ d = .bool b from hv2)
            cases hb : b == want with
            | true => rw [hb] at h; exact step hs (hgg.trans hb) h
            | false => rw [hb] at h; exact pass hs (hgg.trans hb) h
          | c v =>
            simp only at h
            cases hb : isBoolV v with
            | true => rw [hb] at h; exact h.elim
            | false =>
              rw [hb] at h
              refine pass hs ?_ h
              unfold gdOk
              rw [hgd]
              simp only [hj, show σ d = v from hv2]
              cases v <;> first | rfl | cases hb
          | b x => exact ask hv2 h
          | p p i => exact ask hv2 h
          | _ => exact h.elim
end
end
section
section
variable {D : Nat → Type} [∀ t, Dt (D t)]
mutual
def lowV (n : Nat) : SV D → Bool
  | .ptr id _ => Nat.blt id n
  | .own id => Nat.blt id n
  | .oel id _ _ _ => Nat.blt id n
  | .vw id _ _ => Nat.blt id n
  | .mp id => Nat.blt id n
  | .hv id _ _ => Nat.blt id n
  | .lel id _ _ => Nat.blt id n
  | .kp id => Nat.blt id n
  | .agg l => lowL n l
  | .tup l => lowL n l
  | .fn _ l => lowL n l
  | _ => true
def lowL (n : Nat) : List (SV D) → Bool
  | [] => true
  | v :: r => lowV n v && lowL n r
end
theorem blt_lt {a b : Nat} (h : Nat.blt a b = true) : a < b := by simpa [Nat.blt_eq] using h
mutual
theorem lowV_ok {H : Hp} {ρ ρ' : RM} {n : Nat} (hl : ∀ id, id < n → ρ' id = ρ id) : ∀ (s : SV D) {x : Value}, lowV n s = true → Rv H ρ x s → Rv H ρ' x s
  | .i _ _, _, _, h => h
  | .w _, _, _, h => h
  | .y _, _, _, h => h
  | .k _, _, _, h => h
  | .b _, _, _, h => h
  | .p _ _, _, _, h => h
  | .c _, _, _, h => h
  | .nil, _, _, h => h
  | .ptr id off, _, hn, ⟨b, h1, h2⟩ => ⟨b, (hl _ (blt_lt hn)).trans h1, h2⟩
  | .fsl _ _, _, _, h => h
  | .own id, _, hn, ⟨A, n, c, h1, h2⟩ => ⟨A, n, c, (hl _ (blt_lt hn)).trans h1, h2⟩
  | .fel _ _ _ _, _, _, h => h
  | .oel id _ _ _, _, hn, ⟨A, n, c, h1, h2⟩ => ⟨A, n, c, (hl _ (blt_lt hn)).trans h1, h2⟩
  | .agg l, _, hn, ⟨vs, h1, h2⟩ => ⟨vs, h1, lowL_ok hl l (by simpa [lowV] using hn) h2⟩
  | .tup l, _, hn, ⟨vs, h1, h2⟩ => ⟨vs, h1, lowL_ok hl l (by simpa [lowV] using hn) h2⟩
  | .fn _ l, _, hn, ⟨vs, h1, h2⟩ => ⟨vs, h1, lowL_ok hl l (by simpa [lowV] using hn) h2⟩
  | .kp id, _, hn, h => (hl _ (blt_lt hn)).trans h
  | .vw id _ _, _, hn, ⟨A, n, c, A', n', c', h1, h2⟩ => ⟨A, n, c, A', n', c', (hl _ (blt_lt hn)).trans h1, h2⟩
  | .mp id, _, hn, ⟨b, h1, h2⟩ => ⟨b, (hl _ (blt_lt hn)).trans h1, h2⟩
  | .hv id _ _, _, hn, ⟨A, n, c, h1, h2⟩ => ⟨A, n, c, (hl _ (blt_lt hn)).trans h1, h2⟩
  | .st _, _, _, h => h
  | .lel id _ _, _, hn, ⟨A, n, c, h1, h2⟩ => ⟨A, n, c, (hl _ (blt_lt hn)).trans h1, h2⟩
theorem lowL_ok {H : Hp} {ρ ρ' : RM} {n : Nat} (hl : ∀ id, id < n → ρ' id = ρ id) : ∀ (l : List (SV D)) {vs : List Value}, lowL n l = true → RvL H ρ vs l → RvL H ρ' vs l
  | [], _, _, h => h
  | s :: l, _, hn, ⟨v, r, h1, h2, h3⟩ => by
    have hn : lowV n s = true ∧ lowL n l = true := by simpa [lowL, Bool.and_eq_true] using hn
    exact ⟨v, r, h1, lowV_ok hl s hn.1 h2, lowL_ok hl l hn.2 h3⟩
end
def lowB (n : Nat) : Blk D → Bool
  | .box _ cs => lowL n cs
  | .fbx _ cs => lowL n cs
  | .itr mid _ _ => Nat.blt mid n
  | .lrw _ _ _ k => Nat.blt k n
  | _ => true
def lowK (n : Nat) : List (Nat × Blk D) → Bool
  | [] => true
  | (id, b) :: r => Nat.blt id n && (lowB n b && lowK n r)
theorem lowK_ok {H : Hp} {ρ ρ' : RM} {n : Nat} (hl : ∀ id, id < n → ρ' id = ρ id) : ∀ {bk : List (Nat × Blk D)} {L : List Ent}, lowK n bk = true → BkR H ρ bk L → BkR H ρ' bk L
  | [], _, _, h => h
  | (id, b) :: r, _, hn, ⟨S, L', h1, h2, h3⟩ => by
    simp only [lowK, Bool.and_eq_true] at hn
    obtain ⟨g1, g2, g3⟩ := hn
    have e := hl id (blt_lt g1)
    refine ⟨S, L', h1, ?_, lowK_ok hl g3 h3⟩
    cases b with
    | box T cs => obtain ⟨b, vs, k1, k2, k3⟩ := h2; exact ⟨b, vs, e.trans k1, k2, lowL_ok hl cs g2 k3⟩
    | row e' xs => obtain ⟨A, m, c, s, k1, k2⟩ := h2; exact ⟨A, m, c, s, e.trans k1, k2⟩
    | frz e' xs => obtain ⟨k0, A, m, c, s, k1, k2⟩ := h2; exact ⟨k0, A, m, c, s, e.trans k1, k2⟩
    | fbx T cs => obtain ⟨k0, b, vs, k1, k2, k3⟩ := h2; exact ⟨k0, b, vs, e.trans k1, k2, lowL_ok hl cs g2 k3⟩
    | map K V ka va l => obtain ⟨b, es, k1, k2⟩ := h2; exact ⟨b, es, e.trans k1, k2⟩
    | itr mid m seen => obtain ⟨b, c, k1, k2, k3⟩ := h2; exact ⟨b, c, e.trans k1, (hl mid (blt_lt g2)).trans k2, k3⟩
    | lrw e' xs f k => obtain ⟨A, m, c, s, s', A', m', c', k1, k2, k3⟩ := h2; exact ⟨A, m, c, s, s', A', m', c', e.trans k1, (hl k (blt_lt g2)).trans k2, k3⟩
def lowS (n : Nat) : List (Nat × SV D) → Bool
  | [] => true
  | (_, v) :: r => lowV n v && lowS n r
theorem lowS_ok {H : Hp} {ρ ρ' : RM} {n : Nat} (hl : ∀ id, id < n → ρ' id = ρ id) : ∀ {l : List (Nat × SV D)} {σ : Nat → Value}, lowS n l = true → SlR H ρ l σ → SlR H ρ' l σ := by
  intro l
  induction l with
  | nil => intro σ _ _ t v h; cases h
  | cons p r ih =>
    obtain ⟨t0, v0⟩ := p
    intro σ hn hs t v hg
    simp only [lowS, Bool.and_eq_true] at hn
    unfold getS at hg
    cases hb : Nat.beq t t0 with
    | true =>
      rw [hb] at hg
      cases hg
      exact lowV_ok hl v0 hn.1 (hs t v0 (by unfold getS; rw [hb]; rfl))
    | false =>
      rw [hb] at hg
      have hlow : ∀ {l : List (Nat × SV D)} {v : SV D}, lowS n l = true → getS l t = some v → lowV n v = true := by
        intro l
        induction l with
        | nil => intro v _ h; cases h
        | cons q s ih2 =>
          obtain ⟨a, b⟩ := q
          intro v hl h
          simp only [lowS, Bool.and_eq_true] at hl
          unfold getS at h
          cases hc : Nat.beq t a with
          | true => rw [hc] at h; cases h; exact hl.1
          | false => rw [hc] at h; exact ih2 hl.2 h
      exact lowV_ok hl v (hlow hn.2 hg) (hs t v (by unfold getS; rw [hb]; exact hg))
structure Rc (D : Nat → Type) where
  sl : List (Nat × SV D)
  us : List Nat
  bi : List (Nat × Blk D)
  eat : Bool
  lo : Nat
  hi : Nat
  u : SV D
  kv : Option Bool
  g : Bool
  nb : List (Nat × Blk D)
def Quiet (P : Program) (G : Hp → Prop) (fr : List (Nat × Blk D)) (kn : List (Nat × SV D)) (ops : Array Oper) (o : Oper) (rc : Rc D) : Prop :=
  ∀ {F : List Ent} {w0 w : World} {H0 H : Hp} {R : List Ent} {ρ : RM} {L : List Ent} {σ : Nat → Value} {r : Option Nat} {md N : Nat} {Q : Exit → List Deferred → (Nat → Value) → World → Prop} {Dd : List Deferred}, G H0 → Sat fr F w0 H0 R H ρ L ⟨rc.sl, rc.bi, kn, rc.lo⟩ σ w → gdOk ops σ o.guard = rc.g → dstOk o.dst N = true →
    (∀ x w', (∀ M, Mem w0 H0 w H M → Mem w0 H0 w' H M) → Rv H ρ x rc.u → RW r md P N ops [] Q Dd (upd σ o.dst x) w') → RW r md P N ops [o] Q Dd σ w
def Takes (P : Program) (G : Hp → Prop) (fr : List (Nat × Blk D)) (kn : List (Nat × SV D)) (ops : Array Oper) (o : Oper) (rc : Rc D) : Prop :=
  ∀ {F : List Ent} {w0 w : World} {H0 H : Hp} {R : List Ent} {ρ : RM} {L : List Ent} {σ : Nat → Value} {r : Option Nat} {md N : Nat} {Q : Exit → List Deferred → (Nat → Value) → World → Prop} {Dd : List Deferred}, G H0 → Sat fr F w0 H0 R H ρ L ⟨rc.sl, rc.bi, kn, rc.lo⟩ σ w → gdOk ops σ o.guard = rc.g → dstOk o.dst N = true →
    (∀ x w', OutN rc.lo fr F w0 H0 R H ρ (fun _ => undef) ⟨[], rc.nb, kn, rc.hi⟩ rc.u x w' → RW r md P N ops [] Q Dd (upd σ o.dst x) w') → RW r md P N ops [o] Q Dd σ w
def rch (ops : Array Oper) : Nat → Nat → Nat → Bool
  | 0, _, _ => false
  | f + 1, i, j => hasEdge ops i j || (List.range i).any fun k => Nat.blt j k && (hasEdge ops i k && rch ops f k j)
def done (ls : Array Bool) (i : Nat) : Prop := ls.getD i false = true
theorem rch_ok {ops : Array Oper} {ls : Array Bool} (hcl : ∀ i j, done ls i → hasEdge ops i j = true → done ls j) : ∀ (f i j : Nat), rch ops f i j = true → done ls i → done ls j
  | 0, _, _, h, _ => by cases h
  | f + 1, i, j, h, hi => by
    simp only [rch, Bool.or_eq_true, List.any_eq_true, Bool.and_eq_true] at h
    rcases h with h | ⟨k, _, _, h1, h2⟩
    · exact hcl i j hi h
    · exact rch_ok hcl f k j h2 (hcl i k hi h1)
def nbU (recs : List (Rc D)) (bk : List (Nat × Blk D)) (n u : Nat) : List (Nat × Blk D) := bif Nat.blt u n then (match recs[u]? with
    | some r => r.nb
    | none => []) else (match bk[u - n]? with
    | some q => [q]
    | none => [])
def eatsU (recs : List (Rc D)) (k u : Nat) : Bool := match recs[k]? with
  | some r => r.eat && r.us.any (Nat.beq u)
  | none => false
def nodupN : List Nat → Bool
  | [] => true
  | a :: l => !(l.any (Nat.beq a)) && nodupN l
def chkU (ops : Array Oper) (n b : Nat) (recs : List (Rc D)) (i : Nat) (r : Rc D) : Bool := nodupN r.us && r.us.all fun u => Nat.blt u (n + b) && ((!(Nat.blt u n) || rch ops 40 i u) && (List.range n).all fun k => !(eatsU recs k u) || (Nat.beq k i || rch ops 40 k i))
def chkE (ops : Array Oper) (N : Nat) : Bool := ((List.range ops.size).all fun i => match ops[i]? with
    | some o => (o.after.all fun e => !(Region.binds .any e) || Nat.blt e.on i) && dstOk o.dst N
    | none => true) && (List.range ops.size).all fun i => (List.range ops.size).all fun j => Nat.beq i j || !(sameB ops i j)
def chkR (ops : Array Oper) (n b : Nat) (recs : List (Rc D)) : Nat → List (Rc D) → Bool
  | _, [] => true
  | i, r :: l => chkU ops n b recs i r && chkR ops n b recs (i + 1) l
omit [∀ t, Dt (D t)] in
theorem chkR_ok {ops : Array Oper} {n b : Nat} {recs : List (Rc D)} : ∀ {l : List (Rc D)} {i j : Nat} {r : Rc D}, chkR ops n b recs i l = true → l[j]? = some r → chkU ops n b recs (i + j) r = true
  | [], _, _, _, _, h => by cases h
  | q :: l, i, 0, r, h, hj => by
    simp only [chkR, Bool.and_eq_true] at h
    cases hj
    exact h.1
  | q :: l, i, j + 1, r, h, hj => by
    simp only [chkR, Bool.and_eq_true] at h
    have := chkR_ok h.2 (j := j) (by simpa using hj)
    rw [show i + (j + 1) = i + 1 + j by omega]
    exact this
def chain : Nat → List (Rc D) → Nat → Bool
  | n, [], m => Nat.beq n m
  | n, r :: l, m => Nat.beq n r.lo && (Nat.ble r.lo r.hi && chain r.hi l m)
omit [∀ t, Dt (D t)] in
theorem chain_le : ∀ {l : List (Rc D)} {n m : Nat}, chain n l m = true → n ≤ m
  | [], n, m, h => by rw [Nat.eq_of_beq_eq_true h]; exact Nat.le_refl _
  | r :: l, n, m, h => by
    simp only [chain, Bool.and_eq_true] at h
    have h1 := Nat.eq_of_beq_eq_true h.1
    have h2 := Nat.le_of_ble_eq_true h.2.1
    have := chain_le h.2.2
    omega
omit [∀ t, Dt (D t)] in
theorem chain_get : ∀ {l : List (Rc D)} {n m j : Nat} {r : Rc D}, chain n l m = true → l[j]? = some r → n ≤ r.lo ∧ r.lo ≤ r.hi ∧ r.hi ≤ m
  | [], _, _, _, _, _, h => by cases h
  | q :: l, n, m, 0, r, h, hj => by
    cases hj
    simp only [chain, Bool.and_eq_true] at h
    have h1 := Nat.eq_of_beq_eq_true h.1
    exact ⟨by omega, Nat.le_of_ble_eq_true h.2.1, chain_le h.2.2⟩
  | q :: l, n, m, j + 1, r, h, hj => by
    simp only [chain, Bool.and_eq_true] at h
    have h1 := Nat.eq_of_beq_eq_true h.1
    have h2 := Nat.le_of_ble_eq_true h.2.1
    have := chain_get h.2.2 (j := j) (by simpa using hj)
    exact ⟨by omega, this.2⟩
omit [∀ t, Dt (D t)] in
theorem chain_lt : ∀ {l : List (Rc D)} {n m i j : Nat} {r q : Rc D}, chain n l m = true → l[i]? = some r → l[j]? = some q → i < j → r.hi ≤ q.lo
  | [], _, _, _, _, _, _, _, h, _, _ => by cases h
  | p :: l, n, m, 0, j + 1, r, q, h, hi, hj, _ => by
    cases hi
    simp only [chain, Bool.and_eq_true] at h
    exact (chain_get h.2.2 (j := j) (by simpa using hj)).1
  | p :: l, n, m, i + 1, j + 1, r, q, h, hi, hj, hij => by
    simp only [chain, Bool.and_eq_true] at h
    exact chain_lt h.2.2 (by simpa using hi) (by simpa using hj) (by omega)
  | p :: l, n, m, i, 0, _, _, _, _, _, h => by omega
theorem rch_ready {ops : Array Oper} {ls : Array Bool} (hcl : ∀ i j, done ls i → hasEdge ops i j = true → done ls j) {i : Nat} (hr : ∀ j, hasEdge ops i j = true → done ls j) : ∀ {f j : Nat}, rch ops f i j = true → done ls j
  | 0, _, h => by cases h
  | f + 1, j, h => by
    simp only [rch, Bool.or_eq_true, List.any_eq_true, Bool.and_eq_true] at h
    rcases h with h | ⟨k, _, _, h1, h2⟩
    · exact hr j h
    · exact rch_ok hcl f k j h2 (hr k h1)
structure Good (P : Program) (G : Hp → Prop) (fr : List (Nat × Blk D)) (base : St D) (ops : Array Oper) (recs : List (Rc D)) (i : Nat) (o : Oper) (r : Rc D) : Prop where
  sl : ∀ t s, getS r.sl t = some s → (∃ j rj, recs[j]? = some rj ∧ dstOf ops j = some t ∧ rch ops 40 i j = true ∧ (s = rj.u ∨ ∃ b, rj.kv = some b ∧ s = .k b)) ∨ ((∀ j, dstOf ops j = some t → rch ops 40 j i = true) ∧ getS base.sl t = some s)
  gd : match o.guard with
    | none => r.g = true
    | some (j, want) => ∃ rj d, recs[j]? = some rj ∧ dstOf ops j = some d ∧ rch ops 40 i j = true ∧ ((∃ b, rj.kv = some b ∧ r.g = (b == want)) ∨ (∃ v, rj.u = .c v ∧ isBoolV v = false ∧ r.g = false))
  kv : ∀ b, r.kv = some b → ∀ (H : Hp) (ρ : RM) (x : Value), Rv H ρ x r.u → x = .bool b
  bi : r.bi = r.us.flatMap (nbU recs base.bk ops.size)
  low : (lowS r.lo r.sl && (lowK r.lo r.bi && (lowV r.hi r.u && lowK r.hi r.nb))) = true
  run : (r.eat = false ∧ r.nb = [] ∧ Quiet P G fr base.kn ops o r) ∨ (r.eat = true ∧ Takes P G fr base.kn ops o r)
end
end
section
section
variable {D : Nat → Type} [∀ t, Dt (D t)]
def clr (us : List Nat) (X : Nat → List Ent) (u : Nat) : List Ent := bif us.any (Nat.beq u) then [] else X u
theorem flatX_get (X : Nat → List Ent) {i T : Nat} (hi : i < T) : (flatX X T).Perm (X i ++ flatX (setX X i []) T) := by
  have h := flatX_perm X hi (X i)
  have e : setX X i (X i) = X := by
    funext j; unfold setX; split
    · rename_i h; rw [h]
    · rfl
  rwa [e] at h
theorem flatX_set (X : Nat → List Ent) {i T : Nat} (hi : i < T) (h0 : X i = []) (E : List Ent) : (flatX (setX X i E) T).Perm (E ++ flatX X T) := by
  have h := flatX_perm X hi E
  have e : setX X i [] = X := by
    funext j; unfold setX; split
    · rename_i h; rw [h, h0]
    · rfl
  rwa [e] at h
theorem flatX_us {T : Nat} : ∀ (us : List Nat) (X : Nat → List Ent), nodupN us = true → (∀ u ∈ us, u < T) → (flatX X T).Perm (us.flatMap X ++ flatX (clr us X) T)
  | [], X, _, _ => by
    have e : clr [] X = X := rfl
    rw [e]; exact List.Perm.refl _
  | a :: us, X, hd, hT => by
    simp only [nodupN, Bool.and_eq_true, Bool.not_eq_true'] at hd
    have h1 := flatX_get X (hT a (by simp))
    have h2 := flatX_us us (setX X a []) hd.2 fun u hu => hT u (by simp [hu])
    have e1 : us.flatMap (setX X a []) = us.flatMap X := flatMap_congr' us fun u hu => by
      unfold setX
      split
      · rename_i h
        subst h
        have := hd.1
        rw [List.any_eq_false] at this
        exact absurd (Nat.beq_refl u) (this u hu)
      · rfl
    have e2 : clr us (setX X a []) = clr (a :: us) X := by
      funext u
      unfold clr setX
      rw [List.any_cons]
      by_cases h : u = a
      · subst h
        simp [Nat.beq_refl]
      · have hb : Nat.beq u a = false := by
          cases hx : Nat.beq u a with
          | true => exact absurd (Nat.eq_of_beq_eq_true hx) h
          | false => rfl
        rw [if_neg h, hb, Bool.false_or]
    rw [List.flatMap_cons, List.append_assoc]
    rw [e1, e2] at h2
    exact h1.trans (h2.append_left _)
theorem BkR.units {H : Hp} {ρ : RM} {f : Nat → List (Nat × Blk D)} {X : Nat → List Ent} : ∀ {us : List Nat}, (∀ u ∈ us, BkR H ρ (f u) (X u)) → BkR H ρ (us.flatMap f) (us.flatMap X)
  | [], _ => rfl
  | a :: us, h => by
    rw [List.flatMap_cons, List.flatMap_cons]
    exact (h a (by simp)).append (BkR.units fun u hu => h u (by simp [hu]))
theorem BkR.each {H : Hp} {ρ : RM} : ∀ {bk : List (Nat × Blk D)} {L : List Ent}, BkR H ρ bk L → ∃ Y : Nat → List Ent, L = (List.range bk.length).flatMap Y ∧ ∀ j q, bk[j]? = some q → BkR H ρ [q] (Y j)
  | [], L, h => ⟨fun _ => [], h, fun _ _ h => by cases h⟩
  | (id, b) :: r, L, ⟨S, L', h1, h2, h3⟩ => by
    obtain ⟨Y, h4, h5⟩ := BkR.each h3
    refine ⟨fun j => match j with | 0 => S | j + 1 => Y j, ?_, ?_⟩
    · rw [List.length_cons, List.range_succ_eq_map, List.flatMap_cons, List.flatMap_map, h1, h4]
    · intro j q hq
      cases j with
      | zero => cases hq; exact ⟨S, [], by simp, h2, rfl⟩
      | succ j => exact h5 j q hq
def valR (r : Rc D) : SV D := match r.kv with
  | some b => .k b
  | none => r.u
def finSl (ops : Array Oper) : Nat → List (Rc D) → List (Nat × SV D) → List (Nat × SV D)
  | _, [], sl => sl
  | i, r :: l, sl => finSl ops (i + 1) l (putS sl (dstOf ops i) (valR r))
def deadU (recs : List (Rc D)) (n u : Nat) : Bool := (List.range n).any fun k => eatsU recs k u
def finBk (recs : List (Rc D)) (bk : List (Nat × Blk D)) (n T : Nat) : List (Nat × Blk D) := (List.range T).flatMap fun u => bif deadU recs n u then [] else nbU recs bk n u
omit [∀ t, Dt (D t)] in
theorem finSl_get {ops : Array Oper} {t : Nat} {s : SV D} : ∀ {l : List (Rc D)} {i : Nat} {sl : List (Nat × SV D)}, getS (finSl ops i l sl) t = some s → (∃ j r, l[j]? = some r ∧ dstOf ops (i + j) = some t ∧ s = valR r) ∨ (getS sl t = some s ∧ ∀ j, j < l.length → dstOf ops (i + j) ≠ some t)
  | [], i, sl, h => .inr ⟨h, fun j hj => by cases hj⟩
  | r :: l, i, sl, h => by
    rcases finSl_get (l := l) (i := i + 1) h with ⟨j, r', h1, h2, h3⟩ | ⟨h1, h2⟩
    · exact .inl ⟨j + 1, r', by simpa using h1, by rw [show i + (j + 1) = i + 1 + j by omega]; exact h2, h3⟩
    · have hrest : ∀ j, j < l.length → dstOf ops (i + (j + 1)) ≠ some t := fun j hj => by rw [show i + (j + 1) = i + 1 + j by omega]; exact h2 j hj
      cases hd : dstOf ops i with
      | none =>
        rw [hd] at h1
        refine .inr ⟨h1, fun j hj => ?_⟩
        cases j with
        | zero => rw [Nat.add_zero, hd]; intro h; cases h
        | succ j => exact hrest j (by simpa using hj)
      | some d =>
        rw [hd] at h1
        simp only [putS, getS_setS] at h1
        cases hb : Nat.beq t d with
        | true =>
          rw [hb] at h1
          obtain rfl := Nat.eq_of_beq_eq_true hb
          exact .inl ⟨0, r, rfl, hd, (Option.some.inj h1).symm⟩
        | false =>
          rw [hb] at h1
          refine .inr ⟨h1, fun j hj => ?_⟩
          cases j with
          | zero => rw [Nat.add_zero, hd]; intro h; cases h; rw [Nat.beq_refl] at hb; cases hb
          | succ j => exact hrest j (by simpa using hj)
def liveU (recs : List (Rc D)) (n : Nat) (ls : Array Bool) (u : Nat) : Prop := (u < n → done ls u) ∧ ∀ k, k < n → done ls k → eatsU recs k u = false
structure DrI (fr : List (Nat × Blk D)) (F : List Ent) (w0 : World) (H0 : Hp) (R : List Ent) (H : Hp) (ρ : RM) (σ : Nat → Value) (base : St D) (nx : Nat) (N : Nat) (Dd : List Deferred) (ops : Array Oper) (recs : List (Rc D)) (ls : Array Bool) (σ' : Nat → Value) (H' : Hp) (ρ' : RM) (X : Nat → List Ent) (w' : World) : Prop where
  hH : H.le H'
  hρ : RM.le ρ ρ'
  low : ∀ id, id < base.nx → ρ' id = ρ id
  mem : Mem w0 H0 w' H' (flatX X (ops.size + base.bk.length) ++ (F ++ R))
  val : ∀ i r d, done ls i → recs[i]? = some r → dstOf ops i = some d → Rv H' ρ' (σ' d) r.u
  live : ∀ u, u < ops.size + base.bk.length → liveU recs ops.size ls u → BkR H' ρ' (nbU recs base.bk ops.size u) (X u)
  dead : ∀ u, u < ops.size + base.bk.length → ¬ liveU recs ops.size ls u → X u = []
  free : ∀ i r, recs[i]? = some r → ¬ done ls i → ∀ id, r.lo ≤ id → id < r.hi → ρ' id = none
  nx : ∀ id, nx ≤ id → ρ' id = none
  old : ∀ t, (∀ j, done ls j → dstOf ops j ≠ some t) → σ' t = σ t
  cl : ∀ i j, done ls i → hasEdge ops i j = true → done ls j
section
variable {P : Program} {fr : List (Nat × Blk D)} {F : List Ent} {w0 w : World} {H0 H : Hp} {R : List Ent} {ρ : RM} {L : List Ent} {base : St D} {σ : Nat → Value} {nx N : Nat} {Dd : List Deferred} {ops : Array Oper} {recs : List (Rc D)}
theorem DrI.step {ls : Array Bool} {σ' : Nat → Value} {H' : Hp} {ρ' : RM} {X : Nat → List Ent} {w' : World} (hI : DrI fr F w0 H0 R H ρ σ base nx N Dd ops recs ls σ' H' ρ' X w') {i : Nat} (hi : i < ops.size) (hsz : ls.size = ops.size) (hnd : ¬ done ls i) (hed : ∀ j, hasEdge ops i j = true → done ls j)
    (hdist : ∀ i j, i < ops.size → j < ops.size → i ≠ j → ∀ d, dstOf ops i = some d → dstOf ops j ≠ some d) (hlen : recs.length = ops.size)
    {r : Rc D} (hr : recs[i]? = some r) (hself : eatsU recs i i = false) (heat : ∀ k, k < ops.size → done ls k → eatsU recs k i = false)
    {x : Value} {w2 : World} {H2 : Hp} {ρ2 : RM} {X2 : Nat → List Ent} (hH2 : H'.le H2) (hρ2 : RM.le ρ' ρ2) (hlow : ∀ id, id < base.nx → ρ2 id = ρ' id) (hM : Mem w0 H0 w2 H2 (flatX X2 (ops.size + base.bk.length) ++ (F ++ R))) (hx : Rv H2 ρ2 x r.u)
    (hX : ∀ u, u ≠ i → X2 u = bif eatsU recs i u then [] else X u) (hXi : BkR H2 ρ2 r.nb (X2 i))
    (hfree : ∀ j q, recs[j]? = some q → j ≠ i → ¬ done ls j → ∀ id, q.lo ≤ id → id < q.hi → ρ2 id = ρ' id) (hnx : ∀ id, nx ≤ id → ρ2 id = none) :
    DrI fr F w0 H0 R H ρ σ base nx N Dd ops recs (ls.setIfInBounds i true) (upd σ' (dstOf ops i) x) H2 ρ2 X2 w2 := by
  have hset : ∀ j, done (ls.setIfInBounds i true) j ↔ j = i ∨ done ls j := by
    intro j
    unfold done
    rw [Array.getD_eq_getD_getElem?, Array.getD_eq_getD_getElem?, Array.getElem?_setIfInBounds]
    by_cases h : j = i
    · subst h; simp [hsz, hi]
    · rw [if_neg (by omega)]; simp [h]
  have hnb : nbU recs base.bk ops.size i = r.nb := by
    unfold nbU
    rw [show Nat.blt i ops.size = true by simpa [Nat.blt_eq] using hi, cond_true, hr]
  have hlive : ∀ u, u ≠ i → (liveU recs ops.size (ls.setIfInBounds i true) u ↔ (liveU recs ops.size ls u ∧ eatsU recs i u = false)) := by
    intro u hu
    constructor
    · rintro ⟨h1, h2⟩
      exact ⟨⟨fun hn => ((hset u).1 (h1 hn)).resolve_left hu, fun k hk hd => h2 k hk ((hset k).2 (.inr hd))⟩, h2 i hi ((hset i).2 (.inl rfl))⟩
    · rintro ⟨⟨h1, h2⟩, h3⟩
      exact ⟨fun hn => (hset u).2 (.inr (h1 hn)), fun k hk hd => by
        rcases (hset k).1 hd with rfl | hd
        · exact h3
        · exact h2 k hk hd⟩
  have hlivei : liveU recs ops.size (ls.setIfInBounds i true) i := ⟨fun _ => (hset i).2 (.inl rfl), fun k hk hd => by
    rcases (hset k).1 hd with rfl | hd
    · exact hself
    · exact heat k hk hd⟩
  refine ⟨hI.hH.trans hH2, hI.hρ.trans hρ2, fun id hid => (hlow id hid).trans (hI.low id hid), hM, ?_, ?_, ?_, ?_, hnx, ?_, ?_⟩
  · intro j q d hd hq hdj
    by_cases hji : j = i
    · subst hji
      rw [hr] at hq; cases hq
      rw [hdj]
      show Rv H2 ρ2 (bif Nat.beq d d then x else σ' d) r.u
      rw [Nat.beq_refl]; exact hx
    · have hdl := ((hset j).1 hd).resolve_left hji
      have hj : j < ops.size := by rw [← hlen]; exact (List.getElem?_eq_some_iff.1 hq).1
      have hv := (hI.val j q d hdl hq hdj).mono hH2 hρ2
      have : upd σ' (dstOf ops i) x d = σ' d := by
        cases hdi : dstOf ops i with
        | none => rfl
        | some d' =>
          show (bif Nat.beq d d' then x else σ' d) = σ' d
          cases hb : Nat.beq d d' with
          | true =>
            obtain rfl := Nat.eq_of_beq_eq_true hb
            exact absurd hdj (hdist i j hi hj (Ne.symm hji) d hdi)
          | false => rfl
      rw [this]; exact hv
  · intro u hu hl
    by_cases hui : u = i
    · subst hui; rw [hnb]; exact hXi
    · obtain ⟨h1, h2⟩ := (hlive u hui).1 hl
      rw [hX u hui, h2]
      exact (hI.live u hu h1).mono hH2 hρ2
  · intro u hu hl
    by_cases hui : u = i
    · subst hui; exact absurd hlivei hl
    · rw [hX u hui]
      cases he : eatsU recs i u with
      | true => rfl
      | false => exact hI.dead u hu fun h => hl ((hlive u hui).2 ⟨h, he⟩)
  · intro j q hq hd id h1 h2
    have hji : j ≠ i := fun h => hd ((hset j).2 (.inl h))
    have hdl : ¬ done ls j := fun h => hd ((hset j).2 (.inr h))
    rw [hfree j q hq hji hdl id h1 h2]
    exact hI.free j q hq hdl id h1 h2
  · intro t ht
    rw [← hI.old t fun j hd => ht j ((hset j).2 (.inr hd))]
    cases hdi : dstOf ops i with
    | none => rfl
    | some d' =>
      show (bif Nat.beq t d' then x else σ' t) = σ' t
      cases hb : Nat.beq t d' with
      | true =>
        obtain rfl := Nat.eq_of_beq_eq_true hb
        exact absurd hdi (ht i ((hset i).2 (.inl rfl)))
      | false => rfl
  · intro j k hd he
    rcases (hset j).1 hd with rfl | hd
    · exact (hset k).2 (.inr (hed k he))
    · exact (hset k).2 (.inr (hI.cl j k hd he))
theorem range_flat (X : Nat → List Ent) (n b : Nat) : flatX X (n + b) = flatX X n ++ (List.range b).flatMap fun j => X (n + j) := by
  unfold flatX
  rw [List.range_add, List.flatMap_append, List.flatMap_map]
theorem DrI.init (hs : Sat fr F w0 H0 R H ρ L base σ w) (hch : chain base.nx recs nx = true) : ∃ X, DrI fr F w0 H0 R H ρ σ base nx N Dd ops recs (Array.replicate ops.size false) σ H ρ X w.drew := by
  obtain ⟨Y, h1, h2⟩ := hs.bk.each
  have hg2 : ∀ i, ¬ done (Array.replicate ops.size false) i := by
    intro i
    unfold done
    rw [Array.getD_eq_getD_getElem?]
    simp only [Array.getElem?_replicate]
    split <;> simp
  refine ⟨fun u => if u < ops.size then [] else Y (u - ops.size), Hp.le.refl _, RM.le.refl _, fun _ _ => rfl, ?_, fun i _ _ h => absurd h (hg2 i), ?_, ?_, ?_, fun id hid => hs.nx _ (Nat.le_trans (chain_le hch) hid), fun _ _ => rfl, fun i _ h => absurd h (hg2 i)⟩
  · have e1 : flatX (fun u => if u < ops.size then [] else Y (u - ops.size)) ops.size = [] := by
      unfold flatX
      rw [flatMap_congr' (g := fun _ => []) _ fun u hu => if_pos (List.mem_range.1 hu)]
      simp
    have e2 : ((List.range base.bk.length).flatMap fun j => if ops.size + j < ops.size then [] else Y (ops.size + j - ops.size)) = (List.range base.bk.length).flatMap Y := flatMap_congr' _ fun j _ => by
      rw [if_neg (by omega), Nat.add_sub_cancel_left]
    rw [range_flat, e1, e2, ← h1]
    exact hs.mem.drew
  · intro u hu hl
    have hn : ¬ u < ops.size := fun h => hg2 u (hl.1 h)
    have hb : Nat.blt u ops.size = false := by
      cases hx : Nat.blt u ops.size with
      | true => exact absurd (blt_lt hx) hn
      | false => rfl
    unfold nbU
    rw [hb, cond_false]
    obtain ⟨q, hq⟩ : ∃ q, base.bk[u - ops.size]? = some q := ⟨base.bk[u - ops.size]'(by omega), List.getElem?_eq_getElem (by omega)⟩
    rw [hq]
    show BkR H ρ [q] (if u < ops.size then [] else Y (u - ops.size))
    rw [if_neg hn]
    exact h2 _ _ hq
  · intro u hu hl
    by_cases hn : u < ops.size
    · exact if_pos hn
    · exact absurd ⟨fun h => absurd h hn, fun k _ h => absurd h (hg2 k)⟩ hl
  · intro i r hr _ id h1 _
    exact hs.nx _ (Nat.le_trans (chain_get hch hr).1 h1)
theorem DrI.op {G : Hp → Prop} (h0 : G H0) (hs : Sat fr F w0 H0 R H ρ L base σ w) (hch : chain base.nx recs nx = true) (hR : chkR ops ops.size base.bk.length recs 0 recs = true) (hlen : recs.length = ops.size)
    (hdist : ∀ i j, i < ops.size → j < ops.size → i ≠ j → ∀ d, dstOf ops i = some d → dstOf ops j ≠ some d)
    {ls : Array Bool} {σ' : Nat → Value} {H' : Hp} {ρ' : RM} {X : Nat → List Ent} {w' : World} (hI : DrI fr F w0 H0 R H ρ σ base nx N Dd ops recs ls σ' H' ρ' X w') {i : Nat} (hi : i < ops.size) (hsz : ls.size = ops.size) (hnd : ¬ done ls i) (hed : ∀ j, hasEdge ops i j = true → done ls j)
    {o : Oper} (ho : ops[i]? = some o) (hdst : dstOk o.dst N = true) {r : Rc D} (hr : recs[i]? = some r) (hgd : ∀ j o r, ops[j]? = some o → recs[j]? = some r → Good P G fr base ops recs j o r) {rr : Option Nat} {md : Nat} {Q : Exit → List Deferred → (Nat → Value) → World → Prop}
    (hQ : ∀ σ2 w2, (∃ H2 ρ2 X2, DrI fr F w0 H0 R H ρ σ base nx N Dd ops recs (ls.setIfInBounds i true) σ2 H2 ρ2 X2 w2) → RW rr md P N ops [] Q Dd σ2 w2) :
    RW rr md P N ops [o] Q Dd σ' w' := by
  have hg := hgd i o r ho hr
  obtain ⟨c1, c2, c3⟩ := chain_get hch hr
  have hu := chkR_ok hR hr
  simp only [Nat.zero_add, chkU, Bool.and_eq_true, List.all_eq_true] at hu
  obtain ⟨u1, u2⟩ := hu
  have u3 : ∀ u ∈ r.us, u < ops.size + base.bk.length := fun u hu => blt_lt (u2 u hu).1
  have u4 : ∀ u ∈ r.us, liveU recs ops.size ls u := fun u hu => by
    obtain ⟨_, h2, h3⟩ := u2 u hu
    refine ⟨fun hn => ?_, fun k hk hd => ?_⟩
    · rw [show Nat.blt u ops.size = true by simpa [Nat.blt_eq] using hn] at h2
      exact rch_ready hI.cl hed (by simpa using h2)
    · cases he : eatsU recs k u with
      | false => rfl
      | true =>
        have h4 := h3 k (List.mem_range.2 hk)
        rw [he] at h4
        simp only [Bool.not_true, Bool.false_or, Bool.or_eq_true] at h4
        rcases h4 with h4 | h4
        · rw [Nat.eq_of_beq_eq_true h4] at hd; exact absurd hd hnd
        · exact absurd (rch_ok hI.cl 40 k i h4 hd) hnd
  have hown : ∀ k q, recs[k]? = some q → (k = i ∨ done ls k) → i ∈ q.us → False := by
    intro k q hq hk hiu
    have h := chkR_ok hR hq
    simp only [Nat.zero_add, chkU, Bool.and_eq_true, List.all_eq_true] at h
    obtain ⟨_, h2, _⟩ := h.2 i hiu
    rw [show Nat.blt i ops.size = true by simpa [Nat.blt_eq] using hi] at h2
    have h2 : rch ops 40 k i = true := by simpa using h2
    rcases hk with rfl | hk
    · exact hnd (rch_ready hI.cl hed h2)
    · exact hnd (rch_ok hI.cl 40 k i h2 hk)
  have hmem : ∀ {q : Rc D} {u : Nat}, (q.us.any (Nat.beq u)) = true → u ∈ q.us := by
    intro q u h
    obtain ⟨v, hv, hb⟩ := List.any_eq_true.1 h
    rwa [Nat.eq_of_beq_eq_true hb]
  have heats : ∀ k, (k = i ∨ done ls k) → eatsU recs k i = false := by
    intro k hk
    unfold eatsU
    cases hq : recs[k]? with
    | none => rfl
    | some q =>
      show (q.eat && q.us.any (Nat.beq i)) = false
      cases hx : q.us.any (Nat.beq i) with
      | false => exact Bool.and_false _
      | true => exact (hown k q hq hk (hmem hx)).elim
  have hXi : X i = [] := hI.dead i (by omega) fun h => hnd (h.1 hi)
  -- the numbers that it may see
  let ρm : RM := fun id => bif Nat.blt id r.lo then ρ' id else none
  have m1 : ∀ id, id < r.lo → ρm id = ρ' id := fun id h => by
    show (bif Nat.blt id r.lo then ρ' id else none) = _
    rw [show Nat.blt id r.lo = true by simpa [Nat.blt_eq] using h]; rfl
  have m2 : ∀ id, r.lo ≤ id → ρm id = none := fun id h => by
    show (bif Nat.blt id r.lo then ρ' id else none) = _
    have : Nat.blt id r.lo = false := by
      cases hx : Nat.blt id r.lo with
      | true => exact absurd (blt_lt hx) (by omega)
      | false => rfl
    rw [this]; rfl
  have m3 : RM.le ρm ρ' := fun id q h => by
    rcases Nat.lt_or_ge id r.lo with h1 | h1
    · rwa [m1 id h1] at h
    · rw [m2 id h1] at h; cases h
  have m4 : RM.le ρ ρm := fun id q h => by
    rcases Nat.lt_or_ge id base.nx with h1 | h1
    · rw [m1 id (by omega)]; exact hI.hρ _ _ h
    · rw [hs.nx _ h1] at h; cases h
  have hlow := hg.low
  simp only [Bool.and_eq_true] at hlow
  obtain ⟨l1, l2, l3, l4⟩ := hlow
  have hval : ∀ j rj t, recs[j]? = some rj → dstOf ops j = some t → rch ops 40 i j = true → Rv H' ρ' (σ' t) rj.u := fun j rj t h1 h2 h3 => hI.val j rj t (rch_ready hI.cl hed h3) h1 h2
  have hkv : ∀ j rj, recs[j]? = some rj → dstOf ops j ≠ none → ∀ b, rj.kv = some b → ∀ {x : Value}, Rv H' ρ' x rj.u → x = .bool b := fun j rj h1 h2 b h3 x hx => by
    cases hoj : ops[j]? with
    | none => exact absurd (by unfold dstOf; rw [hoj]; rfl) h2
    | some oj => exact (hgd j oj rj hoj h1).kv b h3 _ _ _ hx
  have hSl : SlR H' ρ' r.sl σ' := by
    intro t s hts
    rcases hg.sl t s hts with ⟨j, rj, h1, h2, h3, h4⟩ | ⟨h1, h2⟩
    · have hv := hval j rj t h1 h2 h3
      rcases h4 with rfl | ⟨b, h5, rfl⟩
      · exact hv
      · exact hkv j rj h1 (by rw [h2]; simp) b h5 hv
    · rw [hI.old t fun j hd hj => hnd (rch_ok hI.cl 40 j i (h1 j hj) hd)]; exact (hs.sl t s h2).mono hI.hH hI.hρ
  have hgo : gdOk ops σ' o.guard = r.g := by
    have h := hg.gd
    cases hgu : o.guard with
    | none => rw [hgu] at h; exact h.symm
    | some jw =>
      obtain ⟨j, want⟩ := jw
      rw [hgu] at h
      obtain ⟨rj, d, h1, h2, h3, h4⟩ := h
      have h2' : (ops[j]?).bind (·.dst) = some d := h2
      have hv := hval j rj d h1 h2 h3
      show (match (ops[j]?).bind (·.dst) with
        | some d => match σ' d with
          | .bool b => b == want
          | _ => false
        | none => false) = r.g
      rw [h2']
      rcases h4 with ⟨b, h5, h6⟩ | ⟨v, h5, h6, h7⟩
      · have hb : σ' d = .bool b := hkv j rj h1 (by rw [h2]; simp) b h5 hv
        rw [h6]
        show (match σ' d with
          | .bool b => b == want
          | _ => false) = _
        rw [hb]
      · rw [h5] at hv
        have hv : σ' d = v := hv
        rw [h7]
        show (match σ' d with
          | .bool b => b == want
          | _ => false) = _
        rw [hv]
        cases v <;> first | rfl | (exact absurd h6 (by simp [isBoolV]))
  have hL : BkR H' ρ' r.bi (r.us.flatMap X) := by
    rw [hg.bi]
    exact BkR.units fun u hu => hI.live u (u3 u hu) (u4 u hu)
  have hperm : (flatX X (ops.size + base.bk.length) ++ (F ++ R)).Perm (r.us.flatMap X ++ (F ++ (flatX (clr r.us X) (ops.size + base.bk.length) ++ R))) := by
    refine ((flatX_us r.us X u1 u3).append_right (F ++ R)).trans ?_
    rw [List.append_assoc]
    refine List.Perm.append_left _ ?_
    rw [← List.append_assoc, ← List.append_assoc]
    exact List.perm_append_comm.append_right R
  have hSat : Sat fr F w0 H0 (flatX (clr r.us X) (ops.size + base.bk.length) ++ R) H' ρm (r.us.flatMap X) ⟨r.sl, r.bi, base.kn, r.lo⟩ σ' w' :=
    ⟨hI.mem.perm hperm, lowS_ok m1 l1 hSl, lowK_ok m1 l2 hL, hs.fr.mono hI.hH m4, hs.kn.mono hI.hH m4, fun id h => m2 id h⟩
  have hde : o.dst = dstOf ops i := by unfold dstOf; rw [ho]; rfl
  rcases hg.run with ⟨k1, k2, k3⟩ | ⟨k1, k3⟩
  · refine k3 h0 hSat hgo hdst fun x w2 hx1 hx2 => ?_
    rw [hde]
    refine hQ _ _ ⟨H', ρ', X, hI.step hi hsz hnd hed hdist hlen hr (heats i (.inl rfl)) (fun k _ hk => heats k (.inr hk)) (Hp.le.refl _) (RM.le.refl _) (fun _ _ => rfl) (hx1 _ hI.mem) (hx2.mono (Hp.le.refl _) m3) (fun u hu => ?_) ?_ (fun _ _ _ _ _ _ _ _ => rfl) hI.nx⟩
    · have : eatsU recs i u = false := by unfold eatsU; rw [hr]; show (r.eat && _) = false; rw [k1]; rfl
      rw [this]; rfl
    · rw [k2, hXi]; rfl
  · refine k3 h0 hSat hgo hdst fun x w2 hO => ?_
    obtain ⟨H2, ρ2, L2, o1, o2, o3, o4, o5⟩ := hO
    rw [hde]
    let ρ3 : RM := fun id => bif (Nat.ble r.lo id && Nat.blt id r.hi) then ρ2 id else ρ' id
    have n1 : ∀ id, r.lo ≤ id → id < r.hi → ρ3 id = ρ2 id := fun id h1 h2 => by
      show (bif (Nat.ble r.lo id && Nat.blt id r.hi) then ρ2 id else ρ' id) = _
      rw [Nat.ble_eq_true_of_le h1, show Nat.blt id r.hi = true by simpa [Nat.blt_eq] using h2]; rfl
    have n2 : ∀ id, ¬ (r.lo ≤ id ∧ id < r.hi) → ρ3 id = ρ' id := fun id h => by
      show (bif (Nat.ble r.lo id && Nat.blt id r.hi) then ρ2 id else ρ' id) = _
      cases hx : (Nat.ble r.lo id && Nat.blt id r.hi) with
      | false => rfl
      | true =>
        rw [Bool.and_eq_true] at hx
        exact absurd ⟨Nat.le_of_ble_eq_true hx.1, blt_lt hx.2⟩ h
    have n3 : ∀ id, id < r.hi → ρ3 id = ρ2 id := fun id h => by
      rcases Nat.lt_or_ge id r.lo with h1 | h1
      · rw [n2 id (by omega), o3 id h1, m1 id h1]
      · exact n1 id h1 h
    have n4 : RM.le ρ' ρ3 := fun id q h => by
      by_cases h1 : r.lo ≤ id ∧ id < r.hi
      · rw [hI.free i r hr hnd id h1.1 h1.2] at h; cases h
      · rwa [n2 id h1]
    have hcl : ∀ u, u ≠ i → setX (clr r.us X) i L2 u = bif eatsU recs i u then [] else X u := fun u hu => by
      unfold setX clr eatsU
      rw [if_neg hu, hr]
      show _ = bif (r.eat && r.us.any (Nat.beq u)) then [] else X u
      rw [k1, Bool.true_and]
    have hni : clr r.us X i = [] := by
      unfold clr
      rw [hXi]; cases r.us.any (Nat.beq i) <;> rfl
    refine hQ _ _ ⟨H2, ρ3, setX (clr r.us X) i L2, hI.step hi hsz hnd hed hdist hlen hr (heats i (.inl rfl)) (fun k _ hk => heats k (.inr hk)) o1 n4 (fun id h => n2 id (by omega)) ?_ (lowV_ok n3 r.u l3 o5) hcl ?_ (fun j q hq hj hd id h1 h2 => n2 id fun h3 => ?_) fun id h => ?_⟩
    · refine o4.mem.perm ?_
      have h1 := flatX_set (clr r.us X) (T := ops.size + base.bk.length) (i := i) (by omega) hni L2
      refine List.Perm.symm ((h1.append_right (F ++ R)).trans ?_)
      rw [List.append_assoc]
      refine List.Perm.append_left _ ?_
      rw [← List.append_assoc, ← List.append_assoc]
      exact List.perm_append_comm.append_right R
    · have : setX (clr r.us X) i L2 i = L2 := by unfold setX; rw [if_pos rfl]
      rw [this]
      exact lowK_ok n3 l4 o4.bk
    · rcases Nat.lt_or_gt_of_ne hj with h4 | h4
      · have := chain_lt hch hq hr h4; omega
      · have := chain_lt hch hr hq h4; omega
    · rw [n2 id (by omega)]; exact hI.nx id h
theorem drawD_any {G : Hp → Prop} (h0 : G H0) {rr : Option Nat} {md : Nat} {Q : Exit → List Deferred → (Nat → Value) → World → Prop} (hs : Sat fr F w0 H0 R H ρ L base σ w) (hE : chkE ops N = true) (hch : chain base.nx recs nx = true) (hR : chkR ops ops.size base.bk.length recs 0 recs = true) (hlen : recs.length = ops.size) (hgd : ∀ j o r, ops[j]? = some o → recs[j]? = some r → Good P G fr base ops recs j o r)
    (hK : ∀ H' ρ' L' σ' w', H.le H' → RM.le ρ ρ' → (∀ id, id < base.nx → ρ' id = ρ id) → Sat fr F w0 H0 R H' ρ' L' ⟨finSl ops 0 recs base.sl, finBk recs base.bk ops.size (ops.size + base.bk.length), base.kn, nx⟩ σ' w' → Q .normal Dd σ' w') :
    ∀ a, Rep N Dd σ a → wpAnyIn (FR rr) md P .any ops (lift N Q) ops.size (Array.replicate ops.size false) a { w with drawn := w.drawn + 1 } := by
  intro a ha
  simp only [chkE, Bool.and_eq_true, List.all_eq_true, List.mem_range] at hE
  obtain ⟨hback, hdist⟩ := hE
  have hdist : ∀ i j, i < ops.size → j < ops.size → i ≠ j → ∀ d, dstOf ops i = some d → dstOf ops j ≠ some d := by
    intro i j hi hj hij d h1 h2
    have h := hdist i hi j hj
    have h7 : sameB ops i j = true := by
      rw [sameB, h1]
      show isDst ops j d = true
      rw [isDst, h2]
      exact Nat.beq_refl d
    simp only [h7, Bool.not_true, Bool.or_false] at h
    exact hij (Nat.eq_of_beq_eq_true h)
  have hprog : ∀ ls : Array Bool, ls.size = ops.size → Region.ready .any ops ls = [] → ∀ i, i < ops.size → ls.getD i true = true := by
    intro ls hs hr i
    induction i using Nat.strongRecOn with
    | _ i ih =>
      intro hi
      cases hx : ls.getD i true with
      | true => rfl
      | false =>
        have : i ∈ Region.ready .any ops ls := by
          refine mem_ready.2 ⟨hi, hx, fun o ho e he hb => ?_⟩
          have h1 := hback i hi
          rw [ho] at h1
          simp only [Bool.and_eq_true] at h1
          have h2 := (Array.all_eq_true_iff_forall_mem.1 h1.1) e he
          have h3 : e.on < i := by simpa [hb, Nat.blt_eq] using h2
          have h4 := ih e.on h3 (by omega)
          rw [Array.getD_eq_getD_getElem?] at h4 ⊢
          rw [Array.getElem?_eq_getElem (by omega)] at h4 ⊢
          exact h4
        rw [hr] at this
        simp at this
  refine (wpAnyIn_inv (fun ls a w' => ls.size = ops.size ∧ ∃ σ' H' ρ' X, Rep N Dd σ' a ∧ DrI fr F w0 H0 R H ρ σ base nx N Dd ops recs ls σ' H' ρ' X w') ?_ ?_ ?_ _ _ _ _ ?_ ?_)
  · intro ls a w' ⟨hsz, σ', H', ρ', X, hrep, hI⟩ hr
    have hall : ∀ i, i < ops.size → done ls i := fun i hi => by
      have := hprog ls hsz hr i hi
      unfold done
      rw [Array.getD_eq_getD_getElem?, Array.getElem?_eq_getElem (by omega)] at this ⊢
      exact this
    have hlive : ∀ u, deadU recs ops.size u = false → liveU recs ops.size ls u := fun u hu => ⟨fun h => hall u h, fun k hk _ => by
      cases he : eatsU recs k u with
      | false => rfl
      | true =>
        have : deadU recs ops.size u = true := List.any_eq_true.2 ⟨k, List.mem_range.2 hk, he⟩
        rw [hu] at this; cases this⟩
    have hdead : ∀ u, deadU recs ops.size u = true → ¬ liveU recs ops.size ls u := fun u hu h => by
      obtain ⟨k, hk, he⟩ := List.any_eq_true.1 hu
      have hk := List.mem_range.1 hk
      rw [h.2 k hk (hall k hk)] at he; cases he
    refine ⟨Dd, σ', hrep, hK H' ρ' (flatX X (ops.size + base.bk.length)) σ' w' hI.hH hI.hρ hI.low ⟨hI.mem, ?_, ?_, hs.fr.mono hI.hH hI.hρ, hs.kn.mono hI.hH hI.hρ, hI.nx⟩⟩
    · intro t s hts
      rcases finSl_get hts with ⟨j, r, h1, h2, h3⟩ | ⟨h1, h2⟩
      · rw [Nat.zero_add] at h2
        have hj : j < ops.size := by rw [← hlen]; exact (List.getElem?_eq_some_iff.1 h1).1
        have hv := hI.val j r t (hall j hj) h1 h2
        rw [h3]
        unfold valR
        cases hk : r.kv with
        | none => exact hv
        | some b => exact (hgd j _ r (Array.getElem?_eq_getElem hj) h1).kv b hk _ _ _ hv
      · rw [hI.old t fun j _ hj => ?_]
        · exact (hs.sl t s h1).mono hI.hH hI.hρ
        · rcases Nat.lt_or_ge j ops.size with h3 | h3
          · exact h2 j (by omega) (by rw [Nat.zero_add]; exact hj)
          · rw [dstOf, Array.getElem?_eq_none_iff.2 h3] at hj; cases hj
    · have : ∀ T, T ≤ ops.size + base.bk.length → BkR H' ρ' (finBk recs base.bk ops.size T) (flatX X T) := by
        intro T
        induction T with
        | zero => intro _; rfl
        | succ T ih =>
          intro hT
          unfold finBk flatX
          rw [List.range_succ, List.flatMap_append, List.flatMap_append, List.flatMap_singleton, List.flatMap_singleton]
          refine (ih (by omega)).append ?_
          cases hd : deadU recs ops.size T with
          | true => exact hI.dead T (by omega) (hdead T hd)
          | false => exact hI.live T (by omega) (hlive T hd)
      exact this _ (Nat.le_refl _)
  · intro ls a w' h; exact h.1
  · intro ls a w' i ⟨hsz, σ', H', ρ', X, hrep, hI⟩ hi
    obtain ⟨hi1, hi2, hi3⟩ := mem_ready.1 hi
    have hget : ops[i]? = some ops[i] := Array.getElem?_eq_getElem hi1
    obtain ⟨r, hr⟩ : ∃ r, recs[i]? = some r := ⟨recs[i]'(by omega), List.getElem?_eq_getElem (by omega)⟩
    have hnd : ¬ done ls i := by
      intro h
      unfold done at h
      rw [Array.getD_eq_getD_getElem?, Array.getElem?_eq_getElem (by omega)] at h hi2
      have h : ls[i] = true := h
      have hi2 : ls[i] = false := hi2
      rw [h] at hi2; cases hi2
    have hedge : ∀ j, hasEdge ops i j = true → done ls j := by
      intro j hj
      rw [hasEdge, hget] at hj
      simp only [← Array.any_toList, List.any_eq_true, Bool.and_eq_true] at hj
      obtain ⟨e, he, hb, hon⟩ := hj
      have := hi3 _ hget e (Array.mem_toList_iff.1 he) hb
      rwa [Nat.eq_of_beq_eq_true hon] at this
    have hb := hback i hi1
    rw [hget] at hb
    simp only [Bool.and_eq_true] at hb
    refine wpOpIn_of_list1 (Q1 := lift N (fun e D' σ2 w2 => e = .normal ∧ D' = Dd ∧ ∃ H2 ρ2 X2, DrI fr F w0 H0 R H ρ σ base nx N Dd ops recs (ls.setIfInBounds i true) σ2 H2 ρ2 X2 w2)) hget (hI.op h0 hs hch hR hlen hdist hi1 hsz hnd hedge hget hb.2 hr hgd (fun σ2 w2 h => ?_) a hrep) (fun a' w'' hq => ?_) (fun c a' w'' hq => ?_) (fun hq => ?_)
    · intro a2 ha2
      exact ⟨Dd, σ2, ha2, rfl, rfl, h⟩
    · obtain ⟨D', σ'', hr1, _, rfl, H2, ρ2, X2, h2⟩ := hq
      exact ⟨by simpa using hsz, σ'', H2, ρ2, X2, hr1, h2⟩
    · obtain ⟨_, _, _, hn, _⟩ := hq
      cases hn
    · obtain ⟨_, _, _, _, _, hn, _⟩ := hq
      cases hn
  · obtain ⟨X, hI⟩ := DrI.init (F := F) (fr := fr) (N := N) (Dd := Dd) (ops := ops) hs hch
    exact ⟨by simp, σ, H, ρ, X, ha, hI⟩
  · unfold unlisted
    exact Nat.le_trans (List.length_filter_le _ _) (by simp)
theorem drawD_ok {G : Hp → Prop} (h0 : G H0) {id : Nat} {rr : Option Nat} {md : Nat} {Q : Exit → List Deferred → (Nat → Value) → World → Prop} (hm : P.follows .mixedOrders = true) (hs : Sat fr F w0 H0 R H ρ L base σ w) (hE : chkE ops N = true) (hch : chain base.nx recs nx = true) (hR : chkR ops ops.size base.bk.length recs 0 recs = true) (hlen : recs.length = ops.size) (hgd : ∀ j o r, ops[j]? = some o → recs[j]? = some r → Good P G fr base ops recs j o r)
    (hK : ∀ H' ρ' L' σ' w', H.le H' → RM.le ρ ρ' → (∀ id, id < base.nx → ρ' id = ρ id) → Sat fr F w0 H0 R H' ρ' L' ⟨finSl ops 0 recs base.sl, finBk recs base.bk ops.size (ops.size + base.bk.length), base.kn, nx⟩ σ' w' → Q .normal Dd σ' w') :
    CW rr md P N (.region id ops true) Q Dd σ w := fun a ha => wpIn_region_any hm (drawD_any h0 hs hE hch hR hlen hgd hK a ha)
end
end
end
section
section
variable {D : Nat → Type} [∀ t, Dt (D t)]
mutual
def idsV : SV D → List Nat
  | .ptr id _ => [id]
  | .own id => [id]
  | .oel id _ _ _ => [id]
  | .vw id _ _ => [id]
  | .mp id => [id]
  | .hv id _ _ => [id]
  | .lel id _ _ => [id]
  | .agg l => idsVL l
  | .tup l => idsVL l
  | .fn _ l => idsVL l
  | _ => []
def idsVL : List (SV D) → List Nat
  | [] => []
  | v :: r => idsV v ++ idsVL r
end
def idsB (kn : List (Nat × SV D)) : Blk D → List Nat
  | .box _ cs => idsVL (cs.map (res kn))
  | .fbx _ cs => idsVL (cs.map (res kn))
  | .itr mid _ _ => [mid]
  | _ => []
def hitB (ids : List Nat) (l : List (Nat × Blk D)) : Bool := l.any fun q => ids.any (Nat.beq q.1)
def pickU (kn : List (Nat × SV D)) : Nat → List Nat → List (Nat × List (Nat × Blk D)) → List Nat
  | 0, _, _ => []
  | f + 1, ids, av => match av.filter fun q => hitB ids q.2 with
    | [] => []
    | q :: hit => (q :: hit).map (·.1) ++ pickU kn f ((q :: hit).flatMap fun q => q.2.flatMap fun b => idsB kn b.2) (av.filter fun q => !(hitB ids q.2))
def availU (recs : List (Rc D)) (bk : List (Nat × Blk D)) (n : Nat) : List (Nat × List (Nat × Blk D)) := ((List.range recs.length ++ (List.range bk.length).map (n + ·)).filter fun u => !(deadU recs recs.length u)).map fun u => (u, nbU recs bk n u)
def seeT (ops : Array Oper) (base : St D) (recs : List (Rc D)) (i t : Nat) : Option (SV D) := match (List.range recs.length).find? fun j => isDst ops j t && rch ops 40 i j with
  | some j => (recs[j]?).map valR
  | none => bif (List.range ops.size).all fun j => !(isDst ops j t) || rch ops 40 j i then getS base.sl t else none
def seeS (ops : Array Oper) (base : St D) (recs : List (Rc D)) (i : Nat) : List Operand → List (Nat × SV D)
  | [] => []
  | x :: r => match x with
    | .tmp t => match seeT ops base recs i t with
      | some v => (t, v) :: seeS ops base recs i r
      | none => seeS ops base recs i r
    | _ => seeS ops base recs i r
def miniS (ops : Array Oper) (base : St D) (recs : List (Rc D)) (i : Nat) (o : Oper) : List (Nat × SV D) := seeS ops base recs i o.op.operands.toList
def blind : Op → Bool
  | .move _ | .assign _ | .pick _ _ _ | .extract _ _ | .field _ _ _ | .build _ _ | .makeFunc _ _ _ => true
  | _ => false
def miniU (ops : Array Oper) (base : St D) (recs : List (Rc D)) (i : Nat) (o : Oper) : List Nat := bif blind o.op then [] else pickU base.kn 4 (idsVL ((miniS ops base recs i o).map fun q => resD base.kn q.2)) (availU recs base.bk ops.size)
omit [∀ t, Dt (D t)] in
theorem isDst_ok {ops : Array Oper} {j t : Nat} (h : isDst ops j t = true) : dstOf ops j = some t := by
  unfold isDst at h
  split at h
  · rename_i d hd; rw [hd, Nat.eq_of_beq_eq_true h]
  · cases h
omit [∀ t, Dt (D t)] in
theorem seeS_get {ops : Array Oper} {base : St D} {recs : List (Rc D)} {i t : Nat} {s : SV D} : ∀ {l : List Operand}, getS (seeS ops base recs i l) t = some s → seeT ops base recs i t = some s
  | [], h => by cases h
  | x :: r, h => by
    unfold seeS at h
    split at h
    · rename_i u
      split at h
      · rename_i v hv
        unfold getS at h
        cases hb : Nat.beq t u with
        | true =>
          rw [hb] at h
          rw [Nat.eq_of_beq_eq_true hb, hv]; exact h
        | false => rw [hb] at h; exact seeS_get h
      · exact seeS_get h
    · exact seeS_get h
omit [∀ t, Dt (D t)] in
theorem seeT_ok {ops : Array Oper} {base : St D} {recs : List (Rc D)} {i t : Nat} {s : SV D} (h : seeT ops base recs i t = some s) : (∃ j rj, recs[j]? = some rj ∧ dstOf ops j = some t ∧ rch ops 40 i j = true ∧ (s = rj.u ∨ ∃ b, rj.kv = some b ∧ s = .k b)) ∨ ((∀ j, dstOf ops j = some t → rch ops 40 j i = true) ∧ getS base.sl t = some s) := by
  unfold seeT at h
  split at h
  · rename_i j hj
    have hj := List.find?_some hj
    simp only [Bool.and_eq_true] at hj
    obtain ⟨rj, h1, h2⟩ := Option.map_eq_some_iff.1 h
    refine .inl ⟨j, rj, h1, isDst_ok hj.1, hj.2, ?_⟩
    unfold valR at h2
    split at h2
    · rename_i b hb; exact .inr ⟨b, hb, h2.symm⟩
    · exact .inl h2.symm
  · obtain ⟨h1, h2⟩ := cif h
    refine .inr ⟨fun j hj => ?_, h2⟩
    rw [List.all_eq_true] at h1
    have hjn : j < ops.size := by
      rcases Nat.lt_or_ge j ops.size with h3 | h3
      · exact h3
      · rw [dstOf, Array.getElem?_eq_none_iff.2 h3] at hj; cases hj
    have h3 := h1 j (List.mem_range.2 hjn)
    have : isDst ops j t = true := by
      unfold isDst; rw [hj]; exact Nat.beq_refl t
    rw [this] at h3
    simpa using h3
def quE (P : Program) (tb : Tb D) (st : St D) (fr : List (Nat × Blk D)) (op : Op) (vs : List (SV D)) : OR D := match exE P tb (st.lk fr) op vs with
  | some r => some r
  | none => opSl P st fr op vs
def ctD (P : Program) (tb : Tb D) (c : Ct D) (st : St D) (fr : List (Nat × Blk D)) (xs : List Operand) (K : SV D → Bool → List (Nat × Blk D) → Nat → Prop) : Prop := match vals2 st fr xs with
  | some vs => match ctData P tb c (st.frzL (argIds st fr vs)) fr xs with
    | some x => ∃ y, c.W x (fun z => z = y) ∧ (match resE P tb c.rs c.own y st.nx with
      | some (s, b, m) => match c.bw with
        | true => cdP (scal s) (K s false [] st.nx) False
        | false => K s true (b ++ (st.frzL (argIds st fr vs)).bk) m
      | none => False)
    | none => False
  | none => False
def resB (kn : List (Nat × SV D)) (v : SV D) : SV D := match res kn v with
  | .b x => .b x
  | .p p d => .p p d
  | .k x => .k x
  | _ => v
theorem resB_ok {kn : List (Nat × SV D)} {H : Hp} {ρ : RM} (hk : KnR H ρ kn) {x : Value} {v : SV D} (h : Rv H ρ x v) : Rv H ρ x (resB kn v) := by
  have h2 := res_ok hk h
  unfold resB
  split
  · rename_i e; rw [e] at h2; exact h2
  · rename_i e; rw [e] at h2; exact h2
  · rename_i e; rw [e] at h2; exact h2
  · exact h
def dstN : Option Tmp → Nat
  | some d => 1000000 + d
  | none => 999999
def stepD (E : Env D) (fr : List (Nat × Blk D)) (o : Oper) (st : St D) (K : SV D → Bool → List (Nat × Blk D) → Nat → Prop) : Prop := match o.op with
  | .move x => match evO st.sl x with
    | some v => K (resB st.kn v) false [] st.nx
    | none => False
  | .assign x => match evO st.sl x with
    | some v => K (resB st.kn v) false [] st.nx
    | none => False
  | .pick c a b => match (evO st.sl c).map (res st.kn), evO st.sl a, evO st.sl b with
    | some (.k true), some v, _ => K v false [] st.nx
    | some (.k false), _, some v => K v false [] st.nx
    | _, _, _ => False
  | .call ⟨.value g, xs, _⟩ => match (evO st.sl g).map (res st.kn) with
    | some (.fn f []) => match findC f E.cts with
      | some c => cdP (entB E.P f) (ctD E.P E.tb c st fr xs.toList K) False
      | none => False
    | _ => False
  | op => cdP (isDefer op) False <| match findSp [dstN o.dst] E.sp with
    | some f => match apartE E.P E.tb st fr op (f % 1000) (f / 1000) with
      | some (gs, v, st') => AndL gs (K v true st'.bk st'.nx)
      | none => False
    | none => match opVals st fr op with
      | some vs0 => match prepIds op vs0, quE E.P E.tb st fr op vs0 with
        | [], some (gs, v) => AndL gs (K v false [] st.nx)
        | ids, _ => match opVals (st.frzL ids) fr op with
          | some vs => match opE E.P E.tb (st.frzL ids) fr op vs with
            | some (gs, v, st') => AndL gs (K v true st'.bk st'.nx)
            | none => False
          | none => False
      | none => False
variable {E : Env D} {fr : List (Nat × Blk D)} {F : List Ent} {w0 w : World} {H0 H : Hp} {R : List Ent} {ρ : RM} {L : List Ent} {st : St D} {σ : Nat → Value}
omit [∀ t, Dt (D t)] in
theorem eff_kn (st : St D) (e : Ef D) : (st.eff e).kn = st.kn := by cases e <;> rfl
theorem opE_kn {P : Program} {tb : Tb D} {st st' : St D} {op : Op} {vs : List (SV D)} {gs : List Prop} {v : SV D} (h : opE P tb st fr op vs = some (gs, v, st')) : st'.kn = st.kn := by
  unfold opE at h
  split at h
  · cases h; rfl
  · split at h
    · cases h; rfl
    · split at h
      · cases h; exact eff_kn _ _
      · cases h
def RunOk (P : Program) (G : Hp → Prop) (fr : List (Nat × Blk D)) (kn : List (Nat × SV D)) (ops : Array Oper) (o : Oper) (r : Rc D) : Prop := (r.eat = false ∧ r.nb = [] ∧ Quiet P G fr kn ops o r) ∨ (r.eat = true ∧ Takes P G fr kn ops o r)
theorem RunOk.ex {P : Program} {G : Hp → Prop} {ops : Array Oper} {o : Oper} {v : SV D} {us : List Nat} {kv : Option Bool} {hi : Nat} (hnd : isDefer o.op = false) (h : ∀ {F : List Ent} {w0 w : World} {H0 H : Hp} {R : List Ent} {ρ : RM} {L : List Ent} {σ : Nat → Value}, Sat fr F w0 H0 R H ρ L st σ w → ∃ z, Ex P σ o.op o.type w z w ∧ Rv H ρ z v) : RunOk P G fr st.kn ops o ⟨st.sl, us, st.bk, false, st.nx, hi, v, kv, true, []⟩ := by
  refine .inl ⟨rfl, rfl, fun _ hs hg hd k => ?_⟩
  obtain ⟨z, h1, h2⟩ := h (show Sat _ _ _ _ _ _ _ _ st _ _ from hs)
  obtain ⟨d, op, ty, ps, af, gd⟩ := o
  exact RW.step h1 hnd hg hd (k z _ (fun _ h => h) h2)
theorem RunOk.dn {P : Program} {G : Hp → Prop} {ops : Array Oper} {o : Oper} {v : SV D} {us : List Nat} {kv : Option Bool} {st' : St D} (hkn : st'.kn = st.kn) (h : ∀ {F : List Ent} {w0 w : World} {H0 H : Hp} {R : List Ent} {ρ : RM} {L : List Ent} {σ : Nat → Value}, Sat fr F w0 H0 R H ρ L st σ w → ∃ H1, H.le H1 ∧ Dn P σ o.op o.type w (OutN st.nx fr F w0 H0 R H1 ρ σ st' v)) : RunOk P G fr st.kn ops o ⟨st.sl, us, st.bk, true, st.nx, st'.nx, v, kv, true, st'.bk⟩ := by
  refine .inr ⟨rfl, fun _ hs hg hd k => ?_⟩
  obtain ⟨H1, h0, h1⟩ := h (show Sat _ _ _ _ _ _ _ _ st _ _ from hs)
  obtain ⟨d, op, ty, ps, af, gd⟩ := o
  refine h1 hg hd fun x w' ho => k x w' ?_
  obtain ⟨H', ρ', L', h2, h3, h4, h5, h6⟩ := ho
  exact ⟨H', ρ', L', h0.trans h2, h3, h4, ⟨h5.mem, (fun t v hv => nomatch hv), h5.bk, h5.fr, hkn ▸ h5.kn, h5.nx⟩, h6⟩
theorem quE_ok {P : Program} {tb : Tb D} {ty : TypeId} (htb : TbOk tb) (hs : Sat fr F w0 H0 R H ρ L st σ w) {op : Op} {vs : List (SV D)} {gs : List Prop} {v : SV D} (hv : RvL H ρ (op.operands.toList.map (ev σ)) vs) (h : quE P tb st fr op vs = some (gs, v)) (hg : AllP gs) : ∃ z, Ex P σ op ty w z w ∧ Rv H ρ z v := by
  unfold quE at h
  split at h
  · rename_i r hr
    cases h
    exact exE_ok htb hs hv hr hg
  · exact opSl_ok hs hv h hg
theorem ctD_ok {G : Hp → Prop} (hG : GUp G) {P : Program} {tb : Tb D} {ops : Array Oper} {o : Oper} (htb : TbOk tb) {c : Ct D} {xs : Array Operand} {tys : Array TypeId} {g : Operand} (hc : c.Ok P tb G) (he : Enters P c.f) (ho : o.op = .call ⟨.value g, xs, tys⟩) (hgv : ∀ {H : Hp} {ρ : RM} {σ : Nat → Value}, SlR H ρ st.sl σ → KnR H ρ st.kn → ev σ g = .func (.func c.f) #[] #[]) {K : SV D → Bool → List (Nat × Blk D) → Nat → Prop} (h : ctD P tb c st fr xs.toList K) :
    ∃ v e nb hi, K v e nb hi ∧ ∀ us kv, RunOk P G fr st.kn ops o ⟨st.sl, us, st.bk, e, st.nx, hi, v, kv, true, nb⟩ := by
  unfold ctD at h
  split at h
  · rename_i vs hv
    split at h
    · rename_i x hx
      obtain ⟨y, hW, h⟩ := h
      split at h
      · rename_i s b m hre
        obtain ⟨d, op, ty, ps, af, gd⟩ := o
        have ho : op = .call ⟨.value g, xs, tys⟩ := ho
        subst ho
        have run : ∀ {F : List Ent} {w0 w : World} {H0 H : Hp} {R : List Ent} {ρ : RM} {L : List Ent} {σ : Nat → Value} {r : Option Nat} {md N : Nat} {Q : Exit → List Deferred → (Nat → Value) → World → Prop} {Dd : List Deferred}, G H0 → Sat fr F w0 H0 R H ρ L st σ w → gdOk ops σ gd = true → dstOk d N = true →
            (∀ v w' H1 L1 H' ρ' L', H.le H1 → Sat fr F w0 H0 R H1 ρ L1 (st.frzL (argIds st fr vs)) σ w → Mem w H1 w' H' L' → RM.le ρ ρ' → (∀ id, m ≤ id → ρ' id = none) → (∀ id, id < st.nx → ρ' id = ρ id) → Rv H' ρ' v s → BkR H' ρ' b L' → RW r md P N ops [] Q Dd (upd σ d v) w') → RW r md P N ops [⟨d, .call ⟨.value g, xs, tys⟩, ty, ps, af, gd⟩] Q Dd σ w := by
          intro F w0 w H0 H R ρ L σ r md N Q Dd h0 hs hgd hd k
          obtain ⟨H1, L1, hle1, hs1⟩ := hs.frzL (argIds st fr vs)
          have hA := ctData_ok htb hs1 hx
          have hR := hc x _ hW H1 _ (hG _ _ h0 hs1.mem.old) hA
          refine RW.enter he (hgv hs.sl hs.kn) (by simp) hgd hd ((hR w hs1.mem.agree).mono fun e w' ⟨v, H', L', h1, h2, h3⟩ => ⟨v, h1, (show ∃ H' L', Mem w H1 w' H' L' ∧ ∃ y', y' = y ∧ ResR P tb c.rs c.own y' H' v L' from ⟨H', L', h2, h3⟩)⟩) fun v w' ⟨H', L', hM, y', hy, hr⟩ => ?_
          subst hy
          obtain ⟨ρ', hρ, hm, hn, hlo, hvs, hb⟩ := hr st.nx ρ hs.nx s b m hre
          exact k v w' H1 L1 H' ρ' L' hle1 hs1 hM hρ hn hlo hvs hb
        split at h
        · obtain ⟨h1, h2⟩ := cifP h
          refine ⟨_, _, _, _, h2, fun us kv => .inl ⟨rfl, rfl, fun h0 hs hg hd k => ?_⟩⟩
          have hs : Sat _ _ _ _ _ _ _ _ st _ _ := hs
          exact run h0 hs hg hd fun v w' H1 L1 H' ρ' L' _ _ hM _ _ _ hvs _ => k v w' (fun M hMM => hMM.frame hM.below) (scal_ok h1 hvs)
        · refine ⟨_, _, _, _, h, fun us kv => .inr ⟨rfl, fun h0 hs hg hd k => ?_⟩⟩
          have hs : Sat _ _ _ _ _ _ _ _ st _ _ := hs
          refine run h0 hs hg hd fun v w' H1 L1 H' ρ' L' hle1 hs1 hM hρ hn hlo hvs hb => k v w' ⟨H', ρ', L' ++ L1, hle1.trans hM.old, hρ, hlo, ⟨?_, (fun t v hv => nomatch hv), hb.append (hs1.bk.mono hM.old hρ), hs.fr.mono (hle1.trans hM.old) hρ, hs.kn.mono (hle1.trans hM.old) hρ, hn⟩, hvs⟩
          rw [List.append_assoc]
          exact hs1.mem.comp hM
      · exact h.elim
    · exact h.elim
  · exact h.elim
theorem apartE_kn {P : Program} {tb : Tb D} {st st' : St D} {op : Op} {f e' : Nat} {gs : List Prop} {v : SV D} (h : apartE P tb st fr op f e' = some (gs, v, st')) : st'.kn = st.kn := by
  unfold apartE at h
  split at h
  · split at h
    · split at h
      · split at h
        · have hh := cif h
          clear h
          obtain ⟨_, h⟩ := hh
          split at h
          · split at h
            · cases h; rfl
            · cases h; rfl
            · cases h
          · cases h
        · cases h
      · cases h
    · cases h
  · split at h
    · split at h
      · split at h
        · rename_i k _ _ vs _
          exact (opE_kn h).trans (frz_sl _ _).2.1
        · cases h
      · cases h
    · exact opE_kn h
    · cases h
  · split at h
    · obtain ⟨_, h⟩ := oif h
      obtain ⟨_, h⟩ := oif h
      cases h; rfl
    · cases h
  · cases h
theorem stepD_ok (hE : E.Ok) {ops : Array Oper} {o : Oper} {K : SV D → Bool → List (Nat × Blk D) → Nat → Prop} (h : stepD E fr o st K) : ∃ v e nb hi, K v e nb hi ∧ ∀ us kv, RunOk E.P E.G fr st.kn ops o ⟨st.sl, us, st.bk, e, st.nx, hi, v, kv, true, nb⟩ := by
  unfold stepD at h
  split at h
  · rename_i x hop
    split at h
    · rename_i v hv
      exact ⟨_, _, _, _, h, fun us kv => RunOk.ex (by rw [hop]; rfl) fun hs => ⟨_, by rw [hop]; exact Ex.move _ rfl, resB_ok hs.kn (evO_ok hs.sl hv)⟩⟩
    · exact h.elim
  · rename_i x hop
    split at h
    · rename_i v hv
      exact ⟨_, _, _, _, h, fun us kv => RunOk.ex (by rw [hop]; rfl) fun hs => ⟨_, by rw [hop]; exact Ex.assign _ rfl, resB_ok hs.kn (evO_ok hs.sl hv)⟩⟩
    · exact h.elim
  · rename_i c a b hop
    split at h
    · rename_i v hc ha
      obtain ⟨v0, hv0, hv1⟩ := Option.map_eq_some_iff.1 hc
      refine ⟨_, _, _, _, h, fun us kv => RunOk.ex (by rw [hop]; rfl) fun hs => ⟨_, ?_, evO_ok hs.sl ha⟩⟩
      have hv2 := hs.res (evO_ok hs.sl hv0)
      rw [hv1] at hv2
      rw [hop]; exact Ex.pickT _ hv2 rfl
    · rename_i v hc hb
      obtain ⟨v0, hv0, hv1⟩ := Option.map_eq_some_iff.1 hc
      refine ⟨_, _, _, _, h, fun us kv => RunOk.ex (by rw [hop]; rfl) fun hs => ⟨_, ?_, evO_ok hs.sl hb⟩⟩
      have hv2 := hs.res (evO_ok hs.sl hv0)
      rw [hv1] at hv2
      rw [hop]; exact Ex.pickF _ hv2 rfl
    · exact h.elim
  · rename_i g xs tys hop
    split at h
    · rename_i f hf
      obtain ⟨v0, hv0, hv1⟩ := Option.map_eq_some_iff.1 hf
      split at h
      · rename_i c hc
        obtain ⟨hen, h2⟩ := cifP h
        obtain ⟨hok, hcf⟩ := findC_ok hE.cts hc
        subst hcf
        refine ctD_ok hE.gm hE.tb hok (entB_ok hen) hop (fun hsl hkn => ?_) h2
        have hv2 := res_ok hkn (evO_ok hsl hv0)
        rw [hv1] at hv2
        obtain ⟨cs, e1, e2⟩ := hv2
        obtain rfl : cs = [] := e2
        exact e1
      · exact h.elim
    · exact h.elim
  · cases hdf : isDefer o.op with
    | true => rw [hdf] at h; exact (show False from h).elim
    | false =>
      rw [hdf, cdP_false] at h
      split at h
      · rename_i f hf
        split at h
        · rename_i gs v st' ho
          obtain ⟨hgs, hk⟩ := AndL_ok h
          exact ⟨_, _, _, _, hk, fun us kv => RunOk.dn (st' := st') (apartE_kn ho) fun hs => ⟨_, Hp.le.refl _, apartE_ok hE.tb hs hdf ho hgs⟩⟩
        · exact h.elim
      · split at h
        · rename_i vs0 hvs0
          split at h
          · rename_i gs v hp hq
            obtain ⟨hgs, hk⟩ := AndL_ok h
            exact ⟨_, _, _, _, hk, fun us kv => RunOk.ex hdf fun hs => quE_ok hE.tb hs (opVals_ok hs hvs0) hq hgs⟩
          · split at h
            · rename_i vs hvs
              split at h
              · rename_i gs v st' ho
                obtain ⟨hgs, hk⟩ := AndL_ok h
                have hfz := frzL_sl (prepIds o.op vs0) st
                refine ⟨_, _, _, _, hk, fun us kv => RunOk.dn (st' := st') ?_ fun hs => ?_⟩
                · rw [opE_kn ho, hfz.2.1]
                · obtain ⟨H1, L1, hle1, hs1⟩ := hs.frzL (prepIds o.op vs0)
                  refine ⟨H1, hle1, ?_⟩
                  rw [← hfz.2.2]
                  exact opE_ok hE.tb hs1 hdf (opVals_ok hs1 hvs) ho hgs
              · exact h.elim
            · exact h.elim
        · exact h.elim
end
end
section
section
variable {D : Nat → Type} [∀ t, Dt (D t)]
def passR (nx : Nat) : Rc D := ⟨[], [], [], false, nx, nx, .c undef, none, false, []⟩
def knowR : List (Rc D) → Nat → Bool → List (Rc D)
  | [], _, _ => []
  | r :: l, 0, b => ⟨r.sl, r.us, r.bi, r.eat, r.lo, r.hi, r.u, some b, r.g, r.nb⟩ :: l
  | r :: l, j + 1, b => r :: knowR l j b
def kvOf : SV D → Option Bool
  | .k b => some b
  | _ => none
inductive GdD (D : Nat → Type) where
  | yes | no | bad
  | ask (j : Nat) (v : SV D) (want : Bool)
def gdD (ops : Array Oper) (recs : List (Rc D)) (i : Nat) (gd : Option (Nat × Bool)) : GdD D := match gd with
  | none => .yes
  | some (j, want) => bif (dstOf ops j).isSome && rch ops 40 i j then (match recs[j]? with
    | some rj => match rj.kv with
      | some b => bif b == want then .yes else .no
      | none => match rj.u with
        | .c v => bif isBoolV v then .bad else .no
        | .b x => .ask j (.b x) want
        | .p p d => .ask j (.p p d) want
        | _ => .bad
    | none => .bad) else .bad
def oneD (E : Env D) (fr : List (Nat × Blk D)) (ops : Array Oper) (base : St D) (i : Nat) (o : Oper) (recs : List (Rc D)) (nx : Nat) (K : List (Rc D) → Nat → Prop) : Prop :=
  stepD E fr o ⟨miniS ops base recs i o, (miniU ops base recs i o).flatMap (nbU recs base.bk ops.size), base.kn, nx⟩ fun v e nb hi =>
    cdP ((lowS nx (miniS ops base recs i o) && (lowK nx ((miniU ops base recs i o).flatMap (nbU recs base.bk ops.size)) && (lowV hi v && lowK hi nb))) && (miniU ops base recs i o).all fun u => Nat.blt u recs.length || Nat.ble ops.size u) (K (recs ++ [⟨miniS ops base recs i o, miniU ops base recs i o, (miniU ops base recs i o).flatMap (nbU recs base.bk ops.size), e, nx, hi, v, kvOf v, true, nb⟩]) hi) False
def drawE (E : Env D) (fr : List (Nat × Blk D)) (ops : Array Oper) (base : St D) : Nat → List Oper → List (Rc D) → Nat → (List (Rc D) → Nat → Prop) → Prop
  | _, [], recs, nx, K => K recs nx
  | i, o :: l, recs, nx, K => match gdD ops recs i o.guard with
    | .yes => oneD E fr ops base i o recs nx fun recs nx => drawE E fr ops base (i + 1) l recs nx K
    | .no => drawE E fr ops base (i + 1) l (recs ++ [passR nx]) nx K
    | .ask j v want => askF v
        (cdP want (oneD E fr ops base i o (knowR recs j true) nx (fun recs nx => drawE E fr ops base (i + 1) l recs nx K)) (drawE E fr ops base (i + 1) l (knowR recs j true ++ [passR nx]) nx K))
        (cdP want (drawE E fr ops base (i + 1) l (knowR recs j false ++ [passR nx]) nx K) (oneD E fr ops base i o (knowR recs j false) nx fun recs nx => drawE E fr ops base (i + 1) l recs nx K))
    | .bad => False
def drawF (E : Env D) (N : Nat) (fr : List (Nat × Blk D)) (ops : Array Oper) (st : St D) (K : St D → Prop) : Prop :=
  drawE E fr ops st 0 ops.toList [] st.nx fun recs nx => cdP (chkE ops N && (chain st.nx recs nx && chkR ops ops.size st.bk.length recs 0 recs)) (K ⟨finSl ops 0 recs st.sl, finBk recs st.bk ops.size (ops.size + st.bk.length), st.kn, nx⟩) False
def ExtR (recs recs' : List (Rc D)) : Prop := ∀ (j : Nat) (r : Rc D), recs[j]? = some r → ∃ r' : Rc D, recs'[j]? = some r' ∧ r'.u = r.u ∧ r'.nb = r.nb ∧ ∀ b, r.kv = some b → r'.kv = some b
omit [∀ t, Dt (D t)] in
theorem ExtR.snoc (recs : List (Rc D)) (r : Rc D) : ExtR recs (recs ++ [r]) := fun j q hq => ⟨q, by rw [List.getElem?_append_left (List.getElem?_eq_some_iff.1 hq).1]; exact hq, rfl, rfl, fun _ h => h⟩
omit [∀ t, Dt (D t)] in
theorem knowR_get : ∀ {recs : List (Rc D)} {j k : Nat} {b : Bool} {r : Rc D}, recs[k]? = some r → (knowR recs j b)[k]? = some (if k = j then ⟨r.sl, r.us, r.bi, r.eat, r.lo, r.hi, r.u, some b, r.g, r.nb⟩ else r)
  | [], _, _, _, _, h => by cases h
  | q :: l, 0, 0, b, r, h => by cases h; rfl
  | q :: l, 0, k + 1, b, r, h => by rw [if_neg (by omega)]; exact h
  | q :: l, j + 1, 0, b, r, h => by rw [if_neg (by omega)]; exact h
  | q :: l, j + 1, k + 1, b, r, h => by
    have := knowR_get (recs := l) (j := j) (k := k) (b := b) (r := r) (by simpa using h)
    show (knowR l j b)[k]? = _
    rw [this]
    by_cases hk : k = j
    · rw [if_pos hk, if_pos (by omega)]
    · rw [if_neg hk, if_neg (by omega)]
omit [∀ t, Dt (D t)] in
theorem knowR_len : ∀ {recs : List (Rc D)} {j : Nat} {b : Bool}, (knowR recs j b).length = recs.length
  | [], _, _ => rfl
  | _ :: _, 0, _ => rfl
  | _ :: l, j + 1, b => by
    show (knowR l j b).length + 1 = l.length + 1
    rw [knowR_len]
omit [∀ t, Dt (D t)] in
theorem ExtR.know {recs : List (Rc D)} {j : Nat} {b : Bool} (h : ∀ r : Rc D, recs[j]? = some r → r.kv = none) : ExtR recs (knowR recs j b) := fun k r hr => by
  refine ⟨_, knowR_get hr, ?_, ?_, fun c hc => ?_⟩
  · split <;> rfl
  · split <;> rfl
  · split
    · rename_i hk
      subst hk
      rw [h r hr] at hc; cases hc
    · exact hc
variable {E : Env D} {fr : List (Nat × Blk D)} {base : St D} {ops : Array Oper}
theorem Good.ext {P : Program} {G : Hp → Prop} {recs recs' : List (Rc D)} {i : Nat} {o : Oper} {r : Rc D} (hx : ExtR recs recs') (hu : ∀ u ∈ r.us, u < ops.size → u < recs.length) (h : Good P G fr base ops recs i o r) : Good P G fr base ops recs' i o r := by
  refine ⟨fun t s hts => ?_, ?_, h.kv, ?_, h.low, h.run⟩
  · rcases h.sl t s hts with ⟨j, rj, h1, h2, h3, h4⟩ | h5
    · obtain ⟨r', e1, e2, _, e3⟩ := hx j rj h1
      refine .inl ⟨j, r', e1, h2, h3, ?_⟩
      rcases h4 with h4 | ⟨b, h5, h6⟩
      · exact .inl (h4.trans e2.symm)
      · exact .inr ⟨b, e3 b h5, h6⟩
    · exact .inr h5
  · have hg := h.gd
    cases hgu : o.guard with
    | none => rw [hgu] at hg; exact hg
    | some jw =>
      obtain ⟨j, want⟩ := jw
      rw [hgu] at hg
      obtain ⟨rj, d, h1, h2, h3, h4⟩ := hg
      obtain ⟨r', e1, e2, _, e3⟩ := hx j rj h1
      refine ⟨r', d, e1, h2, h3, ?_⟩
      rcases h4 with ⟨b, h5, h6⟩ | ⟨v, h5, h6⟩
      · exact .inl ⟨b, e3 b h5, h6⟩
      · exact .inr ⟨v, e2.trans h5, h6⟩
  · rw [h.bi]
    have : ∀ (l : List Nat), (∀ u ∈ l, u < ops.size → u < recs.length) → l.flatMap (nbU recs base.bk ops.size) = l.flatMap (nbU recs' base.bk ops.size) := by
      intro l
      induction l with
      | nil => intro _; rfl
      | cons u l ih =>
        intro hl
        rw [List.flatMap_cons, List.flatMap_cons, ih fun v hv => hl v (by simp [hv])]
        congr 1
        unfold nbU
        cases hb : Nat.blt u ops.size with
        | false => rfl
        | true =>
          have hlt := hl u (by simp) (blt_lt hb)
          obtain ⟨r', e1, _, e2, _⟩ := hx u recs[u] (List.getElem?_eq_getElem hlt)
          rw [cond_true, cond_true, e1, List.getElem?_eq_getElem hlt]
          exact e2.symm
    exact this _ hu
def InvR (P : Program) (G : Hp → Prop) (fr : List (Nat × Blk D)) (base : St D) (ops : Array Oper) (recs : List (Rc D)) : Prop := ∀ (j : Nat) (o : Oper) (r : Rc D), ops[j]? = some o → recs[j]? = some r → Good P G fr base ops recs j o r ∧ ∀ u ∈ r.us, u < ops.size → u < recs.length
theorem InvR.snoc {P : Program} {G : Hp → Prop} {recs : List (Rc D)} {r : Rc D} {o : Oper} (hI : InvR P G fr base ops recs) (ho : ops[recs.length]? = some o) (hg : Good P G fr base ops recs recs.length o r) (hu : ∀ u ∈ r.us, u < ops.size → u < recs.length) : InvR P G fr base ops (recs ++ [r]) := by
  intro j o' q ho' hq
  rw [List.length_append]
  rcases Nat.lt_or_ge j recs.length with h | h
  · rw [List.getElem?_append_left h] at hq
    obtain ⟨h1, h2⟩ := hI j o' q ho' hq
    exact ⟨h1.ext (ExtR.snoc _ _) h2, fun u hu hn => Nat.lt_of_lt_of_le (h2 u hu hn) (Nat.le_add_right _ _)⟩
  · have hj : j = recs.length := by
      have := (List.getElem?_eq_some_iff.1 hq).1
      rw [List.length_append] at this
      have : j < recs.length + 1 := this
      omega
    subst hj
    rw [List.getElem?_append_right (Nat.le_refl _), Nat.sub_self] at hq
    cases hq
    rw [ho] at ho'; cases ho'
    exact ⟨hg.ext (ExtR.snoc _ _) hu, fun u hu' hn => Nat.lt_of_lt_of_le (hu u hu' hn) (Nat.le_add_right _ _)⟩
omit [∀ t, Dt (D t)] in
theorem getR_len {recs : List (Rc D)} {j : Nat} {r : Rc D} {recs' : List (Rc D)} (hlen : recs'.length = recs.length) (h : recs'[j]? = some r) : ∃ q, recs[j]? = some q := ⟨recs[j]'(by rw [← hlen]; exact (List.getElem?_eq_some_iff.1 h).1), List.getElem?_eq_getElem _⟩
theorem InvR.know {P : Program} {G : Hp → Prop} {recs : List (Rc D)} {j : Nat} {b : Bool} (hI : InvR P G fr base ops recs) (hn : ∀ r : Rc D, recs[j]? = some r → r.kv = none) (hb : ∀ r : Rc D, recs[j]? = some r → ∀ (H : Hp) (ρ : RM) (x : Value), Rv H ρ x r.u → x = .bool b) : InvR P G fr base ops (knowR recs j b) := by
  intro k o q ho hq
  obtain ⟨r, hr⟩ := getR_len knowR_len hq
  rw [knowR_get hr] at hq
  obtain ⟨h1, h2⟩ := hI k o r ho hr
  have h3 := h1.ext (ExtR.know (b := b) hn) h2
  cases hq
  split
  · rename_i hk
    subst hk
    exact ⟨⟨h3.sl, h3.gd, fun c hc H ρ x hx => by cases hc; exact hb r hr H ρ x hx, h3.bi, h3.low, h3.run⟩, fun u hu hlt => by rw [knowR_len]; exact h2 u hu hlt⟩
  · exact ⟨h3, fun u hu hlt => by rw [knowR_len]; exact h2 u hu hlt⟩
theorem askF_or {v : SV D} {a b : Prop} (h : askF v a b) : (a ∧ ∀ (H : Hp) (ρ : RM) (x : Value), Rv H ρ x v → x = .bool true) ∨ (b ∧ ∀ (H : Hp) (ρ : RM) (x : Value), Rv H ρ x v → x = .bool false) := by
  unfold askF at h
  split at h
  · rename_i y
    cases y with
    | true => exact .inl ⟨h.1 rfl, fun H ρ x hx => hx⟩
    | false => exact .inr ⟨h.2 (by simp), fun H ρ x hx => hx⟩
  · rename_i p d
    by_cases hp : p
    · exact .inl ⟨h.1 hp, fun H ρ x hx => (show x = _ from hx).trans (by rw [decide_eq_true hp])⟩
    · exact .inr ⟨h.2 hp, fun H ρ x hx => (show x = _ from hx).trans (by rw [decide_eq_false hp])⟩
  · exact h.elim
def GdOk (ops : Array Oper) (recs : List (Rc D)) (i : Nat) (gd : Option (Nat × Bool)) (g : Bool) : Prop := match gd with
  | none => g = true
  | some (j, want) => ∃ rj d, recs[j]? = some rj ∧ dstOf ops j = some d ∧ rch ops 40 i j = true ∧ ((∃ b, rj.kv = some b ∧ g = (b == want)) ∨ (∃ v, rj.u = .c v ∧ isBoolV v = false ∧ g = false))
omit [∀ t, Dt (D t)] in
theorem gdD_ok {recs : List (Rc D)} {i : Nat} {gd : Option (Nat × Bool)} : match gdD ops recs i gd with
    | .yes => GdOk ops recs i gd true
    | .no => GdOk ops recs i gd false
    | .ask j v want => ∃ rj, recs[j]? = some rj ∧ rj.kv = none ∧ rj.u = v ∧ ∀ b, GdOk ops (knowR recs j b) i gd (b == want)
    | .bad => True := by
  unfold gdD
  cases gd with
  | none => rfl
  | some jw =>
    obtain ⟨j, want⟩ := jw
    simp only
    cases hc : (dstOf ops j).isSome && rch ops 40 i j with
    | false => simp only [cond_false]
    | true =>
      simp only [cond_true]
      rw [Bool.and_eq_true] at hc
      obtain ⟨d, hd⟩ := Option.isSome_iff_exists.1 hc.1
      cases hr : recs[j]? with
      | none => trivial
      | some rj =>
        simp only
        cases hk : rj.kv with
        | some b =>
          simp only
          cases hb : b == want with
          | true => exact ⟨rj, d, hr, hd, hc.2, .inl ⟨b, hk, hb.symm⟩⟩
          | false => exact ⟨rj, d, hr, hd, hc.2, .inl ⟨b, hk, hb.symm⟩⟩
        | none =>
          simp only
          have ask : ∀ b, GdOk ops (knowR recs j b) i (some (j, want)) (b == want) := fun b => ⟨_, d, knowR_get hr, hd, hc.2, .inl ⟨b, by rw [if_pos rfl], rfl⟩⟩
          cases hu : rj.u with
          | c v =>
            simp only
            cases hv : isBoolV v with
            | true => trivial
            | false => exact ⟨rj, d, hr, hd, hc.2, .inr ⟨v, hu, hv, rfl⟩⟩
          | b x => exact ⟨rj, hr, hk, hu, ask⟩
          | p p i => exact ⟨rj, hr, hk, hu, ask⟩
          | _ => trivial
theorem passR_ok {P : Program} {G : Hp → Prop} {recs : List (Rc D)} {i nx : Nat} {o : Oper} (hg : GdOk ops recs i o.guard false) : Good P G fr base ops recs i o (passR nx) := by
  refine ⟨(fun t s h => by cases h), hg, (fun b h => by cases h), rfl, rfl, .inl ⟨rfl, rfl, fun _ hs hgd hd k => ?_⟩⟩
  obtain ⟨d, op, ty, ps, af, gd⟩ := o
  exact RW.pass hgd hd (k undef _ (fun _ h => h) rfl)
theorem oneD_ok (hE : E.Ok) {i nx : Nat} {o : Oper} {recs : List (Rc D)} {K : List (Rc D) → Nat → Prop} (hI : InvR E.P E.G fr base ops recs) (hlen : recs.length = i) (ho : ops[i]? = some o) (hg : GdOk ops recs i o.guard true) (h : oneD E fr ops base i o recs nx K) : ∃ recs' nx', K recs' nx' ∧ recs'.length = i + 1 ∧ InvR E.P E.G fr base ops recs' := by
  unfold oneD at h
  obtain ⟨v, e, nb, hi, h1, h2⟩ := stepD_ok (ops := ops) hE h
  obtain ⟨hc, hk⟩ := cifP h1
  rw [Bool.and_eq_true, List.all_eq_true] at hc
  have hu : ∀ u ∈ miniU ops base recs i o, u < ops.size → u < recs.length := fun u hu hn => by
    have := hc.2 u hu
    rw [Bool.or_eq_true] at this
    rcases this with h3 | h3
    · exact blt_lt h3
    · have := Nat.le_of_ble_eq_true h3; omega
  refine ⟨_, _, hk, by rw [List.length_append, hlen]; rfl, hI.snoc (by rw [hlen]; exact ho) ?_ hu⟩
  rw [hlen]
  refine ⟨fun t s hts => seeT_ok (seeS_get hts), hg, fun b hb H ρ x hx => ?_, rfl, hc.1, h2 _ _⟩
  have hb : kvOf v = some b := hb
  have hx : Rv H ρ x v := hx
  cases v <;> first | (cases hb; exact hx) | cases hb
theorem drawE_ok (hE : E.Ok) {K : List (Rc D) → Nat → Prop} : ∀ {l : List Oper} {i nx : Nat} {recs : List (Rc D)}, InvR E.P E.G fr base ops recs → recs.length = i → i + l.length = ops.size → (∀ k o, l[k]? = some o → ops[i + k]? = some o) → drawE E fr ops base i l recs nx K → ∃ recs' nx', K recs' nx' ∧ recs'.length = ops.size ∧ InvR E.P E.G fr base ops recs'
  | [], i, nx, recs, hI, hlen, hn, _, h => ⟨recs, nx, h, by rw [hlen, ← hn]; rfl, hI⟩
  | o :: l, i, nx, recs, hI, hlen, hn, hl, h => by
    have ho : ops[i]? = some o := hl 0 o rfl
    have hn' : i + 1 + l.length = ops.size := by rw [← hn, List.length_cons]; omega
    have hl' : ∀ k o, l[k]? = some o → ops[i + 1 + k]? = some o := fun k o' hk => by
      rw [show i + 1 + k = i + (k + 1) by omega]
      exact hl (k + 1) o' (by simpa using hk)
    have pass : ∀ {recs : List (Rc D)}, InvR E.P E.G fr base ops recs → recs.length = i → GdOk ops recs i o.guard false → drawE E fr ops base (i + 1) l (recs ++ [passR nx]) nx K → ∃ recs' nx', K recs' nx' ∧ recs'.length = ops.size ∧ InvR E.P E.G fr base ops recs' := fun hI hlen hg h =>
      drawE_ok hE (hI.snoc (by rw [hlen]; exact ho) (by rw [hlen]; exact passR_ok hg) fun u hu => by cases hu) (by rw [List.length_append, hlen]; rfl) hn' hl' h
    have one : ∀ {recs : List (Rc D)}, InvR E.P E.G fr base ops recs → recs.length = i → GdOk ops recs i o.guard true → (oneD E fr ops base i o recs nx fun recs nx => drawE E fr ops base (i + 1) l recs nx K) → ∃ recs' nx', K recs' nx' ∧ recs'.length = ops.size ∧ InvR E.P E.G fr base ops recs' := fun hI hlen hg h => by
      obtain ⟨recs', nx', h1, h2, h3⟩ := oneD_ok hE hI hlen ho hg h
      exact drawE_ok hE h3 h2 hn' hl' h1
    unfold drawE at h
    have hgd := gdD_ok (ops := ops) (recs := recs) (i := i) (gd := o.guard)
    split at h
    · rename_i hq; rw [hq] at hgd; exact one hI hlen hgd h
    · rename_i hq; rw [hq] at hgd; exact pass hI hlen hgd h
    · rename_i j v want hq
      rw [hq] at hgd
      obtain ⟨rj, hr, hk, hu, hgd⟩ := hgd
      have hn1 : ∀ r : Rc D, recs[j]? = some r → r.kv = none := fun r h => by rw [hr] at h; cases h; exact hk
      rcases askF_or h with ⟨h, hb⟩ | ⟨h, hb⟩
      · have hI' := hI.know (b := true) hn1 fun r h => by rw [hr] at h; cases h; rw [hu]; exact hb
        have := hgd true
        cases want with
        | true => exact one hI' (knowR_len.trans hlen) this h
        | false => exact pass hI' (knowR_len.trans hlen) this h
      · have hI' := hI.know (b := false) hn1 fun r h => by rw [hr] at h; cases h; rw [hu]; exact hb
        have := hgd false
        cases want with
        | true => exact pass hI' (knowR_len.trans hlen) this h
        | false => exact one hI' (knowR_len.trans hlen) this h
    · exact h.elim
theorem drawF_ok (hE : E.Ok) (hm : E.P.follows .mixedOrders = true) {F : List Ent} {w0 w : World} {H0 H : Hp} (h0 : E.G H0) {R : List Ent} {ρ : RM} {L : List Ent} {st : St D} {σ : Nat → Value} {N id : Nat} {rr : Option Nat} {md : Nat} {Q : Exit → List Deferred → (Nat → Value) → World → Prop} {Dd : List Deferred} {K : St D → Prop} (hs : Sat fr F w0 H0 R H ρ L st σ w) (h : drawF E N fr ops st K) (k : Goes fr F w0 H0 R H ρ K fun σ' w' => Q .normal Dd σ' w') : CW rr md E.P N (.region id ops true) Q Dd σ w := by
  unfold drawF at h
  obtain ⟨recs, nx, h1, h2, h3⟩ := drawE_ok (base := st) (ops := ops) (l := ops.toList) (i := 0) (recs := []) hE (fun j o r _ hr => by simp at hr) rfl (by rw [Nat.zero_add]; exact Array.length_toList) (fun k o hk => by rw [Nat.zero_add]; simpa using hk) h
  obtain ⟨hc, hk⟩ := cifP h1
  simp only [Bool.and_eq_true] at hc
  exact drawD_ok h0 hm hs hc.1 hc.2.1 hc.2.2 h2 (fun j o r ho hr => (h3 j o r ho hr).1) fun H' ρ' L' σ' w' g1 g2 _ g3 => k _ _ _ _ _ _ hk g1 g2 g3
end
end
section
section
variable {F : Fence} {n : Nat} {P : Program} {ops : Array Oper} {Q : Exit → Act → World → Prop}
def tailB (ops : Array Oper) (c : Nat) : Bool := Nat.ble c ops.size && (((List.range ops.size).all fun i => match ops[i]? with
  | some o => (o.after.all fun e => !(Region.binds .any e) || Nat.blt e.on i) && (match o.guard with
    | some (j, _) => Nat.blt j i
    | none => true)
  | none => true) && (List.range (ops.size - c)).all fun q => (List.range (c + q)).all fun j => rch ops 40 (c + q) j)
def LsR (ops : Array Oper) (ls : Array Bool) : Prop := ls.size = ops.size ∧ ∀ i j, done ls i → hasEdge ops i j = true → done ls j
theorem done_set {ls : Array Bool} {i k : Nat} (hi : i < ls.size) : done (ls.setIfInBounds i true) k ↔ k = i ∨ done ls k := by
  unfold done
  rw [Array.getD_eq_getD_getElem?, Array.getD_eq_getD_getElem?, Array.getElem?_setIfInBounds]
  by_cases h : i = k
  · subst h
    simp [hi]
  · simp only [h, if_false]
    constructor
    · exact .inr
    · rintro (rfl | h2)
      · exact absurd rfl h
      · exact h2
theorem done_rep (n i : Nat) : ¬ done (Array.replicate n false) i := by
  unfold done
  rw [Array.getD_eq_getD_getElem?, Array.getElem?_replicate]
  split <;> simp
theorem edge_of_ready {ls : Array Bool} {i : Nat} (hi : i ∈ Region.ready .any ops ls) {j : Nat} (hj : hasEdge ops i j = true) : done ls j := by
  obtain ⟨hi1, hi2, hi3⟩ := mem_ready.1 hi
  have hget : ops[i]? = some ops[i] := Array.getElem?_eq_getElem hi1
  rw [hasEdge, hget] at hj
  simp only [← Array.any_toList, List.any_eq_true, Bool.and_eq_true] at hj
  obtain ⟨e, he, hb, hon⟩ := hj
  have := hi3 _ hget e (Array.mem_toList_iff.1 he) hb
  rwa [Nat.eq_of_beq_eq_true hon] at this
theorem done_t {ls : Array Bool} {i : Nat} (hi : i < ls.size) : ls.getD i true = false ↔ ¬ done ls i := by
  unfold done
  rw [Array.getD_eq_getD_getElem?, Array.getD_eq_getD_getElem?, Array.getElem?_eq_getElem hi]
  simp
theorem ready_of {ls : Array Bool} (hls : ls.size = ops.size) {i : Nat} : i ∈ Region.ready .any ops ls ↔ i < ops.size ∧ ¬ done ls i ∧ ∀ j, hasEdge ops i j = true → done ls j := by
  constructor
  · intro hi
    obtain ⟨hi1, hi2, hi3⟩ := mem_ready.1 hi
    exact ⟨hi1, (done_t (by omega)).1 hi2, fun j hj => edge_of_ready hi hj⟩
  · rintro ⟨h1, h2, h3⟩
    refine mem_ready.2 ⟨h1, (done_t (by omega)).2 h2, fun o ho e he hb => ?_⟩
    refine h3 e.on ?_
    rw [hasEdge, ho]
    simp only [← Array.any_toList, List.any_eq_true, Bool.and_eq_true]
    exact ⟨e, Array.mem_toList_iff.2 he, hb, Nat.beq_refl _⟩
theorem wpAny_rest (hB : ∀ i j, i < ops.size → hasEdge ops i j = true → j < i) {c : Nat} (hT : ∀ q, q < ops.size - c → ∀ j, j < c + q → rch ops 40 (c + q) j = true) :
    ∀ (l : List Oper) (k : Nat) (ls : Array Bool) (a : Act) (w : World) (fuel : Nat), c ≤ k → k + l.length = ops.size → (∀ j, l[j]? = ops[k + j]?) → LsR ops ls → (∀ i, i < ops.size → (done ls i ↔ i < k)) → ops.size - k ≤ fuel → wpListIn F n P ops Q l a w → wpAnyIn F n P .any ops Q fuel ls a w
  | [], k, ls, a, w, fuel, hc, hl, hj, hR, hd, hf, h => by
    have hr : Region.ready .any ops ls = [] := by
      cases hx : Region.ready .any ops ls with
      | nil => rfl
      | cons i r =>
        have hi := (ready_of (ops := ops) hR.1 (i := i)).1 (by rw [hx]; exact List.mem_cons_self ..)
        simp at hl
        exact absurd ((hd i hi.1).2 (by omega)) hi.2.1
    cases fuel with
    | zero => exact ⟨hr, h⟩
    | succ f => exact ⟨fun _ => h, fun i hi => by rw [hr] at hi; cases hi⟩
  | o :: l, k, ls, a, w, fuel, hc, hl, hj, hR, hd, hf, h => by
    rw [List.length_cons] at hl
    have ho : ops[k]? = some o := (hj 0).symm
    cases fuel with
    | zero => omega
    | succ f =>
      have hkr : k ∈ Region.ready .any ops ls := by
        refine (ready_of hR.1).2 ⟨by omega, fun hk => ?_, fun j hjk => ?_⟩
        · have := (hd k (by omega)).1 hk
          omega
        · have := hB k j (by omega) hjk
          exact (hd j (by omega)).2 this
      refine ⟨fun hr => (by rw [hr] at hkr; cases hkr), fun i hi => ?_⟩
      obtain ⟨i1, i2, i3⟩ := (ready_of hR.1).1 hi
      have hik : i = k := by
        have hge : k ≤ i := by
          rcases Nat.lt_or_ge i k with h1 | h1
          · exact absurd ((hd i i1).2 h1) i2
          · exact h1
        rcases Nat.lt_or_ge k i with h1 | h1
        · have hrc := hT (i - c) (by omega) k (by omega)
          rw [show c + (i - c) = i by omega] at hrc
          have := rch_ready hR.2 i3 hrc
          have := (hd k (by omega)).1 this
          omega
        · omega
      subst hik
      unfold wpOpIn
      rw [ho]
      simp only
      unfold wpListIn at h
      have hR' : LsR ops (ls.setIfInBounds i true) := ⟨by simpa using hR.1, fun p q hp hq => by
        rcases (done_set (by rw [hR.1]; exact i1)).1 hp with rfl | hp
        · exact (done_set (by rw [hR.1]; exact i1)).2 (.inr (i3 q hq))
        · exact (done_set (by rw [hR.1]; exact i1)).2 (.inr (hR.2 p q hp hq))⟩
      have hd' : ∀ p, p < ops.size → (done (ls.setIfInBounds i true) p ↔ p < i + 1) := fun p hp => by
        rw [done_set (by rw [hR.1]; exact i1), hd p hp]; omega
      have hj' : ∀ j, l[j]? = ops[i + 1 + j]? := fun j => by
        have := hj (j + 1)
        rw [show i + 1 + j = i + (j + 1) by omega, ← this]; rfl
      have next : ∀ a w, wpListIn F n P ops Q l a w → wpAnyIn F n P .any ops Q f (ls.setIfInBounds i true) a w := fun a w h => wpAny_rest hB hT l (i + 1) _ a w f (by omega) (by omega) hj' hR' hd' (by omega) h
      split
      · rename_i hw
        rw [if_pos hw] at h
        exact Oper.wpIn_mono next h
      · rename_i hw
        rw [if_neg hw] at h
        exact ⟨h.1, next _ _ h.2⟩
theorem wpIn_q {Q1 : Exit → Act → World → Prop} (hQ : ∀ e a w, e ≠ .normal → Q1 e a w → Q e a w) {o : Oper} {a : Act} {w : World} {K : Act → World → Prop} (hh : o.wpIn F n P a w K Q1) : o.wpIn F n P a w K Q := by
  unfold Oper.wpIn at *
  refine ⟨hh.1, ?_⟩
  have hh := hh.2
  generalize (o.semAt F.round a.eval).run P w = r at *
  cases r with
  | ok x w' =>
    cases x <;> simp only [Oper.uponIn] at hh ⊢ <;>
      first
        | exact hh
        | exact hQ _ _ _ (by simp) hh
        | exact ⟨hh.1, CallsIn.mono hh.2 (fun e w'' he => by cases e <;> first | exact he | exact hQ _ _ _ (by simp) he | (obtain ⟨x, y, hz⟩ := he; exact ⟨x, y, hQ _ _ _ (by simp) hz⟩))⟩
        | exact ⟨hh.1, RoundIn.mono hh.2 (fun e w'' he => by cases e <;> first | exact he | exact hQ _ _ _ (by simp) he | (obtain ⟨x, y, hz⟩ := he; exact ⟨x, y, hQ _ _ _ (by simp) hz⟩))⟩
  | halt x w' => cases x <;> simp only [Oper.uponIn] at hh ⊢ <;> first | exact hh | exact hQ _ _ _ (by simp) hh
theorem wpAny_tail {Q1 : Exit → Act → World → Prop} (hB : ∀ i j, i < ops.size → hasEdge ops i j = true → j < i) (hG : ∀ (i : Nat) (o : Oper) (j : Nat) (want : Bool), ops[i]? = some o → o.guard = some (j, want) → j < i) {c : Nat} (hc : c ≤ ops.size) (hT : ∀ q, q < ops.size - c → ∀ j, j < c + q → rch ops 40 (c + q) j = true)
    (hQ : ∀ e a w, e ≠ .normal → Q1 e a w → Q e a w) (hQn : ∀ a w, Q1 .normal a w → wpListIn F n P ops Q (ops.toList.drop c) a w) :
    ∀ (fuel : Nat) (ls' ls : Array Bool) (a : Act) (w : World) (fuel' : Nat), LsR (ops.extract 0 c) ls' → LsR ops ls → (∀ i, i < c → (done ls i ↔ done ls' i)) → (∀ i, done ls i → i < c) → fuel + (ops.size - c) ≤ fuel' → wpAnyIn F n P .any (ops.extract 0 c) Q1 fuel ls' a w → wpAnyIn F n P .any ops Q fuel' ls a w := by
  have hget : ∀ i, i < c → (ops.extract 0 c)[i]? = ops[i]? := fun i hi => by
    rw [Array.getElem?_extract]
    simp
    omega
  have hsz : (ops.extract 0 c).size = c := by rw [Array.size_extract]; omega
  have hedge : ∀ i j, i < c → (hasEdge (ops.extract 0 c) i j = hasEdge ops i j) := fun i j hi => by
    unfold hasEdge
    rw [hget i hi]
  have start : ∀ (ls : Array Bool) (a : Act) (w : World) (fuel' : Nat), LsR ops ls → (∀ i, i < ops.size → (done ls i ↔ i < c)) → ops.size - c ≤ fuel' → Q1 .normal a w → wpAnyIn F n P .any ops Q fuel' ls a w := fun ls a w fuel' hR hd hf hq =>
    wpAny_rest hB hT (ops.toList.drop c) c ls a w fuel' (Nat.le_refl _) (by rw [List.length_drop, Array.length_toList]; omega) (fun j => by rw [List.getElem?_drop, Array.getElem?_toList]) hR hd hf (hQn a w hq)
  -- where nothing of the first ones is ready, all of them are done
  have hall : ∀ (ls' ls : Array Bool), LsR (ops.extract 0 c) ls' → LsR ops ls → (∀ i, i < c → (done ls i ↔ done ls' i)) → (∀ i, done ls i → i < c) → Region.ready .any (ops.extract 0 c) ls' = [] → ∀ i, i < ops.size → (done ls i ↔ i < c) := by
    intro ls' ls hR' hR hd hlt hr i hi
    refine ⟨hlt i, fun hic => ?_⟩
    rw [hd i hic]
    revert hic
    induction i using Nat.strongRecOn with
    | _ i ih =>
      intro hic
      refine Classical.byContradiction fun hnd => ?_
      have : i ∈ Region.ready .any (ops.extract 0 c) ls' := by
        refine (ready_of hR'.1).2 ⟨by rw [hsz]; exact hic, hnd, fun j hj => ?_⟩
        rw [hedge i j hic] at hj
        have hji := hB i j hi hj
        exact ih j hji (by omega) (by omega)
      rw [hr] at this
      cases this
  intro fuel
  induction fuel with
  | zero =>
    intro ls' ls a w fuel' hR' hR hd hlt hf h
    exact start ls a w fuel' hR (hall ls' ls hR' hR hd hlt h.1) (by omega) h.2
  | succ f ih =>
    intro ls' ls a w fuel' hR' hR hd hlt hf h
    cases hr : Region.ready .any (ops.extract 0 c) ls' with
    | nil => exact start ls a w fuel' hR (hall ls' ls hR' hR hd hlt hr) (by omega) (h.1 hr)
    | cons i0 r0 =>
      cases fuel' with
      | zero => omega
      | succ f' =>
        have hi0 : i0 ∈ Region.ready .any (ops.extract 0 c) ls' := by rw [hr]; exact List.mem_cons_self ..
        obtain ⟨g1, g2, g3⟩ := (ready_of hR'.1).1 hi0
        rw [hsz] at g1
        have same : ∀ i, i ∈ Region.ready .any ops ls ↔ i ∈ Region.ready .any (ops.extract 0 c) ls' := by
          intro i
          rw [ready_of hR.1, ready_of hR'.1, hsz]
          constructor
          · rintro ⟨h1, h2, h3⟩
            have hic : i < c := by
              rcases Nat.lt_or_ge i c with hx | hx
              · exact hx
              · have hrc := hT (i - c) (by omega) i0 (by omega)
                rw [show c + (i - c) = i by omega] at hrc
                exact absurd ((hd i0 g1).1 (rch_ready hR.2 h3 hrc)) g2
            refine ⟨hic, fun hx => h2 ((hd i hic).2 hx), fun j hj => ?_⟩
            rw [hedge i j hic] at hj
            have := hB i j h1 hj
            exact (hd j (by omega)).1 (h3 j hj)
          · rintro ⟨h1, h2, h3⟩
            refine ⟨by omega, fun hx => h2 ((hd i h1).1 hx), fun j hj => ?_⟩
            have := hB i j (by omega) hj
            rw [← hedge i j h1] at hj
            exact (hd j (by omega)).2 (h3 j hj)
        refine ⟨fun hn => ?_, fun i hi => ?_⟩
        · have := (same i0).2 hi0
          rw [hn] at this
          cases this
        · have hi' := (same i).1 hi
          obtain ⟨k1, k2, k3⟩ := (ready_of hR'.1).1 hi'
          rw [hsz] at k1
          have hop := h.2 i hi'
          have hil : i < ls.size := by rw [hR.1]; omega
          have hil' : i < ls'.size := by rw [hR'.1, hsz]; exact k1
          have hRn : LsR ops (ls.setIfInBounds i true) := ⟨by simpa using hR.1, fun p q hp hq => by
            rcases (done_set hil).1 hp with rfl | hp
            · exact (done_set hil).2 (.inr (edge_of_ready hi hq))
            · exact (done_set hil).2 (.inr (hR.2 p q hp hq))⟩
          have hRn' : LsR (ops.extract 0 c) (ls'.setIfInBounds i true) := ⟨by simpa using hR'.1, fun p q hp hq => by
            rcases (done_set hil').1 hp with rfl | hp
            · exact (done_set hil').2 (.inr (k3 q hq))
            · exact (done_set hil').2 (.inr (hR'.2 p q hp hq))⟩
          have next : ∀ a w, wpAnyIn F n P .any (ops.extract 0 c) Q1 f (ls'.setIfInBounds i true) a w → wpAnyIn F n P .any ops Q f' (ls.setIfInBounds i true) a w := fun a w h =>
            ih _ _ a w f' hRn' hRn (fun p hp => by rw [done_set hil, done_set hil', hd p hp]) (fun p hp => by
              rcases (done_set hil).1 hp with rfl | hp
              · exact k1
              · exact hlt p hp) (by omega) h
          unfold wpOpIn at hop ⊢
          rw [hget i k1] at hop
          split
          · rename_i ho
            rw [Array.getElem?_eq_none_iff] at ho
            omega
          · rename_i o ho
            simp only [ho] at hop
            have hw : Region.wanted o (yielded (ops.extract 0 c) a.tmps) = Region.wanted o (yielded ops a.tmps) := by
              unfold Region.wanted
              cases hgd : o.guard with
              | none => rfl
              | some q =>
                obtain ⟨j, want⟩ := q
                have := hG i o j want ho hgd
                simp only [yielded]
                rw [hget j (by omega)]
            rw [hw] at hop
            split
            · rename_i hx
              rw [if_pos hx] at hop
              exact wpIn_q hQ (Oper.wpIn_mono next hop)
            · rename_i hx
              rw [if_neg hx] at hop
              exact ⟨hop.1, next _ _ hop.2⟩
end
section
variable {D : Nat → Type} [∀ t, Dt (D t)] {P : Program} {N : Nat} {fr : List (Nat × Blk D)} {F : List Ent} {w0 w : World} {H0 H : Hp} {R : List Ent} {ρ : RM} {L : List Ent} {σ : Nat → Value} {Dd : List Deferred}
theorem tailB_ok {ops : Array Oper} {c : Nat} (h : tailB ops c = true) : (∀ i j, i < ops.size → hasEdge ops i j = true → j < i) ∧ (∀ (i : Nat) (o : Oper) (j : Nat) (want : Bool), ops[i]? = some o → o.guard = some (j, want) → j < i) ∧ c ≤ ops.size ∧ ∀ q, q < ops.size - c → ∀ j, j < c + q → rch ops 40 (c + q) j = true := by
  simp only [tailB, Bool.and_eq_true, List.all_eq_true, List.mem_range] at h
  obtain ⟨h1, h2, h3⟩ := h
  refine ⟨fun i j hi hj => ?_, fun i o j want ho hg => ?_, Nat.le_of_ble_eq_true h1, h3⟩
  · have h4 := h2 i hi
    rw [hasEdge, Array.getElem?_eq_getElem hi] at hj
    rw [Array.getElem?_eq_getElem hi] at h4
    simp only [Bool.and_eq_true] at h4
    simp only [← Array.any_toList, List.any_eq_true, Bool.and_eq_true] at hj
    obtain ⟨e, he, hb, hon⟩ := hj
    have h5 := (Array.all_eq_true_iff_forall_mem.1 h4.1) e (Array.mem_toList_iff.1 he)
    rw [← Nat.eq_of_beq_eq_true hon]
    simpa [hb, Nat.blt_eq] using h5
  · have hi : i < ops.size := (Array.getElem?_eq_some_iff.1 ho).1
    have h4 := h2 i hi
    rw [ho] at h4
    simp only [Bool.and_eq_true, hg] at h4
    simpa [Nat.blt_eq] using h4.2
theorem drawT_ok {E : Env D} (hE : E.Ok) (hm : E.P.follows .mixedOrders = true) (h0 : E.G H0) {st : St D} {id : Nat} {rr : Option Nat} {md : Nat} {Q : Exit → List Deferred → (Nat → Value) → World → Prop} {ops : Array Oper} {c : Nat} {K : St D → Prop} (hs : Sat fr F w0 H0 R H ρ L st σ w) (ht : tailB ops c = true) (h : drawF E N fr (ops.extract 0 c) st K)
    (k : Goes fr F w0 H0 R H ρ K fun σ' w' => RW rr md E.P N ops (ops.toList.drop c) Q Dd σ' w') : CW rr md E.P N (.region id ops true) Q Dd σ w := by
  obtain ⟨hB, hG, hc, hT⟩ := tailB_ok ht
  have hsz : (ops.extract 0 c).size = c := by rw [Array.size_extract]; omega
  unfold drawF at h
  obtain ⟨recs, nx, h1, h2, h3⟩ := drawE_ok (base := st) (ops := ops.extract 0 c) (l := (ops.extract 0 c).toList) (i := 0) (recs := []) hE (fun j o r _ hr => by simp at hr) rfl (by rw [Nat.zero_add]; exact Array.length_toList) (fun k o hk => by rw [Nat.zero_add]; rwa [Array.getElem?_toList] at hk) h
  obtain ⟨hck, hk⟩ := cifP h1
  simp only [Bool.and_eq_true] at hck
  intro a ha
  refine wpIn_region_any hm ?_
  refine wpAny_tail (Q1 := lift N fun e D' σ' w' => e = .normal ∧ D' = Dd ∧ RW rr md E.P N ops (ops.toList.drop c) Q Dd σ' w') hB hG hc hT ?_ ?_ c (Array.replicate c false) _ a _ _ ?_ ?_ ?_ ?_ (by omega) ?_
  · rintro e a w he ⟨_, _, _, h4, _⟩
    exact absurd h4 he
  · rintro a w ⟨D', σ', h4, _, rfl, h6⟩
    exact h6 a h4
  · refine ⟨by simp [hsz], fun i j hi => ?_⟩
    have : ¬ done (Array.replicate c false) i := done_rep _ _
    exact absurd hi this
  · refine ⟨by simp, fun i j hi => ?_⟩
    have : ¬ done (Array.replicate ops.size false) i := done_rep _ _
    exact absurd hi this
  · intro i _
    have h4 : ¬ done (Array.replicate c false) i := done_rep _ _
    have h5 : ¬ done (Array.replicate ops.size false) i := done_rep _ _
    exact ⟨fun hx => absurd hx h5, fun hx => absurd hx h4⟩
  · intro i hi
    have : ¬ done (Array.replicate ops.size false) i := done_rep _ _
    exact absurd hi this
  · have := drawD_any (rr := rr) (md := md) (Q := fun e D' σ' w' => e = .normal ∧ D' = Dd ∧ RW rr md E.P N ops (ops.toList.drop c) Q Dd σ' w') h0 hs hck.1 hck.2.1 hck.2.2 h2 (fun j o r ho hr => (h3 j o r ho hr).1) (fun H' ρ' L' σ' w' g1 g2 _ g3 => ⟨rfl, rfl, k _ _ _ _ _ _ hk g1 g2 g3⟩) a ha
    rwa [hsz] at this
end
end
end Go.Proofs.YtbnfefbhalpceaaGreat
