/- Part 4 of the proof of the statement TopPlanExactSaid: lemmas. No condition of its own. -/
import Derived.Lib.TrailingZeros
import Derived.Test.YtklnkmdgajiebaaGreatM3
namespace Go.Proofs.YtklnkmdgajiebaaGreat
open Go.RowKit
section
section
variable {D : Nat → Type} [∀ t, Dt (D t)]
mutual
def lowV (n : Nat) : SV D → Bool
  | .ptr id _ => Nat.blt id n
  | .own id => Nat.blt id n
  | .oel id _ _ _ => Nat.blt id n
  | .vw id _ _ => Nat.blt id n
  | .mp id => Nat.blt id n
  | .hv id _ _ => Nat.blt id n
  | .lel id _ _ => Nat.blt id n
  | .lad id _ => Nat.blt id n
  | .kp id => Nat.blt id n
  | .agg l => lowL n l
  | .tup l => lowL n l
  | .fn _ l => lowL n l
  | .bf _ l => lowL n l
  | _ => true
def lowL (n : Nat) : List (SV D) → Bool
  | [] => true
  | v :: r => lowV n v && lowL n r
end
theorem q73 {a b : Nat} (h : Nat.blt a b = true) : a < b := by simpa [Nat.blt_eq] using h
mutual
theorem q286 {H : Hp} {ρ ρ' : RM} {n : Nat} (hl : ∀ id, id < n → ρ' id = ρ id) : ∀ (s : SV D) {x : Value}, lowV n s = true → Rv H ρ x s → Rv H ρ' x s
  | .i _ _, _, _, h => h
  | .w _, _, _, h => h
  | .y _, _, _, h => h
  | .k _, _, _, h => h
  | .b _, _, _, h => h
  | .p _ _, _, _, h => h
  | .c _, _, _, h => h
  | .nil, _, _, h => h
  | .ptr id off, _, hn, ⟨b, h1, h2⟩ => ⟨b, (hl _ (q73 hn)).trans h1, h2⟩
  | .fsl _ _, _, _, h => h
  | .own id, _, hn, ⟨A, n, c, h1, h2⟩ => ⟨A, n, c, (hl _ (q73 hn)).trans h1, h2⟩
  | .fel _ _ _ _, _, _, h => h
  | .oel id _ _ _, _, hn, ⟨A, n, c, h1, h2⟩ => ⟨A, n, c, (hl _ (q73 hn)).trans h1, h2⟩
  | .agg l, _, hn, ⟨vs, h1, h2⟩ => ⟨vs, h1, q156 hl l (by simpa [lowV] using hn) h2⟩
  | .tup l, _, hn, ⟨vs, h1, h2⟩ => ⟨vs, h1, q156 hl l (by simpa [lowV] using hn) h2⟩
  | .fn _ l, _, hn, ⟨vs, h1, h2⟩ => ⟨vs, h1, q156 hl l (by simpa [lowV] using hn) h2⟩
  | .bf _ l, _, hn, ⟨vs, h1, h2⟩ => ⟨vs, h1, q156 hl l (by simpa [lowV] using hn) h2⟩
  | .kp id, _, hn, h => (hl _ (q73 hn)).trans h
  | .vw id _ _, _, hn, ⟨A, n, c, A', n', c', h1, h2⟩ => ⟨A, n, c, A', n', c', (hl _ (q73 hn)).trans h1, h2⟩
  | .mp id, _, hn, ⟨b, h1, h2⟩ => ⟨b, (hl _ (q73 hn)).trans h1, h2⟩
  | .hv id _ _, _, hn, ⟨A, n, c, h1, h2⟩ => ⟨A, n, c, (hl _ (q73 hn)).trans h1, h2⟩
  | .st _, _, _, h => h
  | .lel id _ _, _, hn, ⟨A, n, c, h1, h2⟩ => ⟨A, n, c, (hl _ (q73 hn)).trans h1, h2⟩
  | .lad id _, _, hn, ⟨A, n, c, h1, h2⟩ => ⟨A, n, c, (hl _ (q73 hn)).trans h1, h2⟩
theorem q156 {H : Hp} {ρ ρ' : RM} {n : Nat} (hl : ∀ id, id < n → ρ' id = ρ id) : ∀ (l : List (SV D)) {vs : List Value}, lowL n l = true → RvL H ρ vs l → RvL H ρ' vs l
  | [], _, _, h => h
  | s :: l, _, hn, ⟨v, r, h1, h2, h3⟩ => by
    have hn : lowV n s = true ∧ lowL n l = true := by simpa [lowL, Bool.and_eq_true] using hn
    exact ⟨v, r, h1, q286 hl s hn.1 h2, q156 hl l hn.2 h3⟩
end
theorem FpR.low {H : Hp} {ρ ρ' : RM} {n K : Nat} (hl : ∀ id, id < n → ρ' id = ρ id) : ∀ {l : List (D K × SV D)} {raws : List (D K × RawC 1)}, lowL n (l.map fun p => p.2) = true → FpR H ρ K raws l → FpR H ρ' K raws l
  | [], _, _, h => h
  | p :: l, _, hn, ⟨r, rs, u, h1, h2, h3, h4, h5⟩ => by
    have hn : lowV n p.2 = true ∧ lowL n (l.map fun p => p.2) = true := by simpa [lowL, Bool.and_eq_true] using hn
    exact ⟨r, rs, u, h1, h2, h3, q286 hl _ hn.1 h4, FpR.low hl hn.2 h5⟩
def lowB (n : Nat) : Blk D → Bool
  | .box _ cs => lowL n cs
  | .fbx _ cs => lowL n cs
  | .itr mid _ _ => Nat.blt mid n
  | .lrw _ _ _ k => Nat.blt k n
  | .lit _ cs => lowL n cs
  | .dmp _ _ _ _ _ _ _ o => match o with
    | some (_, j) => Nat.blt j n
    | none => true
  | .fmp _ _ _ l => lowL n (l.map fun p => p.2)
  | _ => true
def lowK (n : Nat) : List (Nat × Blk D) → Bool
  | [] => true
  | (id, b) :: r => Nat.blt id n && (lowB n b && lowK n r)
theorem q432 {H : Hp} {ρ ρ' : RM} {n : Nat} (hl : ∀ id, id < n → ρ' id = ρ id) : ∀ {bk : List (Nat × Blk D)} {L : List Ent}, lowK n bk = true → BkR H ρ bk L → BkR H ρ' bk L
  | [], _, _, h => h
  | (id, b) :: r, _, hn, ⟨S, L', h1, h2, h3⟩ => by
    simp only [lowK, Bool.and_eq_true] at hn; obtain ⟨g1, g2, g3⟩ := hn; have e := hl id (q73 g1); refine ⟨S, L', h1, ?_, q432 hl g3 h3⟩; cases b with
    | box T cs => obtain ⟨b, vs, k1, k2, k3⟩ := h2; exact ⟨b, vs, e.trans k1, k2, q156 hl cs g2 k3⟩
    | row e' xs => obtain ⟨A, m, c, s, k1, k2⟩ := h2; exact ⟨A, m, c, s, e.trans k1, k2⟩
    | frz e' xs => obtain ⟨k0, A, m, c, s, k1, k2⟩ := h2; exact ⟨k0, A, m, c, s, e.trans k1, k2⟩
    | fbx T cs => obtain ⟨k0, b, vs, k1, k2, k3⟩ := h2; exact ⟨k0, b, vs, e.trans k1, k2, q156 hl cs g2 k3⟩
    | map K V ka va l => obtain ⟨b, es, k1, k2⟩ := h2; exact ⟨b, es, e.trans k1, k2⟩
    | itr mid m seen => obtain ⟨b, c, k1, k2, k3⟩ := h2; exact ⟨b, c, e.trans k1, (hl mid (q73 g2)).trans k2, k3⟩
    | lrw e' xs f k => obtain ⟨A, m, c, s, s', A', m', c', k1, k2, k3⟩ := h2; exact ⟨A, m, c, s, s', A', m', c', e.trans k1, (hl k (q73 g2)).trans k2, k3⟩
    | lit e' cs => obtain ⟨A, m, c, s, k1, k2, k3, k4⟩ := h2; exact ⟨A, m, c, s, e.trans k1, k2, q156 hl cs g2 k3, k4⟩
    | jmp e' => obtain ⟨b, l, k1, k2⟩ := h2; exact ⟨b, l, e.trans k1, k2⟩
    | fmp K V ka l => obtain ⟨b, es, raws, k1, k2, k3, k4⟩ := h2; exact ⟨b, es, raws, e.trans k1, k2, k3, FpR.low hl g2 k4⟩
    | dmp K V ka va f e' l o =>
      obtain ⟨b, es, raws, S', k1, k2, k3, k4⟩ := h2; refine ⟨b, es, raws, S', e.trans k1, k2, k3, k4.low fun q j hq => ?_⟩; subst hq; exact hl j (q73 g2)
def lowS (n : Nat) : List (Nat × SV D) → Bool
  | [] => true
  | (_, v) :: r => lowV n v && lowS n r
theorem lowS_ok {H : Hp} {ρ ρ' : RM} {n : Nat} (hl : ∀ id, id < n → ρ' id = ρ id) : ∀ {l : List (Nat × SV D)} {σ : Nat → Value}, lowS n l = true → SlR H ρ l σ → SlR H ρ' l σ := by
  intro l
  induction l with
  | nil => intro σ _ _ t v h; cases h
  | cons p r ih =>
    obtain ⟨t0, v0⟩ := p; intro σ hn hs t v hg; simp only [lowS, Bool.and_eq_true] at hn; unfold getS at hg; cases hb : Nat.beq t t0 with
    | true =>
      rw [hb] at hg; cases hg; exact q286 hl v0 hn.1 (hs t v0 (by unfold getS; rw [hb]; rfl))
    | false =>
      rw [hb] at hg
      have hlow : ∀ {l : List (Nat × SV D)} {v : SV D}, lowS n l = true → getS l t = some v → lowV n v = true := by
        intro l
        induction l with
        | nil => intro v _ h; cases h
        | cons q s ih2 =>
          obtain ⟨a, b⟩ := q; intro v hl h; simp only [lowS, Bool.and_eq_true] at hl; unfold getS at h; cases hc : Nat.beq t a with
          | true => rw [hc] at h; cases h; exact hl.1
          | false => rw [hc] at h; exact ih2 hl.2 h
      exact q286 hl v (hlow hn.2 hg) (hs t v (by unfold getS; rw [hb]; exact hg))
structure Rc (D : Nat → Type) where
  sl : List (Nat × SV D)
  us : List Nat
  bi : List (Nat × Blk D)
  eat : Bool
  lo : Nat
  hi : Nat
  u : SV D
  kv : Option Bool
  g : Bool
  nb : List (Nat × Blk D)
def Quiet (P : Program) (G : Hp → Prop) (fr : List (Nat × Blk D)) (kn : List (Nat × SV D)) (ops : Array Oper) (o : Oper) (rc : Rc D) : Prop :=
  ∀ {F : List Ent} {w0 w : World} {H0 H : Hp} {R : List Ent} {ρ : RM} {L : List Ent} {σ : Nat → Value} {r : Option Nat} {md N : Nat} {Q : Exit → List Deferred → (Nat → Value) → World → Prop} {Dd : List Deferred}, G H0 → Sat fr F w0 H0 R H ρ L ⟨rc.sl, rc.bi, kn, rc.lo⟩ σ w → gdOk ops σ o.guard = rc.g → dstOk o.dst N = true →
    (∀ x w', (∀ M, Mem w0 H0 w H M → Mem w0 H0 w' H M) → Rv H ρ x rc.u → RW r md P N ops [] Q Dd (upd σ o.dst x) w') → RW r md P N ops [o] Q Dd σ w
def Takes (P : Program) (G : Hp → Prop) (fr : List (Nat × Blk D)) (kn : List (Nat × SV D)) (ops : Array Oper) (o : Oper) (rc : Rc D) : Prop :=
  ∀ {F : List Ent} {w0 w : World} {H0 H : Hp} {R : List Ent} {ρ : RM} {L : List Ent} {σ : Nat → Value} {r : Option Nat} {md N : Nat} {Q : Exit → List Deferred → (Nat → Value) → World → Prop} {Dd : List Deferred}, G H0 → Sat fr F w0 H0 R H ρ L ⟨rc.sl, rc.bi, kn, rc.lo⟩ σ w → gdOk ops σ o.guard = rc.g → dstOk o.dst N = true →
    (∀ x w', OutN rc.lo fr F w0 H0 R H ρ (fun _ => undef) ⟨[], rc.nb, kn, rc.hi⟩ rc.u x w' → RW r md P N ops [] Q Dd (upd σ o.dst x) w') → RW r md P N ops [o] Q Dd σ w
def rch (ops : Array Oper) : Nat → Nat → Nat → Bool
  | 0, _, _ => false
  | f + 1, i, j => q25 ops i j || (List.range i).any fun k => Nat.blt j k && (q25 ops i k && rch ops f k j)
def done (ls : Array Bool) (i : Nat) : Prop := ls.getD i false = true
theorem q403 {ops : Array Oper} {ls : Array Bool} (hcl : ∀ i j, done ls i → q25 ops i j = true → done ls j) : ∀ (f i j : Nat), rch ops f i j = true → done ls i → done ls j
  | 0, _, _, h, _ => by cases h
  | f + 1, i, j, h, hi => by
    simp only [rch, Bool.or_eq_true, List.any_eq_true, Bool.and_eq_true] at h; rcases h with h | ⟨k, _, _, h1, h2⟩
    · exact hcl i j hi h
    · exact q403 hcl f k j h2 (hcl i k hi h1)
def nbU (recs : List (Rc D)) (bk : List (Nat × Blk D)) (n u : Nat) : List (Nat × Blk D) := bif Nat.blt u n then (match recs[u]? with
    | some r => r.nb
    | none => []) else (match bk[u - n]? with
    | some q => [q]
    | none => [])
def eatsU (recs : List (Rc D)) (k u : Nat) : Bool := match recs[k]? with
  | some r => r.eat && r.us.any (Nat.beq u)
  | none => false
def q486 : List Nat → Bool
  | [] => true
  | a :: l => !(l.any (Nat.beq a)) && q486 l
def chkU (ops : Array Oper) (n b : Nat) (recs : List (Rc D)) (i : Nat) (r : Rc D) : Bool := q486 r.us && r.us.all fun u => Nat.blt u (n + b) && ((!(Nat.blt u n) || rch ops 40 i u) && (List.range n).all fun k => !(eatsU recs k u) || (Nat.beq k i || rch ops 40 k i))
def chkE (ops : Array Oper) (N : Nat) : Bool := ((List.range ops.size).all fun i => match ops[i]? with
    | some o => (o.after.all fun e => !(Region.binds .any e) || Nat.blt e.on i) && dstOk o.dst N
    | none => true) && (List.range ops.size).all fun i => (List.range ops.size).all fun j => Nat.beq i j || !(sameB ops i j)
def chkR (ops : Array Oper) (n b : Nat) (recs : List (Rc D)) : Nat → List (Rc D) → Bool
  | _, [] => true
  | i, r :: l => chkU ops n b recs i r && chkR ops n b recs (i + 1) l
omit [∀ t, Dt (D t)] in
theorem q433 {ops : Array Oper} {n b : Nat} {recs : List (Rc D)} : ∀ {l : List (Rc D)} {i j : Nat} {r : Rc D}, chkR ops n b recs i l = true → l[j]? = some r → chkU ops n b recs (i + j) r = true
  | [], _, _, _, _, h => by cases h
  | q :: l, i, 0, r, h, hj => by
    simp only [chkR, Bool.and_eq_true] at h; cases hj; exact h.1
  | q :: l, i, j + 1, r, h, hj => by
    simp only [chkR, Bool.and_eq_true] at h; have := q433 h.2 (j := j) (by simpa using hj); rw [show i + (j + 1) = i + 1 + j by omega]; exact this
def chain : Nat → List (Rc D) → Nat → Bool
  | n, [], m => Nat.beq n m
  | n, r :: l, m => Nat.beq n r.lo && (Nat.ble r.lo r.hi && chain r.hi l m)
omit [∀ t, Dt (D t)] in
theorem q366 : ∀ {l : List (Rc D)} {n m : Nat}, chain n l m = true → n ≤ m
  | [], n, m, h => by rw [Nat.eq_of_beq_eq_true h]; exact Nat.le_refl _
  | r :: l, n, m, h => by
    simp only [chain, Bool.and_eq_true] at h; have h1 := Nat.eq_of_beq_eq_true h.1; have h2 := Nat.le_of_ble_eq_true h.2.1; have := q366 h.2.2; omega
omit [∀ t, Dt (D t)] in
theorem q210 : ∀ {l : List (Rc D)} {n m j : Nat} {r : Rc D}, chain n l m = true → l[j]? = some r → n ≤ r.lo ∧ r.lo ≤ r.hi ∧ r.hi ≤ m
  | [], _, _, _, _, _, h => by cases h
  | q :: l, n, m, 0, r, h, hj => by
    cases hj; simp only [chain, Bool.and_eq_true] at h; have h1 := Nat.eq_of_beq_eq_true h.1; exact ⟨by omega, Nat.le_of_ble_eq_true h.2.1, q366 h.2.2⟩
  | q :: l, n, m, j + 1, r, h, hj => by
    simp only [chain, Bool.and_eq_true] at h; have h1 := Nat.eq_of_beq_eq_true h.1; have h2 := Nat.le_of_ble_eq_true h.2.1; have := q210 h.2.2 (j := j) (by simpa using hj); exact ⟨by omega, this.2⟩
omit [∀ t, Dt (D t)] in
theorem q367 : ∀ {l : List (Rc D)} {n m i j : Nat} {r q : Rc D}, chain n l m = true → l[i]? = some r → l[j]? = some q → i < j → r.hi ≤ q.lo
  | [], _, _, _, _, _, _, _, h, _, _ => by cases h
  | p :: l, n, m, 0, j + 1, r, q, h, hi, hj, _ => by
    cases hi; simp only [chain, Bool.and_eq_true] at h; exact (q210 h.2.2 (j := j) (by simpa using hj)).1
  | p :: l, n, m, i + 1, j + 1, r, q, h, hi, hj, hij => by
    simp only [chain, Bool.and_eq_true] at h; exact q367 h.2.2 (by simpa using hi) (by simpa using hj) (by omega)
  | p :: l, n, m, i, 0, _, _, _, _, _, h => by omega
theorem q157 {ops : Array Oper} {ls : Array Bool} (hcl : ∀ i j, done ls i → q25 ops i j = true → done ls j) {i : Nat} (hr : ∀ j, q25 ops i j = true → done ls j) : ∀ {f j : Nat}, rch ops f i j = true → done ls j
  | 0, _, h => by cases h
  | f + 1, j, h => by
    simp only [rch, Bool.or_eq_true, List.any_eq_true, Bool.and_eq_true] at h; rcases h with h | ⟨k, _, _, h1, h2⟩
    · exact hr j h
    · exact q403 hcl f k j h2 (hr k h1)
structure Good (P : Program) (G : Hp → Prop) (fr : List (Nat × Blk D)) (base : St D) (ops : Array Oper) (recs : List (Rc D)) (i : Nat) (o : Oper) (r : Rc D) : Prop where
  sl : ∀ t s, getS r.sl t = some s → (∃ j rj, recs[j]? = some rj ∧ dstOf ops j = some t ∧ rch ops 40 i j = true ∧ (s = rj.u ∨ ∃ b, rj.kv = some b ∧ s = .k b)) ∨ ((∀ j, dstOf ops j = some t → rch ops 40 j i = true) ∧ getS base.sl t = some s)
  gd : match o.guard with
    | none => r.g = true
    | some (j, want) => ∃ rj d, recs[j]? = some rj ∧ dstOf ops j = some d ∧ rch ops 40 i j = true ∧ ((∃ b, rj.kv = some b ∧ r.g = (b == want)) ∨ (∃ v, rj.u = .c v ∧ q119 v = false ∧ r.g = false))
  kv : ∀ b, r.kv = some b → ∀ (H : Hp) (ρ : RM) (x : Value), Rv H ρ x r.u → x = .bool b
  bi : r.bi = r.us.flatMap (nbU recs base.bk ops.size)
  low : (lowS r.lo r.sl && (lowK r.lo r.bi && (lowV r.hi r.u && lowK r.hi r.nb))) = true
  run : (r.eat = false ∧ r.nb = [] ∧ Quiet P G fr base.kn ops o r) ∨ (r.eat = true ∧ Takes P G fr base.kn ops o r)
end
end
section
section
variable {D : Nat → Type} [∀ t, Dt (D t)]
def clr (us : List Nat) (X : Nat → List Ent) (u : Nat) : List Ent := bif us.any (Nat.beq u) then [] else X u
theorem q571 (X : Nat → List Ent) {i T : Nat} (hi : i < T) : (flatX X T).Perm (X i ++ flatX (setX X i []) T) := by
  have h := q126 X hi (X i)
  have e : setX X i (X i) = X := by
    funext j; unfold setX; split
    · rename_i h; rw [h]
    · rfl
  rwa [e] at h
theorem q572 (X : Nat → List Ent) {i T : Nat} (hi : i < T) (h0 : X i = []) (E : List Ent) : (flatX (setX X i E) T).Perm (E ++ flatX X T) := by
  have h := q126 X hi E
  have e : setX X i [] = X := by
    funext j; unfold setX; split
    · rename_i h; rw [h, h0]
    · rfl
  rwa [e] at h
theorem q487 {T : Nat} : ∀ (us : List Nat) (X : Nat → List Ent), q486 us = true → (∀ u ∈ us, u < T) → (flatX X T).Perm (us.flatMap X ++ flatX (clr us X) T)
  | [], X, _, _ => by
    have e : clr [] X = X := rfl; rw [e]; exact List.Perm.refl _
  | a :: us, X, hd, hT => by
    simp only [q486, Bool.and_eq_true, Bool.not_eq_true'] at hd; have h1 := q571 X (hT a (by simp)); have h2 := q487 us (setX X a []) hd.2 fun u hu => hT u (by simp [hu])
    have e1 : us.flatMap (setX X a []) = us.flatMap X := flatMap_congr' us fun u hu => by
      unfold setX
      split
      · rename_i h
        subst h; have := hd.1; rw [List.any_eq_false] at this; exact absurd (Nat.beq_refl u) (this u hu)
      · rfl
    have e2 : clr us (setX X a []) = clr (a :: us) X := by
      funext u
      unfold clr setX; rw [List.any_cons]; by_cases h : u = a
      · subst h
        simp [Nat.beq_refl]
      · have hb : Nat.beq u a = false := by
          cases hx : Nat.beq u a with
          | true => exact absurd (Nat.eq_of_beq_eq_true hx) h
          | false => rfl
        rw [if_neg h, hb, Bool.false_or]
    rw [List.flatMap_cons, List.append_assoc]; rw [e1, e2] at h2; exact h1.trans (h2.append_left _)
theorem BkR.units {H : Hp} {ρ : RM} {f : Nat → List (Nat × Blk D)} {X : Nat → List Ent} : ∀ {us : List Nat}, (∀ u ∈ us, BkR H ρ (f u) (X u)) → BkR H ρ (us.flatMap f) (us.flatMap X)
  | [], _ => rfl
  | a :: us, h => by
    rw [List.flatMap_cons, List.flatMap_cons]; exact (h a (by simp)).append (BkR.units fun u hu => h u (by simp [hu]))
theorem BkR.each {H : Hp} {ρ : RM} : ∀ {bk : List (Nat × Blk D)} {L : List Ent}, BkR H ρ bk L → ∃ Y : Nat → List Ent, L = (List.range bk.length).flatMap Y ∧ ∀ j q, bk[j]? = some q → BkR H ρ [q] (Y j)
  | [], L, h => ⟨fun _ => [], h, fun _ _ h => by cases h⟩
  | (id, b) :: r, L, ⟨S, L', h1, h2, h3⟩ => by
    obtain ⟨Y, h4, h5⟩ := BkR.each h3; refine ⟨fun j => match j with | 0 => S | j + 1 => Y j, ?_, ?_⟩
    · rw [List.length_cons, List.range_succ_eq_map, List.flatMap_cons, List.flatMap_map, h1, h4]
    · intro j q hq
      cases j with
      | zero => cases hq; exact ⟨S, [], by simp, h2, rfl⟩
      | succ j => exact h5 j q hq
def valR (r : Rc D) : SV D := match r.kv with
  | some b => .k b
  | none => r.u
def finSl (ops : Array Oper) : Nat → List (Rc D) → List (Nat × SV D) → List (Nat × SV D)
  | _, [], sl => sl
  | i, r :: l, sl => finSl ops (i + 1) l (putS sl (dstOf ops i) (valR r))
def deadU (recs : List (Rc D)) (n u : Nat) : Bool := (List.range n).any fun k => eatsU recs k u
def finBk (recs : List (Rc D)) (bk : List (Nat × Blk D)) (n T : Nat) : List (Nat × Blk D) := (List.range T).flatMap fun u => bif deadU recs n u then [] else nbU recs bk n u
omit [∀ t, Dt (D t)] in
theorem q404 {ops : Array Oper} {t : Nat} {s : SV D} : ∀ {l : List (Rc D)} {i : Nat} {sl : List (Nat × SV D)}, getS (finSl ops i l sl) t = some s → (∃ j r, l[j]? = some r ∧ dstOf ops (i + j) = some t ∧ s = valR r) ∨ (getS sl t = some s ∧ ∀ j, j < l.length → dstOf ops (i + j) ≠ some t)
  | [], i, sl, h => .inr ⟨h, fun j hj => by cases hj⟩
  | r :: l, i, sl, h => by
    rcases q404 (l := l) (i := i + 1) h with ⟨j, r', h1, h2, h3⟩ | ⟨h1, h2⟩
    · exact .inl ⟨j + 1, r', by simpa using h1, by rw [show i + (j + 1) = i + 1 + j by omega]; exact h2, h3⟩
    · have hrest : ∀ j, j < l.length → dstOf ops (i + (j + 1)) ≠ some t := fun j hj => by rw [show i + (j + 1) = i + 1 + j by omega]; exact h2 j hj
      cases hd : dstOf ops i with
      | none =>
        rw [hd] at h1; refine .inr ⟨h1, fun j hj => ?_⟩; cases j with
        | zero => rw [Nat.add_zero, hd]; intro h; cases h
        | succ j => exact hrest j (by simpa using hj)
      | some d =>
        rw [hd] at h1; simp only [putS, q128] at h1; cases hb : Nat.beq t d with
        | true =>
          rw [hb] at h1; obtain rfl := Nat.eq_of_beq_eq_true hb; exact .inl ⟨0, r, rfl, hd, (Option.some.inj h1).symm⟩
        | false =>
          rw [hb] at h1; refine .inr ⟨h1, fun j hj => ?_⟩; cases j with
          | zero => rw [Nat.add_zero, hd]; intro h; cases h; rw [Nat.beq_refl] at hb; cases hb
          | succ j => exact hrest j (by simpa using hj)
def liveU (recs : List (Rc D)) (n : Nat) (ls : Array Bool) (u : Nat) : Prop := (u < n → done ls u) ∧ ∀ k, k < n → done ls k → eatsU recs k u = false
structure DrI (fr : List (Nat × Blk D)) (F : List Ent) (w0 : World) (H0 : Hp) (R : List Ent) (H : Hp) (ρ : RM) (σ : Nat → Value) (base : St D) (nx : Nat) (N : Nat) (Dd : List Deferred) (ops : Array Oper) (recs : List (Rc D)) (ls : Array Bool) (σ' : Nat → Value) (H' : Hp) (ρ' : RM) (X : Nat → List Ent) (w' : World) : Prop where
  hH : H.le H'
  hρ : RM.le ρ ρ'
  low : ∀ id, id < base.nx → ρ' id = ρ id
  mem : Mem w0 H0 w' H' (flatX X (ops.size + base.bk.length) ++ (F ++ R))
  val : ∀ i r d, done ls i → recs[i]? = some r → dstOf ops i = some d → Rv H' ρ' (σ' d) r.u
  live : ∀ u, u < ops.size + base.bk.length → liveU recs ops.size ls u → BkR H' ρ' (nbU recs base.bk ops.size u) (X u)
  dead : ∀ u, u < ops.size + base.bk.length → ¬ liveU recs ops.size ls u → X u = []
  free : ∀ i r, recs[i]? = some r → ¬ done ls i → ∀ id, r.lo ≤ id → id < r.hi → ρ' id = none
  nx : ∀ id, nx ≤ id → ρ' id = none
  old : ∀ t, (∀ j, done ls j → dstOf ops j ≠ some t) → σ' t = σ t
  cl : ∀ i j, done ls i → q25 ops i j = true → done ls j
section
variable {P : Program} {fr : List (Nat × Blk D)} {F : List Ent} {w0 w : World} {H0 H : Hp} {R : List Ent} {ρ : RM} {L : List Ent} {base : St D} {σ : Nat → Value} {nx N : Nat} {Dd : List Deferred} {ops : Array Oper} {recs : List (Rc D)}
theorem DrI.step {ls : Array Bool} {σ' : Nat → Value} {H' : Hp} {ρ' : RM} {X : Nat → List Ent} {w' : World} (hI : DrI fr F w0 H0 R H ρ σ base nx N Dd ops recs ls σ' H' ρ' X w') {i : Nat} (hi : i < ops.size) (hsz : ls.size = ops.size) (hnd : ¬ done ls i) (hed : ∀ j, q25 ops i j = true → done ls j)
    (hdist : ∀ i j, i < ops.size → j < ops.size → i ≠ j → ∀ d, dstOf ops i = some d → dstOf ops j ≠ some d) (hlen : recs.length = ops.size)
    {r : Rc D} (hr : recs[i]? = some r) (hself : eatsU recs i i = false) (heat : ∀ k, k < ops.size → done ls k → eatsU recs k i = false)
    {x : Value} {w2 : World} {H2 : Hp} {ρ2 : RM} {X2 : Nat → List Ent} (hH2 : H'.le H2) (hρ2 : RM.le ρ' ρ2) (hlow : ∀ id, id < base.nx → ρ2 id = ρ' id) (hM : Mem w0 H0 w2 H2 (flatX X2 (ops.size + base.bk.length) ++ (F ++ R))) (hx : Rv H2 ρ2 x r.u)
    (hX : ∀ u, u ≠ i → X2 u = bif eatsU recs i u then [] else X u) (hXi : BkR H2 ρ2 r.nb (X2 i))
    (hfree : ∀ j q, recs[j]? = some q → j ≠ i → ¬ done ls j → ∀ id, q.lo ≤ id → id < q.hi → ρ2 id = ρ' id) (hnx : ∀ id, nx ≤ id → ρ2 id = none) :
    DrI fr F w0 H0 R H ρ σ base nx N Dd ops recs (ls.setIfInBounds i true) (upd σ' (dstOf ops i) x) H2 ρ2 X2 w2 := by
  have hset : ∀ j, done (ls.setIfInBounds i true) j ↔ j = i ∨ done ls j := by
    intro j; unfold done; rw [Array.getD_eq_getD_getElem?, Array.getD_eq_getD_getElem?, Array.getElem?_setIfInBounds]; by_cases h : j = i
    · subst h; simp [hsz, hi]
    · rw [if_neg (by omega)]; simp [h]
  have hnb : nbU recs base.bk ops.size i = r.nb := by
    unfold nbU; rw [show Nat.blt i ops.size = true by simpa [Nat.blt_eq] using hi, cond_true, hr]
  have hlive : ∀ u, u ≠ i → (liveU recs ops.size (ls.setIfInBounds i true) u ↔ (liveU recs ops.size ls u ∧ eatsU recs i u = false)) := by
    intro u hu; constructor
    · rintro ⟨h1, h2⟩
      exact ⟨⟨fun hn => ((hset u).1 (h1 hn)).resolve_left hu, fun k hk hd => h2 k hk ((hset k).2 (.inr hd))⟩, h2 i hi ((hset i).2 (.inl rfl))⟩
    · rintro ⟨⟨h1, h2⟩, h3⟩
      exact ⟨fun hn => (hset u).2 (.inr (h1 hn)), fun k hk hd => by
        rcases (hset k).1 hd with rfl | hd
        · exact h3
        · exact h2 k hk hd⟩
  have hlivei : liveU recs ops.size (ls.setIfInBounds i true) i := ⟨fun _ => (hset i).2 (.inl rfl), fun k hk hd => by
    rcases (hset k).1 hd with rfl | hd
    · exact hself
    · exact heat k hk hd⟩
  refine ⟨hI.hH.trans hH2, hI.hρ.trans hρ2, fun id hid => (hlow id hid).trans (hI.low id hid), hM, ?_, ?_, ?_, ?_, hnx, ?_, ?_⟩
  · intro j q d hd hq hdj
    by_cases hji : j = i
    · subst hji
      rw [hr] at hq; cases hq; rw [hdj]; show Rv H2 ρ2 (bif Nat.beq d d then x else σ' d) r.u; rw [Nat.beq_refl]; exact hx
    · have hdl := ((hset j).1 hd).resolve_left hji
      have hj : j < ops.size := by rw [← hlen]; exact (List.getElem?_eq_some_iff.1 hq).1
      have hv := (hI.val j q d hdl hq hdj).mono hH2 hρ2
      have : upd σ' (dstOf ops i) x d = σ' d := by
        cases hdi : dstOf ops i with
        | none => rfl
        | some d' =>
          show (bif Nat.beq d d' then x else σ' d) = σ' d; cases hb : Nat.beq d d' with
          | true =>
            obtain rfl := Nat.eq_of_beq_eq_true hb; exact absurd hdj (hdist i j hi hj (Ne.symm hji) d hdi)
          | false => rfl
      rw [this]; exact hv
  · intro u hu hl
    by_cases hui : u = i
    · subst hui; rw [hnb]; exact hXi
    · obtain ⟨h1, h2⟩ := (hlive u hui).1 hl
      rw [hX u hui, h2]; exact (hI.live u hu h1).mono hH2 hρ2
  · intro u hu hl
    by_cases hui : u = i
    · subst hui; exact absurd hlivei hl
    · rw [hX u hui]
      cases he : eatsU recs i u with
      | true => rfl
      | false => exact hI.dead u hu fun h => hl ((hlive u hui).2 ⟨h, he⟩)
  · intro j q hq hd id h1 h2
    have hji : j ≠ i := fun h => hd ((hset j).2 (.inl h)); have hdl : ¬ done ls j := fun h => hd ((hset j).2 (.inr h)); rw [hfree j q hq hji hdl id h1 h2]; exact hI.free j q hq hdl id h1 h2
  · intro t ht
    rw [← hI.old t fun j hd => ht j ((hset j).2 (.inr hd))]; cases hdi : dstOf ops i with
    | none => rfl
    | some d' =>
      show (bif Nat.beq t d' then x else σ' t) = σ' t; cases hb : Nat.beq t d' with
      | true =>
        obtain rfl := Nat.eq_of_beq_eq_true hb; exact absurd hdi (ht i ((hset i).2 (.inl rfl)))
      | false => rfl
  · intro j k hd he
    rcases (hset j).1 hd with rfl | hd
    · exact (hset k).2 (.inr (hed k he))
    · exact (hset k).2 (.inr (hI.cl j k hd he))
theorem q522 (X : Nat → List Ent) (n b : Nat) : flatX X (n + b) = flatX X n ++ (List.range b).flatMap fun j => X (n + j) := by
  unfold flatX; rw [List.range_add, List.flatMap_append, List.flatMap_map]
theorem DrI.init (hs : Sat fr F w0 H0 R H ρ L base σ w) (hch : chain base.nx recs nx = true) : ∃ X, DrI fr F w0 H0 R H ρ σ base nx N Dd ops recs (Array.replicate ops.size false) σ H ρ X w.drew := by
  obtain ⟨Y, h1, h2⟩ := hs.bk.each
  have hg2 : ∀ i, ¬ done (Array.replicate ops.size false) i := by
    intro i; unfold done; rw [Array.getD_eq_getD_getElem?]; simp only [Array.getElem?_replicate]
    split <;> simp
  refine ⟨fun u => if u < ops.size then [] else Y (u - ops.size), Hp.le.refl _, RM.le.refl _, fun _ _ => rfl, ?_, fun i _ _ h => absurd h (hg2 i), ?_, ?_, ?_, fun id hid => hs.nx _ (Nat.le_trans (q366 hch) hid), fun _ _ => rfl, fun i _ h => absurd h (hg2 i)⟩
  · have e1 : flatX (fun u => if u < ops.size then [] else Y (u - ops.size)) ops.size = [] := by
      unfold flatX; rw [flatMap_congr' (g := fun _ => []) _ fun u hu => if_pos (List.mem_range.1 hu)]; simp
    have e2 : ((List.range base.bk.length).flatMap fun j => if ops.size + j < ops.size then [] else Y (ops.size + j - ops.size)) = (List.range base.bk.length).flatMap Y := flatMap_congr' _ fun j _ => by
      rw [if_neg (by omega), Nat.add_sub_cancel_left]
    rw [q522, e1, e2, ← h1]; exact hs.mem.drew
  · intro u hu hl
    have hn : ¬ u < ops.size := fun h => hg2 u (hl.1 h)
    have hb : Nat.blt u ops.size = false := by
      cases hx : Nat.blt u ops.size with
      | true => exact absurd (q73 hx) hn
      | false => rfl
    unfold nbU; rw [hb, cond_false]; obtain ⟨q, hq⟩ : ∃ q, base.bk[u - ops.size]? = some q := ⟨base.bk[u - ops.size]'(by omega), List.getElem?_eq_getElem (by omega)⟩
    rw [hq]; show BkR H ρ [q] (if u < ops.size then [] else Y (u - ops.size)); rw [if_neg hn]; exact h2 _ _ hq
  · intro u hu hl
    by_cases hn : u < ops.size
    · exact if_pos hn
    · exact absurd ⟨fun h => absurd h hn, fun k _ h => absurd h (hg2 k)⟩ hl
  · intro i r hr _ id h1 _
    exact hs.nx _ (Nat.le_trans (q210 hch hr).1 h1)
theorem DrI.op {G : Hp → Prop} (h0 : G H0) (hs : Sat fr F w0 H0 R H ρ L base σ w) (hch : chain base.nx recs nx = true) (hR : chkR ops ops.size base.bk.length recs 0 recs = true) (hlen : recs.length = ops.size)
    (hdist : ∀ i j, i < ops.size → j < ops.size → i ≠ j → ∀ d, dstOf ops i = some d → dstOf ops j ≠ some d)
    {ls : Array Bool} {σ' : Nat → Value} {H' : Hp} {ρ' : RM} {X : Nat → List Ent} {w' : World} (hI : DrI fr F w0 H0 R H ρ σ base nx N Dd ops recs ls σ' H' ρ' X w') {i : Nat} (hi : i < ops.size) (hsz : ls.size = ops.size) (hnd : ¬ done ls i) (hed : ∀ j, q25 ops i j = true → done ls j)
    {o : Oper} (ho : ops[i]? = some o) (hdst : dstOk o.dst N = true) {r : Rc D} (hr : recs[i]? = some r) (hgd : ∀ j o r, ops[j]? = some o → recs[j]? = some r → Good P G fr base ops recs j o r) {rr : Option Nat} {md : Nat} {Q : Exit → List Deferred → (Nat → Value) → World → Prop}
    (hQ : ∀ σ2 w2, (∃ H2 ρ2 X2, DrI fr F w0 H0 R H ρ σ base nx N Dd ops recs (ls.setIfInBounds i true) σ2 H2 ρ2 X2 w2) → RW rr md P N ops [] Q Dd σ2 w2) :
    RW rr md P N ops [o] Q Dd σ' w' := by
  have hg := hgd i o r ho hr; obtain ⟨c1, c2, c3⟩ := q210 hch hr; have hu := q433 hR hr; simp only [Nat.zero_add, chkU, Bool.and_eq_true, List.all_eq_true] at hu; obtain ⟨u1, u2⟩ := hu; have u3 : ∀ u ∈ r.us, u < ops.size + base.bk.length := fun u hu => q73 (u2 u hu).1
  have u4 : ∀ u ∈ r.us, liveU recs ops.size ls u := fun u hu => by
    obtain ⟨_, h2, h3⟩ := u2 u hu; refine ⟨fun hn => ?_, fun k hk hd => ?_⟩
    · rw [show Nat.blt u ops.size = true by simpa [Nat.blt_eq] using hn] at h2
      exact q157 hI.cl hed (by simpa using h2)
    · cases he : eatsU recs k u with
      | false => rfl
      | true =>
        have h4 := h3 k (List.mem_range.2 hk); rw [he] at h4; simp only [Bool.not_true, Bool.false_or, Bool.or_eq_true] at h4; rcases h4 with h4 | h4
        · rw [Nat.eq_of_beq_eq_true h4] at hd; exact absurd hd hnd
        · exact absurd (q403 hI.cl 40 k i h4 hd) hnd
  have hown : ∀ k q, recs[k]? = some q → (k = i ∨ done ls k) → i ∈ q.us → False := by
    intro k q hq hk hiu; have h := q433 hR hq; simp only [Nat.zero_add, chkU, Bool.and_eq_true, List.all_eq_true] at h; obtain ⟨_, h2, _⟩ := h.2 i hiu; rw [show Nat.blt i ops.size = true by simpa [Nat.blt_eq] using hi] at h2; have h2 : rch ops 40 k i = true := by simpa using h2
    rcases hk with rfl | hk
    · exact hnd (q157 hI.cl hed h2)
    · exact hnd (q403 hI.cl 40 k i h2 hk)
  have hmem : ∀ {q : Rc D} {u : Nat}, (q.us.any (Nat.beq u)) = true → u ∈ q.us := by
    intro q u h; obtain ⟨v, hv, hb⟩ := List.any_eq_true.1 h; rwa [Nat.eq_of_beq_eq_true hb]
  have heats : ∀ k, (k = i ∨ done ls k) → eatsU recs k i = false := by
    intro k hk; unfold eatsU; cases hq : recs[k]? with
    | none => rfl
    | some q =>
      show (q.eat && q.us.any (Nat.beq i)) = false; cases hx : q.us.any (Nat.beq i) with
      | false => exact Bool.and_false _
      | true => exact (hown k q hq hk (hmem hx)).elim
  have hXi : X i = [] := hI.dead i (by omega) fun h => hnd (h.1 hi)
  -- the numbers that it may see
  let ρm : RM := fun id => bif Nat.blt id r.lo then ρ' id else none
  have m1 : ∀ id, id < r.lo → ρm id = ρ' id := fun id h => by
    show (bif Nat.blt id r.lo then ρ' id else none) = _; rw [show Nat.blt id r.lo = true by simpa [Nat.blt_eq] using h]; rfl
  have m2 : ∀ id, r.lo ≤ id → ρm id = none := fun id h => by
    show (bif Nat.blt id r.lo then ρ' id else none) = _
    have : Nat.blt id r.lo = false := by
      cases hx : Nat.blt id r.lo with
      | true => exact absurd (q73 hx) (by omega)
      | false => rfl
    rw [this]; rfl
  have m3 : RM.le ρm ρ' := fun id q h => by
    rcases Nat.lt_or_ge id r.lo with h1 | h1
    · rwa [m1 id h1] at h
    · rw [m2 id h1] at h; cases h
  have m4 : RM.le ρ ρm := fun id q h => by
    rcases Nat.lt_or_ge id base.nx with h1 | h1
    · rw [m1 id (by omega)]; exact hI.hρ _ _ h
    · rw [hs.nx _ h1] at h; cases h
  have hlow := hg.low; simp only [Bool.and_eq_true] at hlow; obtain ⟨l1, l2, l3, l4⟩ := hlow; have hval : ∀ j rj t, recs[j]? = some rj → dstOf ops j = some t → rch ops 40 i j = true → Rv H' ρ' (σ' t) rj.u := fun j rj t h1 h2 h3 => hI.val j rj t (q157 hI.cl hed h3) h1 h2
  have hkv : ∀ j rj, recs[j]? = some rj → dstOf ops j ≠ none → ∀ b, rj.kv = some b → ∀ {x : Value}, Rv H' ρ' x rj.u → x = .bool b := fun j rj h1 h2 b h3 x hx => by
    cases hoj : ops[j]? with
    | none => exact absurd (by unfold dstOf; rw [hoj]; rfl) h2
    | some oj => exact (hgd j oj rj hoj h1).kv b h3 _ _ _ hx
  have hSl : SlR H' ρ' r.sl σ' := by
    intro t s hts; rcases hg.sl t s hts with ⟨j, rj, h1, h2, h3, h4⟩ | ⟨h1, h2⟩
    · have hv := hval j rj t h1 h2 h3
      rcases h4 with rfl | ⟨b, h5, rfl⟩
      · exact hv
      · exact hkv j rj h1 (by rw [h2]; simp) b h5 hv
    · rw [hI.old t fun j hd hj => hnd (q403 hI.cl 40 j i (h1 j hj) hd)]; exact (hs.sl t s h2).mono hI.hH hI.hρ
  have hgo : gdOk ops σ' o.guard = r.g := by
    have h := hg.gd; cases hgu : o.guard with
    | none => rw [hgu] at h; exact h.symm
    | some jw =>
      obtain ⟨j, want⟩ := jw; rw [hgu] at h; obtain ⟨rj, d, h1, h2, h3, h4⟩ := h; have h2' : (ops[j]?).bind (·.dst) = some d := h2; have hv := hval j rj d h1 h2 h3
      show (match (ops[j]?).bind (·.dst) with
        | some d => match σ' d with
          | .bool b => b == want
          | _ => false
        | none => false) = r.g
      rw [h2']; rcases h4 with ⟨b, h5, h6⟩ | ⟨v, h5, h6, h7⟩
      · have hb : σ' d = .bool b := hkv j rj h1 (by rw [h2]; simp) b h5 hv
        rw [h6]
        show (match σ' d with
          | .bool b => b == want
          | _ => false) = _
        rw [hb]
      · rw [h5] at hv
        have hv : σ' d = v := hv; rw [h7]
        show (match σ' d with
          | .bool b => b == want
          | _ => false) = _
        rw [hv]; cases v <;> first | rfl | (exact absurd h6 (by simp [q119]))
  have hL : BkR H' ρ' r.bi (r.us.flatMap X) := by
    rw [hg.bi]; exact BkR.units fun u hu => hI.live u (u3 u hu) (u4 u hu)
  have hperm : (flatX X (ops.size + base.bk.length) ++ (F ++ R)).Perm (r.us.flatMap X ++ (F ++ (flatX (clr r.us X) (ops.size + base.bk.length) ++ R))) := by
    refine ((q487 r.us X u1 u3).append_right (F ++ R)).trans ?_; rw [List.append_assoc]; refine List.Perm.append_left _ ?_; rw [← List.append_assoc, ← List.append_assoc]; exact List.perm_append_comm.append_right R
  have hSat : Sat fr F w0 H0 (flatX (clr r.us X) (ops.size + base.bk.length) ++ R) H' ρm (r.us.flatMap X) ⟨r.sl, r.bi, base.kn, r.lo⟩ σ' w' :=
    ⟨hI.mem.perm hperm, lowS_ok m1 l1 hSl, q432 m1 l2 hL, hs.fr.mono hI.hH m4, hs.kn.mono hI.hH m4, fun id h => m2 id h⟩
  have hde : o.dst = dstOf ops i := by unfold dstOf; rw [ho]; rfl
  rcases hg.run with ⟨k1, k2, k3⟩ | ⟨k1, k3⟩
  · refine k3 h0 hSat hgo hdst fun x w2 hx1 hx2 => ?_
    rw [hde]; refine hQ _ _ ⟨H', ρ', X, hI.step hi hsz hnd hed hdist hlen hr (heats i (.inl rfl)) (fun k _ hk => heats k (.inr hk)) (Hp.le.refl _) (RM.le.refl _) (fun _ _ => rfl) (hx1 _ hI.mem) (hx2.mono (Hp.le.refl _) m3) (fun u hu => ?_) ?_ (fun _ _ _ _ _ _ _ _ => rfl) hI.nx⟩
    · have : eatsU recs i u = false := by unfold eatsU; rw [hr]; show (r.eat && _) = false; rw [k1]; rfl
      rw [this]; rfl
    · rw [k2, hXi]; rfl
  · refine k3 h0 hSat hgo hdst fun x w2 hO => ?_
    obtain ⟨H2, ρ2, L2, o1, o2, o3, o4, o5⟩ := hO; rw [hde]
    let ρ3 : RM := fun id => bif (Nat.ble r.lo id && Nat.blt id r.hi) then ρ2 id else ρ' id
    have n1 : ∀ id, r.lo ≤ id → id < r.hi → ρ3 id = ρ2 id := fun id h1 h2 => by
      show (bif (Nat.ble r.lo id && Nat.blt id r.hi) then ρ2 id else ρ' id) = _; rw [Nat.ble_eq_true_of_le h1, show Nat.blt id r.hi = true by simpa [Nat.blt_eq] using h2]; rfl
    have n2 : ∀ id, ¬ (r.lo ≤ id ∧ id < r.hi) → ρ3 id = ρ' id := fun id h => by
      show (bif (Nat.ble r.lo id && Nat.blt id r.hi) then ρ2 id else ρ' id) = _; cases hx : (Nat.ble r.lo id && Nat.blt id r.hi) with
      | false => rfl
      | true =>
        rw [Bool.and_eq_true] at hx; exact absurd ⟨Nat.le_of_ble_eq_true hx.1, q73 hx.2⟩ h
    have n3 : ∀ id, id < r.hi → ρ3 id = ρ2 id := fun id h => by
      rcases Nat.lt_or_ge id r.lo with h1 | h1
      · rw [n2 id (by omega), o3 id h1, m1 id h1]
      · exact n1 id h1 h
    have n4 : RM.le ρ' ρ3 := fun id q h => by
      by_cases h1 : r.lo ≤ id ∧ id < r.hi
      · rw [hI.free i r hr hnd id h1.1 h1.2] at h; cases h
      · rwa [n2 id h1]
    have hcl : ∀ u, u ≠ i → setX (clr r.us X) i L2 u = bif eatsU recs i u then [] else X u := fun u hu => by
      unfold setX clr eatsU; rw [if_neg hu, hr]; show _ = bif (r.eat && r.us.any (Nat.beq u)) then [] else X u; rw [k1, Bool.true_and]
    have hni : clr r.us X i = [] := by
      unfold clr; rw [hXi]; cases r.us.any (Nat.beq i) <;> rfl
    refine hQ _ _ ⟨H2, ρ3, setX (clr r.us X) i L2, hI.step hi hsz hnd hed hdist hlen hr (heats i (.inl rfl)) (fun k _ hk => heats k (.inr hk)) o1 n4 (fun id h => n2 id (by omega)) ?_ (q286 n3 r.u l3 o5) hcl ?_ (fun j q hq hj hd id h1 h2 => n2 id fun h3 => ?_) fun id h => ?_⟩
    · refine o4.mem.perm ?_
      have h1 := q572 (clr r.us X) (T := ops.size + base.bk.length) (i := i) (by omega) hni L2; refine List.Perm.symm ((h1.append_right (F ++ R)).trans ?_); rw [List.append_assoc]; refine List.Perm.append_left _ ?_; rw [← List.append_assoc, ← List.append_assoc]; exact List.perm_append_comm.append_right R
    · have : setX (clr r.us X) i L2 i = L2 := by unfold setX; rw [if_pos rfl]
      rw [this]; exact q432 n3 l4 o4.bk
    · rcases Nat.lt_or_gt_of_ne hj with h4 | h4
      · have := q367 hch hq hr h4; omega
      · have := q367 hch hr hq h4; omega
    · rw [n2 id (by omega)]; exact hI.nx id h
theorem q405 {G : Hp → Prop} (h0 : G H0) {rr : Option Nat} {md : Nat} {Q : Exit → List Deferred → (Nat → Value) → World → Prop} (hs : Sat fr F w0 H0 R H ρ L base σ w) (hE : chkE ops N = true) (hch : chain base.nx recs nx = true) (hR : chkR ops ops.size base.bk.length recs 0 recs = true) (hlen : recs.length = ops.size) (hgd : ∀ j o r, ops[j]? = some o → recs[j]? = some r → Good P G fr base ops recs j o r)
    (hK : ∀ H' ρ' L' σ' w', H.le H' → RM.le ρ ρ' → (∀ id, id < base.nx → ρ' id = ρ id) → Sat fr F w0 H0 R H' ρ' L' ⟨finSl ops 0 recs base.sl, finBk recs base.bk ops.size (ops.size + base.bk.length), base.kn, nx⟩ σ' w' → Q .normal Dd σ' w') :
    ∀ a, Rep N Dd σ a → wpAnyIn (FR rr) md P .any ops (lift N Q) ops.size (Array.replicate ops.size false) a { w with drawn := w.drawn + 1 } := by
  intro a ha; simp only [chkE, Bool.and_eq_true, List.all_eq_true, List.mem_range] at hE; obtain ⟨hback, hdist⟩ := hE
  have hdist : ∀ i j, i < ops.size → j < ops.size → i ≠ j → ∀ d, dstOf ops i = some d → dstOf ops j ≠ some d := by
    intro i j hi hj hij d h1 h2; have h := hdist i hi j hj
    have h7 : sameB ops i j = true := by
      rw [sameB, h1]; show isDst ops j d = true; rw [isDst, h2]; exact Nat.beq_refl d
    simp only [h7, Bool.not_true, Bool.or_false] at h; exact hij (Nat.eq_of_beq_eq_true h)
  have hprog : ∀ ls : Array Bool, ls.size = ops.size → Region.ready .any ops ls = [] → ∀ i, i < ops.size → ls.getD i true = true := by
    intro ls hs hr i
    induction i using Nat.strongRecOn with
    | _ i ih =>
      intro hi; cases hx : ls.getD i true with
      | true => rfl
      | false =>
        have : i ∈ Region.ready .any ops ls := by
          refine mem_ready.2 ⟨hi, hx, fun o ho e he hb => ?_⟩; have h1 := hback i hi; rw [ho] at h1; simp only [Bool.and_eq_true] at h1; have h2 := (Array.all_eq_true_iff_forall_mem.1 h1.1) e he; have h3 : e.on < i := by simpa [hb, Nat.blt_eq] using h2
          have h4 := ih e.on h3 (by omega); rw [Array.getD_eq_getD_getElem?] at h4 ⊢; rw [Array.getElem?_eq_getElem (by omega)] at h4 ⊢; exact h4
        rw [hr] at this; simp at this
  refine (q271 (fun ls a w' => ls.size = ops.size ∧ ∃ σ' H' ρ' X, Rep N Dd σ' a ∧ DrI fr F w0 H0 R H ρ σ base nx N Dd ops recs ls σ' H' ρ' X w') ?_ ?_ ?_ _ _ _ _ ?_ ?_)
  · intro ls a w' ⟨hsz, σ', H', ρ', X, hrep, hI⟩ hr
    have hall : ∀ i, i < ops.size → done ls i := fun i hi => by
      have := hprog ls hsz hr i hi; unfold done; rw [Array.getD_eq_getD_getElem?, Array.getElem?_eq_getElem (by omega)] at this ⊢; exact this
    have hlive : ∀ u, deadU recs ops.size u = false → liveU recs ops.size ls u := fun u hu => ⟨fun h => hall u h, fun k hk _ => by
      cases he : eatsU recs k u with
      | false => rfl
      | true =>
        have : deadU recs ops.size u = true := List.any_eq_true.2 ⟨k, List.mem_range.2 hk, he⟩
        rw [hu] at this; cases this⟩
    have hdead : ∀ u, deadU recs ops.size u = true → ¬ liveU recs ops.size ls u := fun u hu h => by
      obtain ⟨k, hk, he⟩ := List.any_eq_true.1 hu; have hk := List.mem_range.1 hk; rw [h.2 k hk (hall k hk)] at he; cases he
    refine ⟨Dd, σ', hrep, hK H' ρ' (flatX X (ops.size + base.bk.length)) σ' w' hI.hH hI.hρ hI.low ⟨hI.mem, ?_, ?_, hs.fr.mono hI.hH hI.hρ, hs.kn.mono hI.hH hI.hρ, hI.nx⟩⟩
    · intro t s hts
      rcases q404 hts with ⟨j, r, h1, h2, h3⟩ | ⟨h1, h2⟩
      · rw [Nat.zero_add] at h2
        have hj : j < ops.size := by rw [← hlen]; exact (List.getElem?_eq_some_iff.1 h1).1
        have hv := hI.val j r t (hall j hj) h1 h2; rw [h3]; unfold valR; cases hk : r.kv with
        | none => exact hv
        | some b => exact (hgd j _ r (Array.getElem?_eq_getElem hj) h1).kv b hk _ _ _ hv
      · rw [hI.old t fun j _ hj => ?_]
        · exact (hs.sl t s h1).mono hI.hH hI.hρ
        · rcases Nat.lt_or_ge j ops.size with h3 | h3
          · exact h2 j (by omega) (by rw [Nat.zero_add]; exact hj)
          · rw [dstOf, Array.getElem?_eq_none_iff.2 h3] at hj; cases hj
    · have : ∀ T, T ≤ ops.size + base.bk.length → BkR H' ρ' (finBk recs base.bk ops.size T) (flatX X T) := by
        intro T
        induction T with
        | zero => intro _; rfl
        | succ T ih =>
          intro hT; unfold finBk flatX; rw [List.range_succ, List.flatMap_append, List.flatMap_append, List.flatMap_singleton, List.flatMap_singleton]; refine (ih (by omega)).append ?_; cases hd : deadU recs ops.size T with
          | true => exact hI.dead T (by omega) (hdead T hd)
          | false => exact hI.live T (by omega) (hlive T hd)
      exact this _ (Nat.le_refl _)
  · intro ls a w' h; exact h.1
  · intro ls a w' i ⟨hsz, σ', H', ρ', X, hrep, hI⟩ hi
    obtain ⟨hi1, hi2, hi3⟩ := mem_ready.1 hi; have hget : ops[i]? = some ops[i] := Array.getElem?_eq_getElem hi1; obtain ⟨r, hr⟩ : ∃ r, recs[i]? = some r := ⟨recs[i]'(by omega), List.getElem?_eq_getElem (by omega)⟩
    have hnd : ¬ done ls i := by
      intro h; unfold done at h; rw [Array.getD_eq_getD_getElem?, Array.getElem?_eq_getElem (by omega)] at h hi2; have h : ls[i] = true := h; have hi2 : ls[i] = false := hi2; rw [h] at hi2; cases hi2
    have hedge : ∀ j, q25 ops i j = true → done ls j := by
      intro j hj; rw [q25, hget] at hj; simp only [← Array.any_toList, List.any_eq_true, Bool.and_eq_true] at hj; obtain ⟨e, he, hb, hon⟩ := hj; have := hi3 _ hget e (Array.mem_toList_iff.1 he) hb; rwa [Nat.eq_of_beq_eq_true hon] at this
    have hb := hback i hi1; rw [hget] at hb; simp only [Bool.and_eq_true] at hb; refine q100 (Q1 := lift N (fun e D' σ2 w2 => e = .normal ∧ D' = Dd ∧ ∃ H2 ρ2 X2, DrI fr F w0 H0 R H ρ σ base nx N Dd ops recs (ls.setIfInBounds i true) σ2 H2 ρ2 X2 w2)) hget (hI.op h0 hs hch hR hlen hdist hi1 hsz hnd hedge hget hb.2 hr hgd (fun σ2 w2 h => ?_) a hrep) (fun a' w'' hq => ?_) (fun c a' w'' hq => ?_) (fun hq => ?_)
    · intro a2 ha2
      exact ⟨Dd, σ2, ha2, rfl, rfl, h⟩
    · obtain ⟨D', σ'', hr1, _, rfl, H2, ρ2, X2, h2⟩ := hq
      exact ⟨by simpa using hsz, σ'', H2, ρ2, X2, hr1, h2⟩
    · obtain ⟨_, _, _, hn, _⟩ := hq
      cases hn
    · obtain ⟨_, _, _, _, _, hn, _⟩ := hq
      cases hn
  · obtain ⟨X, hI⟩ := DrI.init (F := F) (fr := fr) (N := N) (Dd := Dd) (ops := ops) hs hch
    exact ⟨by simp, σ, H, ρ, X, ha, hI⟩
  · unfold q93
    exact Nat.le_trans (List.length_filter_le _ _) (by simp)
theorem q652 {G : Hp → Prop} (h0 : G H0) {id : Nat} {rr : Option Nat} {md : Nat} {Q : Exit → List Deferred → (Nat → Value) → World → Prop} (hm : P.follows .mixedOrders = true) (hs : Sat fr F w0 H0 R H ρ L base σ w) (hE : chkE ops N = true) (hch : chain base.nx recs nx = true) (hR : chkR ops ops.size base.bk.length recs 0 recs = true) (hlen : recs.length = ops.size) (hgd : ∀ j o r, ops[j]? = some o → recs[j]? = some r → Good P G fr base ops recs j o r)
    (hK : ∀ H' ρ' L' σ' w', H.le H' → RM.le ρ ρ' → (∀ id, id < base.nx → ρ' id = ρ id) → Sat fr F w0 H0 R H' ρ' L' ⟨finSl ops 0 recs base.sl, finBk recs base.bk ops.size (ops.size + base.bk.length), base.kn, nx⟩ σ' w' → Q .normal Dd σ' w') :
    CW rr md P N (.region id ops true) Q Dd σ w := fun a ha => wpIn_region_any hm (q405 h0 hs hE hch hR hlen hgd hK a ha)
end
end
end
section
section
variable {D : Nat → Type} [∀ t, Dt (D t)]
mutual
def idsV : SV D → List Nat
  | .ptr id _ => [id]
  | .own id => [id]
  | .oel id _ _ _ => [id]
  | .vw id _ _ => [id]
  | .mp id => [id]
  | .hv id _ _ => [id]
  | .lel id _ _ => [id]
  | .lad id _ => [id]
  | .agg l => idsVL l
  | .tup l => idsVL l
  | .fn _ l => idsVL l
  | .bf _ l => idsVL l
  | _ => []
def idsVL : List (SV D) → List Nat
  | [] => []
  | v :: r => idsV v ++ idsVL r
end
def idsB (kn : List (Nat × SV D)) : Blk D → List Nat
  | .box _ cs => idsVL (cs.map (res kn))
  | .fbx _ cs => idsVL (cs.map (res kn))
  | .itr mid _ _ => [mid]
  | .lit _ cs => idsVL (cs.map (res kn))
  | .fmp _ _ _ l => idsVL (l.map fun p => res kn p.2)
  | .dmp _ _ _ _ _ _ _ (some (_, j)) => [j]
  | _ => []
def hitB (ids : List Nat) (l : List (Nat × Blk D)) : Bool := l.any fun q => ids.any (Nat.beq q.1)
def pickU (kn : List (Nat × SV D)) : Nat → List Nat → List (Nat × List (Nat × Blk D)) → List Nat
  | 0, _, _ => []
  | f + 1, ids, av => match av.filter fun q => hitB ids q.2 with
    | [] => []
    | q :: hit => (q :: hit).map (·.1) ++ pickU kn f ((q :: hit).flatMap fun q => q.2.flatMap fun b => idsB kn b.2) (av.filter fun q => !(hitB ids q.2))
def availU (recs : List (Rc D)) (bk : List (Nat × Blk D)) (n : Nat) : List (Nat × List (Nat × Blk D)) := ((List.range recs.length ++ (List.range bk.length).map (n + ·)).filter fun u => !(deadU recs recs.length u)).map fun u => (u, nbU recs bk n u)
def seeT (ops : Array Oper) (base : St D) (recs : List (Rc D)) (i t : Nat) : Option (SV D) := match (List.range recs.length).find? fun j => isDst ops j t && rch ops 40 i j with
  | some j => (recs[j]?).map valR
  | none => bif (List.range ops.size).all fun j => !(isDst ops j t) || rch ops 40 j i then getS base.sl t else none
def seeS (ops : Array Oper) (base : St D) (recs : List (Rc D)) (i : Nat) : List Operand → List (Nat × SV D)
  | [] => []
  | x :: r => match x with
    | .tmp t => match seeT ops base recs i t with
      | some v => (t, v) :: seeS ops base recs i r
      | none => seeS ops base recs i r
    | _ => seeS ops base recs i r
def miniS (ops : Array Oper) (base : St D) (recs : List (Rc D)) (i : Nat) (o : Oper) : List (Nat × SV D) := seeS ops base recs i o.op.operands.toList
def blind : Op → Bool
  | .move _ | .assign _ | .pick _ _ _ | .extract _ _ | .field _ _ _ | .build _ _ | .makeFunc _ _ _ => true
  | _ => false
def miniU (ops : Array Oper) (base : St D) (recs : List (Rc D)) (i : Nat) (o : Oper) : List Nat := bif blind o.op then [] else pickU base.kn 4 (idsVL ((miniS ops base recs i o).map fun q => resD base.kn q.2)) (availU recs base.bk ops.size)
omit [∀ t, Dt (D t)] in
theorem q653 {ops : Array Oper} {j t : Nat} (h : isDst ops j t = true) : dstOf ops j = some t := by
  unfold isDst at h
  split at h
  · rename_i d hd; rw [hd, Nat.eq_of_beq_eq_true h]
  · cases h
omit [∀ t, Dt (D t)] in
theorem q262 {ops : Array Oper} {base : St D} {recs : List (Rc D)} {i t : Nat} {s : SV D} : ∀ {l : List Operand}, getS (seeS ops base recs i l) t = some s → seeT ops base recs i t = some s
  | [], h => by cases h
  | x :: r, h => by
    unfold seeS at h
    split at h
    · rename_i u
      split at h
      · rename_i v hv
        unfold getS at h; cases hb : Nat.beq t u with
        | true =>
          rw [hb] at h; rw [Nat.eq_of_beq_eq_true hb, hv]; exact h
        | false => rw [hb] at h; exact q262 h
      · exact q262 h
    · exact q262 h
omit [∀ t, Dt (D t)] in
theorem seeT_ok {ops : Array Oper} {base : St D} {recs : List (Rc D)} {i t : Nat} {s : SV D} (h : seeT ops base recs i t = some s) : (∃ j rj, recs[j]? = some rj ∧ dstOf ops j = some t ∧ rch ops 40 i j = true ∧ (s = rj.u ∨ ∃ b, rj.kv = some b ∧ s = .k b)) ∨ ((∀ j, dstOf ops j = some t → rch ops 40 j i = true) ∧ getS base.sl t = some s) := by
  unfold seeT at h
  split at h
  · rename_i j hj
    have hj := List.find?_some hj; simp only [Bool.and_eq_true] at hj; obtain ⟨rj, h1, h2⟩ := Option.map_eq_some_iff.1 h; refine .inl ⟨j, rj, h1, q653 hj.1, hj.2, ?_⟩; unfold valR at h2
    split at h2
    · rename_i b hb; exact .inr ⟨b, hb, h2.symm⟩
    · exact .inl h2.symm
  · obtain ⟨h1, h2⟩ := cif h
    refine .inr ⟨fun j hj => ?_, h2⟩; rw [List.all_eq_true] at h1
    have hjn : j < ops.size := by
      rcases Nat.lt_or_ge j ops.size with h3 | h3
      · exact h3
      · rw [dstOf, Array.getElem?_eq_none_iff.2 h3] at hj; cases hj
    have h3 := h1 j (List.mem_range.2 hjn)
    have : isDst ops j t = true := by
      unfold isDst; rw [hj]; exact Nat.beq_refl t
    rw [this] at h3; simpa using h3
def quE (P : Program) (tb : Tb D) (st : St D) (fr : List (Nat × Blk D)) (op : Op) (vs : List (SV D)) : OR D := match exE P tb (st.lk fr) op vs with
  | some r => some r
  | none => opSl P st fr op vs
def ctD (P : Program) (tb : Tb D) (c : Ct D) (st : St D) (fr : List (Nat × Blk D)) (xs : List Operand) (K : SV D → Bool → List (Nat × Blk D) → Nat → Prop) : Prop := match vals2 st fr xs with
  | some vs => match q473 P tb c (st.frzL (q103 st fr vs)) fr xs with
    | some x => ∃ y, c.W x (fun z => z = y) ∧ (match resE P tb c.rs c.own y st.nx with
      | some (s, b, m) => match c.bw with
        | true => cdP (scal s) (K s false [] st.nx) False
        | false => K s true (b ++ (st.frzL (q103 st fr vs)).bk) m
      | none => False)
    | none => False
  | none => False
def resB (kn : List (Nat × SV D)) (v : SV D) : SV D := match res kn v with
  | .b x => .b x
  | .p p d => .p p d
  | .k x => .k x
  | _ => v
theorem q573 {kn : List (Nat × SV D)} {H : Hp} {ρ : RM} (hk : KnR H ρ kn) {x : Value} {v : SV D} (h : Rv H ρ x v) : Rv H ρ x (resB kn v) := by
  have h2 := q462 hk h; unfold resB
  split
  · rename_i e; rw [e] at h2; exact h2
  · rename_i e; rw [e] at h2; exact h2
  · rename_i e; rw [e] at h2; exact h2
  · exact h
def dstN : Option Tmp → Nat
  | some d => 1000000 + d
  | none => 999999
def q574 (E : Env D) (fr : List (Nat × Blk D)) (o : Oper) (st : St D) (K : SV D → Bool → List (Nat × Blk D) → Nat → Prop) : Prop := match o.op with
  | .move x => match evO st.sl x with
    | some v => K (resB st.kn v) false [] st.nx
    | none => False
  | .assign x => match evO st.sl x with
    | some v => K (resB st.kn v) false [] st.nx
    | none => False
  | .pick c a b => match (evO st.sl c).map (res st.kn), evO st.sl a, evO st.sl b with
    | some (.k true), some v, _ => K v false [] st.nx
    | some (.k false), _, some v => K v false [] st.nx
    | _, _, _ => False
  | .call ⟨.value g, xs, _⟩ => match (evO st.sl g).map (res st.kn) with
    | some (.fn f []) => match findC f E.cts with
      | some c => cdP (entB E.P f) (ctD E.P E.tb c st fr xs.toList K) False
      | none => False
    | _ => False
  | op => cdP (q99 op) False <| match q285 [dstN o.dst] E.sp with
    | some f => match q324 E.P E.tb st fr op (f % 1000) (f / 1000) with
      | some (gs, v, st') => AndL gs (K v true st'.bk st'.nx)
      | none => False
    | none => match q65 st fr op with
      | some vs0 => match q131 op vs0, quE E.P E.tb st fr op vs0 with
        | [], some (gs, v) => AndL gs (K v false [] st.nx)
        | ids, _ => match q65 (st.frzL ids) fr op with
          | some vs => match opE E.P E.tb (st.frzL ids) fr op vs with
            | some (gs, v, st') => AndL gs (K v true st'.bk st'.nx)
            | none => False
          | none => False
      | none => False
def stepD (E : Env D) (fr : List (Nat × Blk D)) (o : Oper) (st : St D) (K : SV D → Bool → List (Nat × Blk D) → Nat → Prop) : Prop := match q285 [1, dstN o.dst] E.sp with
  | some n => match o.op with
    | .indexAddr T x y => match q65 st fr (.indexAddr T x y) with
      | some [a, .i k z] => (0 ≤ z ∧ z < (n : Int)) ∧ allF n 0 fun j => z = (j : Int) → match iaE E.P (st.lk fr) a T (.i k (j : Int)) with
        | some (gs, v) => AndL gs (K v false [] st.nx)
        | none => False
      | _ => False
    | _ => False
  | none => q574 E fr o st K
variable {E : Env D} {fr : List (Nat × Blk D)} {F : List Ent} {w0 w : World} {H0 H : Hp} {R : List Ent} {ρ : RM} {L : List Ent} {st : St D} {σ : Nat → Value}
omit [∀ t, Dt (D t)] in
theorem eff_kn (st : St D) (e : Ef D) : (st.eff e).kn = st.kn := by cases e <;> rfl
theorem q575 {P : Program} {tb : Tb D} {st st' : St D} {op : Op} {vs : List (SV D)} {gs : List Prop} {v : SV D} (h : opE P tb st fr op vs = some (gs, v, st')) : st'.kn = st.kn := by
  unfold opE at h
  split at h
  · cases h; rfl
  · split at h
    · cases h; rfl
    · split at h
      · cases h; exact eff_kn _ _
      · cases h
def RunOk (P : Program) (G : Hp → Prop) (fr : List (Nat × Blk D)) (kn : List (Nat × SV D)) (ops : Array Oper) (o : Oper) (r : Rc D) : Prop := (r.eat = false ∧ r.nb = [] ∧ Quiet P G fr kn ops o r) ∨ (r.eat = true ∧ Takes P G fr kn ops o r)
theorem RunOk.ex {P : Program} {G : Hp → Prop} {ops : Array Oper} {o : Oper} {v : SV D} {us : List Nat} {kv : Option Bool} {hi : Nat} (hnd : q99 o.op = false) (h : ∀ {F : List Ent} {w0 w : World} {H0 H : Hp} {R : List Ent} {ρ : RM} {L : List Ent} {σ : Nat → Value}, Sat fr F w0 H0 R H ρ L st σ w → ∃ z, Ex P σ o.op o.type w z w ∧ Rv H ρ z v) : RunOk P G fr st.kn ops o ⟨st.sl, us, st.bk, false, st.nx, hi, v, kv, true, []⟩ := by
  refine .inl ⟨rfl, rfl, fun _ hs hg hd k => ?_⟩; obtain ⟨z, h1, h2⟩ := h (show Sat _ _ _ _ _ _ _ _ st _ _ from hs); obtain ⟨d, op, ty, ps, af, gd⟩ := o; exact RW.step h1 hnd hg hd (k z _ (fun _ h => h) h2)
theorem RunOk.dn {P : Program} {G : Hp → Prop} {ops : Array Oper} {o : Oper} {v : SV D} {us : List Nat} {kv : Option Bool} {st' : St D} (hkn : st'.kn = st.kn) (h : ∀ {F : List Ent} {w0 w : World} {H0 H : Hp} {R : List Ent} {ρ : RM} {L : List Ent} {σ : Nat → Value}, Sat fr F w0 H0 R H ρ L st σ w → ∃ H1, H.le H1 ∧ Dn P σ o.op o.type w (OutN st.nx fr F w0 H0 R H1 ρ σ st' v)) : RunOk P G fr st.kn ops o ⟨st.sl, us, st.bk, true, st.nx, st'.nx, v, kv, true, st'.bk⟩ := by
  refine .inr ⟨rfl, fun _ hs hg hd k => ?_⟩; obtain ⟨H1, h0, h1⟩ := h (show Sat _ _ _ _ _ _ _ _ st _ _ from hs); obtain ⟨d, op, ty, ps, af, gd⟩ := o; refine h1 hg hd fun x w' ho => k x w' ?_; obtain ⟨H', ρ', L', h2, h3, h4, h5, h6⟩ := ho; exact ⟨H', ρ', L', h0.trans h2, h3, h4, ⟨h5.mem, (fun t v hv => nomatch hv), h5.bk, h5.fr, hkn ▸ h5.kn, h5.nx⟩, h6⟩
theorem quE_ok {P : Program} {tb : Tb D} {ty : TypeId} (htb : TbOk tb) (hs : Sat fr F w0 H0 R H ρ L st σ w) {op : Op} {vs : List (SV D)} {gs : List Prop} {v : SV D} (hv : RvL H ρ (op.operands.toList.map (ev σ)) vs) (h : quE P tb st fr op vs = some (gs, v)) (hg : AllP gs) : ∃ z, Ex P σ op ty w z w ∧ Rv H ρ z v := by
  unfold quE at h
  split at h
  · rename_i r hr
    cases h; exact q700 htb hs hv hr hg
  · exact q561 hs hv h hg
theorem ctD_ok {G : Hp → Prop} (hG : GUp G) {P : Program} {tb : Tb D} {ops : Array Oper} {o : Oper} (htb : TbOk tb) {c : Ct D} {xs : Array Operand} {tys : Array TypeId} {g : Operand} (hc : c.Ok P tb G) (he : Enters P c.f) (ho : o.op = .call ⟨.value g, xs, tys⟩) (hgv : ∀ {H : Hp} {ρ : RM} {σ : Nat → Value}, SlR H ρ st.sl σ → KnR H ρ st.kn → ev σ g = .func (.func c.f) #[] #[]) {K : SV D → Bool → List (Nat × Blk D) → Nat → Prop} (h : ctD P tb c st fr xs.toList K) :
    ∃ v e nb hi, K v e nb hi ∧ ∀ us kv, RunOk P G fr st.kn ops o ⟨st.sl, us, st.bk, e, st.nx, hi, v, kv, true, nb⟩ := by
  unfold ctD at h
  split at h
  · rename_i vs hv
    split at h
    · rename_i x hx
      obtain ⟨y, hW, h⟩ := h
      split at h
      · rename_i s b m hre
        obtain ⟨d, op, ty, ps, af, gd⟩ := o; have ho : op = .call ⟨.value g, xs, tys⟩ := ho; subst ho
        have run : ∀ {F : List Ent} {w0 w : World} {H0 H : Hp} {R : List Ent} {ρ : RM} {L : List Ent} {σ : Nat → Value} {r : Option Nat} {md N : Nat} {Q : Exit → List Deferred → (Nat → Value) → World → Prop} {Dd : List Deferred}, G H0 → Sat fr F w0 H0 R H ρ L st σ w → gdOk ops σ gd = true → dstOk d N = true →
            (∀ v w' H1 L1 H' ρ' L', H.le H1 → Sat fr F w0 H0 R H1 ρ L1 (st.frzL (q103 st fr vs)) σ w → Mem w H1 w' H' L' → RM.le ρ ρ' → (∀ id, m ≤ id → ρ' id = none) → (∀ id, id < st.nx → ρ' id = ρ id) → Rv H' ρ' v s → BkR H' ρ' b L' → RW r md P N ops [] Q Dd (upd σ d v) w') → RW r md P N ops [⟨d, .call ⟨.value g, xs, tys⟩, ty, ps, af, gd⟩] Q Dd σ w := by
          intro F w0 w H0 H R ρ L σ r md N Q Dd h0 hs hgd hd k; obtain ⟨H1, L1, hle1, hs1⟩ := hs.frzL (q103 st fr vs); have hA := q400 htb hs1 hx; have hR := hc x _ hW H1 _ (hG _ _ h0 hs1.mem.old) hA; refine RW.enter he (hgv hs.sl hs.kn) (by simp) hgd hd ((hR w hs1.mem.agree).mono fun e w' ⟨v, H', L', h1, h2, h3⟩ => ⟨v, h1, (show ∃ H' L', Mem w H1 w' H' L' ∧ ∃ y', y' = y ∧ ResR P tb c.rs c.own y' H' v L' from ⟨H', L', h2, h3⟩)⟩) fun v w' ⟨H', L', hM, y', hy, hr⟩ => ?_; subst hy; obtain ⟨ρ', hρ, hm, hn, hlo, hvs, hb⟩ := hr st.nx ρ hs.nx s b m hre; exact k v w' H1 L1 H' ρ' L' hle1 hs1 hM hρ hn hlo hvs hb
        split at h
        · obtain ⟨h1, h2⟩ := cifP h
          refine ⟨_, _, _, _, h2, fun us kv => .inl ⟨rfl, rfl, fun h0 hs hg hd k => ?_⟩⟩; have hs : Sat _ _ _ _ _ _ _ _ st _ _ := hs; exact run h0 hs hg hd fun v w' H1 L1 H' ρ' L' _ _ hM _ _ _ hvs _ => k v w' (fun M hMM => hMM.frame hM.below) (q359 h1 hvs)
        · refine ⟨_, _, _, _, h, fun us kv => .inr ⟨rfl, fun h0 hs hg hd k => ?_⟩⟩
          have hs : Sat _ _ _ _ _ _ _ _ st _ _ := hs; refine run h0 hs hg hd fun v w' H1 L1 H' ρ' L' hle1 hs1 hM hρ hn hlo hvs hb => k v w' ⟨H', ρ', L' ++ L1, hle1.trans hM.old, hρ, hlo, ⟨?_, (fun t v hv => nomatch hv), hb.append (hs1.bk.mono hM.old hρ), hs.fr.mono (hle1.trans hM.old) hρ, hs.kn.mono (hle1.trans hM.old) hρ, hn⟩, hvs⟩; rw [List.append_assoc]; exact hs1.mem.comp hM
      · exact h.elim
    · exact h.elim
  · exact h.elim
theorem q576 {P : Program} {tb : Tb D} {st st' : St D} {op : Op} {f e' : Nat} {gs : List Prop} {v : SV D} (h : q324 P tb st fr op f e' = some (gs, v, st')) : st'.kn = st.kn := by
  unfold q324 at h
  split at h
  · split at h
    · split at h
      · split at h
        · have hh := cif h
          clear h; obtain ⟨_, h⟩ := hh
          split at h
          · split at h
            · cases h; rfl
            · cases h; rfl
            · cases h
          · cases h
        · cases h
      · cases h
    · cases h
  · split at h
    · split at h
      · split at h
        · rename_i k _ _ vs _
          exact (q575 h).trans (q472 _ _).2.1
        · cases h
      · cases h
    · exact q575 h
    · cases h
  · split at h
    · obtain ⟨_, h⟩ := oif h
      obtain ⟨_, h⟩ := oif h; cases h; rfl
    · cases h
  · cases h
theorem q577 (hE : E.Ok) {ops : Array Oper} {o : Oper} {K : SV D → Bool → List (Nat × Blk D) → Nat → Prop} (h : q574 E fr o st K) : ∃ v e nb hi, K v e nb hi ∧ ∀ us kv, RunOk E.P E.G fr st.kn ops o ⟨st.sl, us, st.bk, e, st.nx, hi, v, kv, true, nb⟩ := by
  unfold q574 at h
  split at h
  · rename_i x hop
    split at h
    · rename_i v hv
      exact ⟨_, _, _, _, h, fun us kv => RunOk.ex (by rw [hop]; rfl) fun hs => ⟨_, by rw [hop]; exact Ex.move _ rfl, q573 hs.kn (q30 hs.sl hv)⟩⟩
    · exact h.elim
  · rename_i x hop
    split at h
    · rename_i v hv
      exact ⟨_, _, _, _, h, fun us kv => RunOk.ex (by rw [hop]; rfl) fun hs => ⟨_, by rw [hop]; exact Ex.assign _ rfl, q573 hs.kn (q30 hs.sl hv)⟩⟩
    · exact h.elim
  · rename_i c a b hop
    split at h
    · rename_i v hc ha
      obtain ⟨v0, hv0, hv1⟩ := Option.map_eq_some_iff.1 hc; refine ⟨_, _, _, _, h, fun us kv => RunOk.ex (by rw [hop]; rfl) fun hs => ⟨_, ?_, q30 hs.sl ha⟩⟩; have hv2 := hs.res (q30 hs.sl hv0); rw [hv1] at hv2; rw [hop]; exact Ex.pickT _ hv2 rfl
    · rename_i v hc hb
      obtain ⟨v0, hv0, hv1⟩ := Option.map_eq_some_iff.1 hc; refine ⟨_, _, _, _, h, fun us kv => RunOk.ex (by rw [hop]; rfl) fun hs => ⟨_, ?_, q30 hs.sl hb⟩⟩; have hv2 := hs.res (q30 hs.sl hv0); rw [hv1] at hv2; rw [hop]; exact Ex.pickF _ hv2 rfl
    · exact h.elim
  · rename_i g xs tys hop
    split at h
    · rename_i f hf
      obtain ⟨v0, hv0, hv1⟩ := Option.map_eq_some_iff.1 hf
      split at h
      · rename_i c hc
        obtain ⟨hen, h2⟩ := cifP h; obtain ⟨hok, hcf⟩ := q261 hE.cts hc; subst hcf; refine ctD_ok hE.gm hE.tb hok (q132 hen) hop (fun hsl hkn => ?_) h2; have hv2 := q462 hkn (q30 hsl hv0); rw [hv1] at hv2; obtain ⟨cs, e1, e2⟩ := hv2; obtain rfl : cs = [] := e2; exact e1
      · exact h.elim
    · exact h.elim
  · cases hdf : q99 o.op with
    | true => rw [hdf] at h; exact (show False from h).elim
    | false =>
      rw [hdf, q283] at h
      split at h
      · rename_i f hf
        split at h
        · rename_i gs v st' ho
          obtain ⟨hgs, hk⟩ := q104 h; exact ⟨_, _, _, _, hk, fun us kv => RunOk.dn (st' := st') (q576 ho) fun hs => ⟨_, Hp.le.refl _, q401 hE.tb hs hdf ho hgs⟩⟩
        · exact h.elim
      · split at h
        · rename_i vs0 hvs0
          split at h
          · rename_i gs v hp hq
            obtain ⟨hgs, hk⟩ := q104 h; exact ⟨_, _, _, _, hk, fun us kv => RunOk.ex hdf fun hs => quE_ok hE.tb hs (q26 hs hvs0) hq hgs⟩
          · split at h
            · rename_i vs hvs
              split at h
              · rename_i gs v st' ho
                obtain ⟨hgs, hk⟩ := q104 h; have hfz := q282 (q131 o.op vs0) st; refine ⟨_, _, _, _, hk, fun us kv => RunOk.dn (st' := st') ?_ fun hs => ?_⟩
                · rw [q575 ho, hfz.2.1]
                · obtain ⟨H1, L1, hle1, hs1⟩ := hs.frzL (q131 o.op vs0)
                  refine ⟨H1, hle1, ?_⟩; rw [← hfz.2.2]; exact q399 hE.tb hs1 hdf (q26 hs1 hvs) ho hgs
              · exact h.elim
            · exact h.elim
        · exact h.elim
theorem q488 (hE : E.Ok) {ops : Array Oper} {o : Oper} {K : SV D → Bool → List (Nat × Blk D) → Nat → Prop} (h : stepD E fr o st K) : ∃ v e nb hi, K v e nb hi ∧ ∀ us kv, RunOk E.P E.G fr st.kn ops o ⟨st.sl, us, st.bk, e, st.nx, hi, v, kv, true, nb⟩ := by
  unfold stepD at h
  split at h
  · rename_i n hn
    split at h
    · rename_i T x y hop
      split at h
      · rename_i a k z hv
        obtain ⟨j, hj⟩ := Int.eq_ofNat_of_zero_le h.1.1; have hlt := h.1.2; have hF := q363 h.2 (Nat.zero_le j) (by omega) hj
        split at hF
        · rename_i gs v hia
          obtain ⟨hgs, hk⟩ := q104 hF; refine ⟨_, _, _, _, hk, fun us kv => RunOk.ex (by rw [hop]; rfl) fun hs => ?_⟩; obtain ⟨u1, r1, e1, g1, u2, r2, e2, g2, _⟩ := q26 hs hv; injection e1 with e3 e4
          rw [e2] at e4; injection e4 with e5 e6
          rw [hop]; rw [hj] at g2; exact q698 hs (e3 ▸ g1) (e5 ▸ g2) hia hgs
        · exact hF.elim
      · exact h.elim
    · exact h.elim
  · exact q577 hE h
end
end
section
section
variable {D : Nat → Type} [∀ t, Dt (D t)]
def passR (nx : Nat) : Rc D := ⟨[], [], [], false, nx, nx, .c undef, none, false, []⟩
def knowR : List (Rc D) → Nat → Bool → List (Rc D)
  | [], _, _ => []
  | r :: l, 0, b => ⟨r.sl, r.us, r.bi, r.eat, r.lo, r.hi, r.u, some b, r.g, r.nb⟩ :: l
  | r :: l, j + 1, b => r :: knowR l j b
def kvOf : SV D → Option Bool
  | .k b => some b
  | _ => none
inductive GdD (D : Nat → Type) where
  | yes | no | bad
  | ask (j : Nat) (v : SV D) (want : Bool)
def gdD (ops : Array Oper) (recs : List (Rc D)) (i : Nat) (gd : Option (Nat × Bool)) : GdD D := match gd with
  | none => .yes
  | some (j, want) => bif (dstOf ops j).isSome && rch ops 40 i j then (match recs[j]? with
    | some rj => match rj.kv with
      | some b => bif b == want then .yes else .no
      | none => match rj.u with
        | .c v => bif q119 v then .bad else .no
        | .b x => .ask j (.b x) want
        | .p p d => .ask j (.p p d) want
        | _ => .bad
    | none => .bad) else .bad
def oneD (E : Env D) (fr : List (Nat × Blk D)) (ops : Array Oper) (base : St D) (i : Nat) (o : Oper) (recs : List (Rc D)) (nx : Nat) (K : List (Rc D) → Nat → Prop) : Prop :=
  stepD E fr o ⟨miniS ops base recs i o, (miniU ops base recs i o).flatMap (nbU recs base.bk ops.size), base.kn, nx⟩ fun v e nb hi =>
    cdP ((lowS nx (miniS ops base recs i o) && (lowK nx ((miniU ops base recs i o).flatMap (nbU recs base.bk ops.size)) && (lowV hi v && lowK hi nb))) && (miniU ops base recs i o).all fun u => Nat.blt u recs.length || Nat.ble ops.size u) (K (recs ++ [⟨miniS ops base recs i o, miniU ops base recs i o, (miniU ops base recs i o).flatMap (nbU recs base.bk ops.size), e, nx, hi, v, kvOf v, true, nb⟩]) hi) False
def drawE (E : Env D) (fr : List (Nat × Blk D)) (ops : Array Oper) (base : St D) : Nat → List Oper → List (Rc D) → Nat → (List (Rc D) → Nat → Prop) → Prop
  | _, [], recs, nx, K => K recs nx
  | i, o :: l, recs, nx, K => match gdD ops recs i o.guard with
    | .yes => oneD E fr ops base i o recs nx fun recs nx => drawE E fr ops base (i + 1) l recs nx K
    | .no => drawE E fr ops base (i + 1) l (recs ++ [passR nx]) nx K
    | .ask j v want => askF v
        (cdP want (oneD E fr ops base i o (knowR recs j true) nx (fun recs nx => drawE E fr ops base (i + 1) l recs nx K)) (drawE E fr ops base (i + 1) l (knowR recs j true ++ [passR nx]) nx K))
        (cdP want (drawE E fr ops base (i + 1) l (knowR recs j false ++ [passR nx]) nx K) (oneD E fr ops base i o (knowR recs j false) nx fun recs nx => drawE E fr ops base (i + 1) l recs nx K))
    | .bad => False
def drawF (E : Env D) (N : Nat) (fr : List (Nat × Blk D)) (ops : Array Oper) (st : St D) (K : St D → Prop) : Prop :=
  drawE E fr ops st 0 ops.toList [] st.nx fun recs nx => cdP (chkE ops N && (chain st.nx recs nx && chkR ops ops.size st.bk.length recs 0 recs)) (K ⟨finSl ops 0 recs st.sl, finBk recs st.bk ops.size (ops.size + st.bk.length), st.kn, nx⟩) False
def ExtR (recs recs' : List (Rc D)) : Prop := ∀ (j : Nat) (r : Rc D), recs[j]? = some r → ∃ r' : Rc D, recs'[j]? = some r' ∧ r'.u = r.u ∧ r'.nb = r.nb ∧ ∀ b, r.kv = some b → r'.kv = some b
omit [∀ t, Dt (D t)] in
theorem ExtR.snoc (recs : List (Rc D)) (r : Rc D) : ExtR recs (recs ++ [r]) := fun j q hq => ⟨q, by rw [List.getElem?_append_left (List.getElem?_eq_some_iff.1 hq).1]; exact hq, rfl, rfl, fun _ h => h⟩
omit [∀ t, Dt (D t)] in
theorem q211 : ∀ {recs : List (Rc D)} {j k : Nat} {b : Bool} {r : Rc D}, recs[k]? = some r → (knowR recs j b)[k]? = some (if k = j then ⟨r.sl, r.us, r.bi, r.eat, r.lo, r.hi, r.u, some b, r.g, r.nb⟩ else r)
  | [], _, _, _, _, h => by cases h
  | q :: l, 0, 0, b, r, h => by cases h; rfl
  | q :: l, 0, k + 1, b, r, h => by rw [if_neg (by omega)]; exact h
  | q :: l, j + 1, 0, b, r, h => by rw [if_neg (by omega)]; exact h
  | q :: l, j + 1, k + 1, b, r, h => by
    have := q211 (recs := l) (j := j) (k := k) (b := b) (r := r) (by simpa using h); show (knowR l j b)[k]? = _; rw [this]; by_cases hk : k = j
    · rw [if_pos hk, if_pos (by omega)]
    · rw [if_neg hk, if_neg (by omega)]
omit [∀ t, Dt (D t)] in
theorem q83 : ∀ {recs : List (Rc D)} {j : Nat} {b : Bool}, (knowR recs j b).length = recs.length
  | [], _, _ => rfl
  | _ :: _, 0, _ => rfl
  | _ :: l, j + 1, b => by
    show (knowR l j b).length + 1 = l.length + 1; rw [q83]
omit [∀ t, Dt (D t)] in
theorem ExtR.know {recs : List (Rc D)} {j : Nat} {b : Bool} (h : ∀ r : Rc D, recs[j]? = some r → r.kv = none) : ExtR recs (knowR recs j b) := fun k r hr => by
  refine ⟨_, q211 hr, ?_, ?_, fun c hc => ?_⟩
  · split <;> rfl
  · split <;> rfl
  · split
    · rename_i hk
      subst hk; rw [h r hr] at hc; cases hc
    · exact hc
variable {E : Env D} {fr : List (Nat × Blk D)} {base : St D} {ops : Array Oper}
theorem Good.ext {P : Program} {G : Hp → Prop} {recs recs' : List (Rc D)} {i : Nat} {o : Oper} {r : Rc D} (hx : ExtR recs recs') (hu : ∀ u ∈ r.us, u < ops.size → u < recs.length) (h : Good P G fr base ops recs i o r) : Good P G fr base ops recs' i o r := by
  refine ⟨fun t s hts => ?_, ?_, h.kv, ?_, h.low, h.run⟩
  · rcases h.sl t s hts with ⟨j, rj, h1, h2, h3, h4⟩ | h5
    · obtain ⟨r', e1, e2, _, e3⟩ := hx j rj h1
      refine .inl ⟨j, r', e1, h2, h3, ?_⟩; rcases h4 with h4 | ⟨b, h5, h6⟩
      · exact .inl (h4.trans e2.symm)
      · exact .inr ⟨b, e3 b h5, h6⟩
    · exact .inr h5
  · have hg := h.gd
    cases hgu : o.guard with
    | none => rw [hgu] at hg; exact hg
    | some jw =>
      obtain ⟨j, want⟩ := jw; rw [hgu] at hg; obtain ⟨rj, d, h1, h2, h3, h4⟩ := hg; obtain ⟨r', e1, e2, _, e3⟩ := hx j rj h1; refine ⟨r', d, e1, h2, h3, ?_⟩; rcases h4 with ⟨b, h5, h6⟩ | ⟨v, h5, h6⟩
      · exact .inl ⟨b, e3 b h5, h6⟩
      · exact .inr ⟨v, e2.trans h5, h6⟩
  · rw [h.bi]
    have : ∀ (l : List Nat), (∀ u ∈ l, u < ops.size → u < recs.length) → l.flatMap (nbU recs base.bk ops.size) = l.flatMap (nbU recs' base.bk ops.size) := by
      intro l
      induction l with
      | nil => intro _; rfl
      | cons u l ih =>
        intro hl; rw [List.flatMap_cons, List.flatMap_cons, ih fun v hv => hl v (by simp [hv])]
        congr 1
        unfold nbU; cases hb : Nat.blt u ops.size with
        | false => rfl
        | true =>
          have hlt := hl u (by simp) (q73 hb); obtain ⟨r', e1, _, e2, _⟩ := hx u recs[u] (List.getElem?_eq_getElem hlt); rw [cond_true, cond_true, e1, List.getElem?_eq_getElem hlt]; exact e2.symm
    exact this _ hu
def InvR (P : Program) (G : Hp → Prop) (fr : List (Nat × Blk D)) (base : St D) (ops : Array Oper) (recs : List (Rc D)) : Prop := ∀ (j : Nat) (o : Oper) (r : Rc D), ops[j]? = some o → recs[j]? = some r → Good P G fr base ops recs j o r ∧ ∀ u ∈ r.us, u < ops.size → u < recs.length
theorem InvR.snoc {P : Program} {G : Hp → Prop} {recs : List (Rc D)} {r : Rc D} {o : Oper} (hI : InvR P G fr base ops recs) (ho : ops[recs.length]? = some o) (hg : Good P G fr base ops recs recs.length o r) (hu : ∀ u ∈ r.us, u < ops.size → u < recs.length) : InvR P G fr base ops (recs ++ [r]) := by
  intro j o' q ho' hq; rw [List.length_append]; rcases Nat.lt_or_ge j recs.length with h | h
  · rw [List.getElem?_append_left h] at hq
    obtain ⟨h1, h2⟩ := hI j o' q ho' hq; exact ⟨h1.ext (ExtR.snoc _ _) h2, fun u hu hn => Nat.lt_of_lt_of_le (h2 u hu hn) (Nat.le_add_right _ _)⟩
  · have hj : j = recs.length := by
      have := (List.getElem?_eq_some_iff.1 hq).1; rw [List.length_append] at this; have : j < recs.length + 1 := this; omega
    subst hj; rw [List.getElem?_append_right (Nat.le_refl _), Nat.sub_self] at hq; cases hq; rw [ho] at ho'; cases ho'; exact ⟨hg.ext (ExtR.snoc _ _) hu, fun u hu' hn => Nat.lt_of_lt_of_le (hu u hu' hn) (Nat.le_add_right _ _)⟩
omit [∀ t, Dt (D t)] in
theorem q654 {recs : List (Rc D)} {j : Nat} {r : Rc D} {recs' : List (Rc D)} (hlen : recs'.length = recs.length) (h : recs'[j]? = some r) : ∃ q, recs[j]? = some q := ⟨recs[j]'(by rw [← hlen]; exact (List.getElem?_eq_some_iff.1 h).1), List.getElem?_eq_getElem _⟩
theorem InvR.know {P : Program} {G : Hp → Prop} {recs : List (Rc D)} {j : Nat} {b : Bool} (hI : InvR P G fr base ops recs) (hn : ∀ r : Rc D, recs[j]? = some r → r.kv = none) (hb : ∀ r : Rc D, recs[j]? = some r → ∀ (H : Hp) (ρ : RM) (x : Value), Rv H ρ x r.u → x = .bool b) : InvR P G fr base ops (knowR recs j b) := by
  intro k o q ho hq; obtain ⟨r, hr⟩ := q654 q83 hq; rw [q211 hr] at hq; obtain ⟨h1, h2⟩ := hI k o r ho hr; have h3 := h1.ext (ExtR.know (b := b) hn) h2; cases hq
  split
  · rename_i hk
    subst hk; exact ⟨⟨h3.sl, h3.gd, fun c hc H ρ x hx => by cases hc; exact hb r hr H ρ x hx, h3.bi, h3.low, h3.run⟩, fun u hu hlt => by rw [q83]; exact h2 u hu hlt⟩
  · exact ⟨h3, fun u hu hlt => by rw [q83]; exact h2 u hu hlt⟩
theorem askF_or {v : SV D} {a b : Prop} (h : askF v a b) : (a ∧ ∀ (H : Hp) (ρ : RM) (x : Value), Rv H ρ x v → x = .bool true) ∨ (b ∧ ∀ (H : Hp) (ρ : RM) (x : Value), Rv H ρ x v → x = .bool false) := by
  unfold askF at h
  split at h
  · rename_i y
    cases y with
    | true => exact .inl ⟨h.1 rfl, fun H ρ x hx => hx⟩
    | false => exact .inr ⟨h.2 (by simp), fun H ρ x hx => hx⟩
  · rename_i p d
    by_cases hp : p
    · exact .inl ⟨h.1 hp, fun H ρ x hx => (show x = _ from hx).trans (by rw [decide_eq_true hp])⟩
    · exact .inr ⟨h.2 hp, fun H ρ x hx => (show x = _ from hx).trans (by rw [decide_eq_false hp])⟩
  · exact h.elim
def GdOk (ops : Array Oper) (recs : List (Rc D)) (i : Nat) (gd : Option (Nat × Bool)) (g : Bool) : Prop := match gd with
  | none => g = true
  | some (j, want) => ∃ rj d, recs[j]? = some rj ∧ dstOf ops j = some d ∧ rch ops 40 i j = true ∧ ((∃ b, rj.kv = some b ∧ g = (b == want)) ∨ (∃ v, rj.u = .c v ∧ q119 v = false ∧ g = false))
omit [∀ t, Dt (D t)] in
theorem gdD_ok {recs : List (Rc D)} {i : Nat} {gd : Option (Nat × Bool)} : match gdD ops recs i gd with
    | .yes => GdOk ops recs i gd true
    | .no => GdOk ops recs i gd false
    | .ask j v want => ∃ rj, recs[j]? = some rj ∧ rj.kv = none ∧ rj.u = v ∧ ∀ b, GdOk ops (knowR recs j b) i gd (b == want)
    | .bad => True := by
  unfold gdD; cases gd with
  | none => rfl
  | some jw =>
    obtain ⟨j, want⟩ := jw; simp only; cases hc : (dstOf ops j).isSome && rch ops 40 i j with
    | false => simp only [cond_false]
    | true =>
      simp only [cond_true]; rw [Bool.and_eq_true] at hc; obtain ⟨d, hd⟩ := Option.isSome_iff_exists.1 hc.1; cases hr : recs[j]? with
      | none => trivial
      | some rj =>
        simp only; cases hk : rj.kv with
        | some b =>
          simp only; cases hb : b == want with
          | true => exact ⟨rj, d, hr, hd, hc.2, .inl ⟨b, hk, hb.symm⟩⟩
          | false => exact ⟨rj, d, hr, hd, hc.2, .inl ⟨b, hk, hb.symm⟩⟩
        | none =>
          simp only; have ask : ∀ b, GdOk ops (knowR recs j b) i (some (j, want)) (b == want) := fun b => ⟨_, d, q211 hr, hd, hc.2, .inl ⟨b, by rw [if_pos rfl], rfl⟩⟩
          cases hu : rj.u with
          | c v =>
            simp only; cases hv : q119 v with
            | true => trivial
            | false => exact ⟨rj, d, hr, hd, hc.2, .inr ⟨v, hu, hv, rfl⟩⟩
          | b x => exact ⟨rj, hr, hk, hu, ask⟩
          | p p i => exact ⟨rj, hr, hk, hu, ask⟩
          | _ => trivial
theorem q655 {P : Program} {G : Hp → Prop} {recs : List (Rc D)} {i nx : Nat} {o : Oper} (hg : GdOk ops recs i o.guard false) : Good P G fr base ops recs i o (passR nx) := by
  refine ⟨(fun t s h => by cases h), hg, (fun b h => by cases h), rfl, rfl, .inl ⟨rfl, rfl, fun _ hs hgd hd k => ?_⟩⟩; obtain ⟨d, op, ty, ps, af, gd⟩ := o; exact RW.pass hgd hd (k undef _ (fun _ h => h) rfl)
theorem oneD_ok (hE : E.Ok) {i nx : Nat} {o : Oper} {recs : List (Rc D)} {K : List (Rc D) → Nat → Prop} (hI : InvR E.P E.G fr base ops recs) (hlen : recs.length = i) (ho : ops[i]? = some o) (hg : GdOk ops recs i o.guard true) (h : oneD E fr ops base i o recs nx K) : ∃ recs' nx', K recs' nx' ∧ recs'.length = i + 1 ∧ InvR E.P E.G fr base ops recs' := by
  unfold oneD at h; obtain ⟨v, e, nb, hi, h1, h2⟩ := q488 (ops := ops) hE h; obtain ⟨hc, hk⟩ := cifP h1; rw [Bool.and_eq_true, List.all_eq_true] at hc
  have hu : ∀ u ∈ miniU ops base recs i o, u < ops.size → u < recs.length := fun u hu hn => by
    have := hc.2 u hu; rw [Bool.or_eq_true] at this; rcases this with h3 | h3
    · exact q73 h3
    · have := Nat.le_of_ble_eq_true h3; omega
  refine ⟨_, _, hk, by rw [List.length_append, hlen]; rfl, hI.snoc (by rw [hlen]; exact ho) ?_ hu⟩; rw [hlen]; refine ⟨fun t s hts => seeT_ok (q262 hts), hg, fun b hb H ρ x hx => ?_, rfl, hc.1, h2 _ _⟩; have hb : kvOf v = some b := hb; have hx : Rv H ρ x v := hx; cases v <;> first | (cases hb; exact hx) | cases hb
theorem q263 (hE : E.Ok) {K : List (Rc D) → Nat → Prop} : ∀ {l : List Oper} {i nx : Nat} {recs : List (Rc D)}, InvR E.P E.G fr base ops recs → recs.length = i → i + l.length = ops.size → (∀ k o, l[k]? = some o → ops[i + k]? = some o) → drawE E fr ops base i l recs nx K → ∃ recs' nx', K recs' nx' ∧ recs'.length = ops.size ∧ InvR E.P E.G fr base ops recs'
  | [], i, nx, recs, hI, hlen, hn, _, h => ⟨recs, nx, h, by rw [hlen, ← hn]; rfl, hI⟩
  | o :: l, i, nx, recs, hI, hlen, hn, hl, h => by
    have ho : ops[i]? = some o := hl 0 o rfl; have hn' : i + 1 + l.length = ops.size := by rw [← hn, List.length_cons]; omega
    have hl' : ∀ k o, l[k]? = some o → ops[i + 1 + k]? = some o := fun k o' hk => by
      rw [show i + 1 + k = i + (k + 1) by omega]; exact hl (k + 1) o' (by simpa using hk)
    have pass : ∀ {recs : List (Rc D)}, InvR E.P E.G fr base ops recs → recs.length = i → GdOk ops recs i o.guard false → drawE E fr ops base (i + 1) l (recs ++ [passR nx]) nx K → ∃ recs' nx', K recs' nx' ∧ recs'.length = ops.size ∧ InvR E.P E.G fr base ops recs' := fun hI hlen hg h =>
      q263 hE (hI.snoc (by rw [hlen]; exact ho) (by rw [hlen]; exact q655 hg) fun u hu => by cases hu) (by rw [List.length_append, hlen]; rfl) hn' hl' h
    have one : ∀ {recs : List (Rc D)}, InvR E.P E.G fr base ops recs → recs.length = i → GdOk ops recs i o.guard true → (oneD E fr ops base i o recs nx fun recs nx => drawE E fr ops base (i + 1) l recs nx K) → ∃ recs' nx', K recs' nx' ∧ recs'.length = ops.size ∧ InvR E.P E.G fr base ops recs' := fun hI hlen hg h => by
      obtain ⟨recs', nx', h1, h2, h3⟩ := oneD_ok hE hI hlen ho hg h; exact q263 hE h3 h2 hn' hl' h1
    unfold drawE at h; have hgd := gdD_ok (ops := ops) (recs := recs) (i := i) (gd := o.guard)
    split at h
    · rename_i hq; rw [hq] at hgd; exact one hI hlen hgd h
    · rename_i hq; rw [hq] at hgd; exact pass hI hlen hgd h
    · rename_i j v want hq
      rw [hq] at hgd; obtain ⟨rj, hr, hk, hu, hgd⟩ := hgd; have hn1 : ∀ r : Rc D, recs[j]? = some r → r.kv = none := fun r h => by rw [hr] at h; cases h; exact hk
      rcases askF_or h with ⟨h, hb⟩ | ⟨h, hb⟩
      · have hI' := hI.know (b := true) hn1 fun r h => by rw [hr] at h; cases h; rw [hu]; exact hb
        have := hgd true; cases want with
        | true => exact one hI' (q83.trans hlen) this h
        | false => exact pass hI' (q83.trans hlen) this h
      · have hI' := hI.know (b := false) hn1 fun r h => by rw [hr] at h; cases h; rw [hu]; exact hb
        have := hgd false; cases want with
        | true => exact pass hI' (q83.trans hlen) this h
        | false => exact one hI' (q83.trans hlen) this h
    · exact h.elim
theorem q489 (hE : E.Ok) (hm : E.P.follows .mixedOrders = true) {F : List Ent} {w0 w : World} {H0 H : Hp} (h0 : E.G H0) {R : List Ent} {ρ : RM} {L : List Ent} {st : St D} {σ : Nat → Value} {N id : Nat} {rr : Option Nat} {md : Nat} {Q : Exit → List Deferred → (Nat → Value) → World → Prop} {Dd : List Deferred} {K : St D → Prop} (hs : Sat fr F w0 H0 R H ρ L st σ w) (h : drawF E N fr ops st K) (k : Goes fr F w0 H0 R H ρ K fun σ' w' => Q .normal Dd σ' w') : CW rr md E.P N (.region id ops true) Q Dd σ w := by
  unfold drawF at h; obtain ⟨recs, nx, h1, h2, h3⟩ := q263 (base := st) (ops := ops) (l := ops.toList) (i := 0) (recs := []) hE (fun j o r _ hr => by simp at hr) rfl (by rw [Nat.zero_add]; exact Array.length_toList) (fun k o hk => by rw [Nat.zero_add]; simpa using hk) h; obtain ⟨hc, hk⟩ := cifP h1; simp only [Bool.and_eq_true] at hc; exact q652 h0 hm hs hc.1 hc.2.1 hc.2.2 h2 (fun j o r ho hr => (h3 j o r ho hr).1) fun H' ρ' L' σ' w' g1 g2 _ g3 => k _ _ _ _ _ _ hk g1 g2 g3
end
end
section
section
variable {F : Fence} {n : Nat} {P : Program} {ops : Array Oper} {Q : Exit → Act → World → Prop}
def tailB (ops : Array Oper) (c : Nat) : Bool := Nat.ble c ops.size && (((List.range ops.size).all fun i => match ops[i]? with
  | some o => (o.after.all fun e => !(Region.binds .any e) || Nat.blt e.on i) && (match o.guard with
    | some (j, _) => Nat.blt j i
    | none => true)
  | none => true) && (List.range (ops.size - c)).all fun q => (List.range (c + q)).all fun j => rch ops 40 (c + q) j)
def LsR (ops : Array Oper) (ls : Array Bool) : Prop := ls.size = ops.size ∧ ∀ i j, done ls i → q25 ops i j = true → done ls j
theorem q56 {ls : Array Bool} {i k : Nat} (hi : i < ls.size) : done (ls.setIfInBounds i true) k ↔ k = i ∨ done ls k := by
  unfold done; rw [Array.getD_eq_getD_getElem?, Array.getD_eq_getD_getElem?, Array.getElem?_setIfInBounds]; by_cases h : i = k
  · subst h
    simp [hi]
  · simp only [h, if_false]
    constructor
    · exact .inr
    · rintro (rfl | h2)
      · exact absurd rfl h
      · exact h2
theorem q212 (n i : Nat) : ¬ done (Array.replicate n false) i := by
  unfold done; rw [Array.getD_eq_getD_getElem?, Array.getElem?_replicate]
  split <;> simp
theorem q213 {ls : Array Bool} {i : Nat} (hi : i ∈ Region.ready .any ops ls) {j : Nat} (hj : q25 ops i j = true) : done ls j := by
  obtain ⟨hi1, hi2, hi3⟩ := mem_ready.1 hi; have hget : ops[i]? = some ops[i] := Array.getElem?_eq_getElem hi1; rw [q25, hget] at hj; simp only [← Array.any_toList, List.any_eq_true, Bool.and_eq_true] at hj; obtain ⟨e, he, hb, hon⟩ := hj; have := hi3 _ hget e (Array.mem_toList_iff.1 he) hb; rwa [Nat.eq_of_beq_eq_true hon] at this
theorem q711 {ls : Array Bool} {i : Nat} (hi : i < ls.size) : ls.getD i true = false ↔ ¬ done ls i := by
  unfold done; rw [Array.getD_eq_getD_getElem?, Array.getD_eq_getD_getElem?, Array.getElem?_eq_getElem hi]; simp
theorem q113 {ls : Array Bool} (hls : ls.size = ops.size) {i : Nat} : i ∈ Region.ready .any ops ls ↔ i < ops.size ∧ ¬ done ls i ∧ ∀ j, q25 ops i j = true → done ls j := by
  constructor
  · intro hi
    obtain ⟨hi1, hi2, hi3⟩ := mem_ready.1 hi; exact ⟨hi1, (q711 (by omega)).1 hi2, fun j hj => q213 hi hj⟩
  · rintro ⟨h1, h2, h3⟩
    refine mem_ready.2 ⟨h1, (q711 (by omega)).2 h2, fun o ho e he hb => ?_⟩; refine h3 e.on ?_; rw [q25, ho]; simp only [← Array.any_toList, List.any_eq_true, Bool.and_eq_true]; exact ⟨e, Array.mem_toList_iff.2 he, hb, Nat.beq_refl _⟩
theorem q326 (hB : ∀ i j, i < ops.size → q25 ops i j = true → j < i) {c : Nat} (hT : ∀ q, q < ops.size - c → ∀ j, j < c + q → rch ops 40 (c + q) j = true) :
    ∀ (l : List Oper) (k : Nat) (ls : Array Bool) (a : Act) (w : World) (fuel : Nat), c ≤ k → k + l.length = ops.size → (∀ j, l[j]? = ops[k + j]?) → LsR ops ls → (∀ i, i < ops.size → (done ls i ↔ i < k)) → ops.size - k ≤ fuel → wpListIn F n P ops Q l a w → wpAnyIn F n P .any ops Q fuel ls a w
  | [], k, ls, a, w, fuel, hc, hl, hj, hR, hd, hf, h => by
    have hr : Region.ready .any ops ls = [] := by
      cases hx : Region.ready .any ops ls with
      | nil => rfl
      | cons i r =>
        have hi := (q113 (ops := ops) hR.1 (i := i)).1 (by rw [hx]; exact List.mem_cons_self ..); simp at hl; exact absurd ((hd i hi.1).2 (by omega)) hi.2.1
    cases fuel with
    | zero => exact ⟨hr, h⟩
    | succ f => exact ⟨fun _ => h, fun i hi => by rw [hr] at hi; cases hi⟩
  | o :: l, k, ls, a, w, fuel, hc, hl, hj, hR, hd, hf, h => by
    rw [List.length_cons] at hl; have ho : ops[k]? = some o := (hj 0).symm; cases fuel with
    | zero => omega
    | succ f =>
      have hkr : k ∈ Region.ready .any ops ls := by
        refine (q113 hR.1).2 ⟨by omega, fun hk => ?_, fun j hjk => ?_⟩
        · have := (hd k (by omega)).1 hk
          omega
        · have := hB k j (by omega) hjk
          exact (hd j (by omega)).2 this
      refine ⟨fun hr => (by rw [hr] at hkr; cases hkr), fun i hi => ?_⟩; obtain ⟨i1, i2, i3⟩ := (q113 hR.1).1 hi
      have hik : i = k := by
        have hge : k ≤ i := by
          rcases Nat.lt_or_ge i k with h1 | h1
          · exact absurd ((hd i i1).2 h1) i2
          · exact h1
        rcases Nat.lt_or_ge k i with h1 | h1
        · have hrc := hT (i - c) (by omega) k (by omega)
          rw [show c + (i - c) = i by omega] at hrc; have := q157 hR.2 i3 hrc; have := (hd k (by omega)).1 this; omega
        · omega
      subst hik; unfold wpOpIn; rw [ho]; simp only; unfold wpListIn at h
      have hR' : LsR ops (ls.setIfInBounds i true) := ⟨by simpa using hR.1, fun p q hp hq => by
        rcases (q56 (by rw [hR.1]; exact i1)).1 hp with rfl | hp
        · exact (q56 (by rw [hR.1]; exact i1)).2 (.inr (i3 q hq))
        · exact (q56 (by rw [hR.1]; exact i1)).2 (.inr (hR.2 p q hp hq))⟩
      have hd' : ∀ p, p < ops.size → (done (ls.setIfInBounds i true) p ↔ p < i + 1) := fun p hp => by
        rw [q56 (by rw [hR.1]; exact i1), hd p hp]; omega
      have hj' : ∀ j, l[j]? = ops[i + 1 + j]? := fun j => by
        have := hj (j + 1); rw [show i + 1 + j = i + (j + 1) by omega, ← this]; rfl
      have next : ∀ a w, wpListIn F n P ops Q l a w → wpAnyIn F n P .any ops Q f (ls.setIfInBounds i true) a w := fun a w h => q326 hB hT l (i + 1) _ a w f (by omega) (by omega) hj' hR' hd' (by omega) h
      split
      · rename_i hw
        rw [if_pos hw] at h; exact Oper.wpIn_mono next h
      · rename_i hw
        rw [if_neg hw] at h; exact ⟨h.1, next _ _ h.2⟩
theorem wpIn_q {Q1 : Exit → Act → World → Prop} (hQ : ∀ e a w, e ≠ .normal → Q1 e a w → Q e a w) {o : Oper} {a : Act} {w : World} {K : Act → World → Prop} (hh : o.wpIn F n P a w K Q1) : o.wpIn F n P a w K Q := by
  unfold Oper.wpIn at *; refine ⟨hh.1, ?_⟩; have hh := hh.2; generalize (o.semAt F.round a.eval).run P w = r at *; cases r with
  | ok x w' =>
    cases x <;> simp only [Oper.uponIn] at hh ⊢ <;>
      first
        | exact hh
        | exact hQ _ _ _ (by simp) hh
        | exact ⟨hh.1, CallsIn.mono hh.2 (fun e w'' he => by cases e <;> first | exact he | exact hQ _ _ _ (by simp) he | (obtain ⟨x, y, hz⟩ := he; exact ⟨x, y, hQ _ _ _ (by simp) hz⟩))⟩
        | exact ⟨hh.1, RoundIn.mono hh.2 (fun e w'' he => by cases e <;> first | exact he | exact hQ _ _ _ (by simp) he | (obtain ⟨x, y, hz⟩ := he; exact ⟨x, y, hQ _ _ _ (by simp) hz⟩))⟩
  | halt x w' => cases x <;> simp only [Oper.uponIn] at hh ⊢ <;> first | exact hh | exact hQ _ _ _ (by simp) hh
theorem q523 {Q1 : Exit → Act → World → Prop} (hB : ∀ i j, i < ops.size → q25 ops i j = true → j < i) (hG : ∀ (i : Nat) (o : Oper) (j : Nat) (want : Bool), ops[i]? = some o → o.guard = some (j, want) → j < i) {c : Nat} (hc : c ≤ ops.size) (hT : ∀ q, q < ops.size - c → ∀ j, j < c + q → rch ops 40 (c + q) j = true)
    (hQ : ∀ e a w, e ≠ .normal → Q1 e a w → Q e a w) (hQn : ∀ a w, Q1 .normal a w → wpListIn F n P ops Q (ops.toList.drop c) a w) :
    ∀ (fuel : Nat) (ls' ls : Array Bool) (a : Act) (w : World) (fuel' : Nat), LsR (ops.extract 0 c) ls' → LsR ops ls → (∀ i, i < c → (done ls i ↔ done ls' i)) → (∀ i, done ls i → i < c) → fuel + (ops.size - c) ≤ fuel' → wpAnyIn F n P .any (ops.extract 0 c) Q1 fuel ls' a w → wpAnyIn F n P .any ops Q fuel' ls a w := by
  have hget : ∀ i, i < c → (ops.extract 0 c)[i]? = ops[i]? := fun i hi => by
    rw [Array.getElem?_extract]; simp; omega
  have hsz : (ops.extract 0 c).size = c := by rw [Array.size_extract]; omega
  have hedge : ∀ i j, i < c → (q25 (ops.extract 0 c) i j = q25 ops i j) := fun i j hi => by
    unfold q25; rw [hget i hi]
  have start : ∀ (ls : Array Bool) (a : Act) (w : World) (fuel' : Nat), LsR ops ls → (∀ i, i < ops.size → (done ls i ↔ i < c)) → ops.size - c ≤ fuel' → Q1 .normal a w → wpAnyIn F n P .any ops Q fuel' ls a w := fun ls a w fuel' hR hd hf hq =>
    q326 hB hT (ops.toList.drop c) c ls a w fuel' (Nat.le_refl _) (by rw [List.length_drop, Array.length_toList]; omega) (fun j => by rw [List.getElem?_drop, Array.getElem?_toList]) hR hd hf (hQn a w hq)
  -- where nothing of the first ones is ready, all of them are done
  have hall : ∀ (ls' ls : Array Bool), LsR (ops.extract 0 c) ls' → LsR ops ls → (∀ i, i < c → (done ls i ↔ done ls' i)) → (∀ i, done ls i → i < c) → Region.ready .any (ops.extract 0 c) ls' = [] → ∀ i, i < ops.size → (done ls i ↔ i < c) := by
    intro ls' ls hR' hR hd hlt hr i hi; refine ⟨hlt i, fun hic => ?_⟩; rw [hd i hic]
    revert hic
    induction i using Nat.strongRecOn with
    | _ i ih =>
      intro hic; refine Classical.byContradiction fun hnd => ?_
      have : i ∈ Region.ready .any (ops.extract 0 c) ls' := by
        refine (q113 hR'.1).2 ⟨by rw [hsz]; exact hic, hnd, fun j hj => ?_⟩; rw [hedge i j hic] at hj; have hji := hB i j hi hj; exact ih j hji (by omega) (by omega)
      rw [hr] at this; cases this
  intro fuel
  induction fuel with
  | zero =>
    intro ls' ls a w fuel' hR' hR hd hlt hf h; exact start ls a w fuel' hR (hall ls' ls hR' hR hd hlt h.1) (by omega) h.2
  | succ f ih =>
    intro ls' ls a w fuel' hR' hR hd hlt hf h; cases hr : Region.ready .any (ops.extract 0 c) ls' with
    | nil => exact start ls a w fuel' hR (hall ls' ls hR' hR hd hlt hr) (by omega) (h.1 hr)
    | cons i0 r0 =>
      cases fuel' with
      | zero => omega
      | succ f' =>
        have hi0 : i0 ∈ Region.ready .any (ops.extract 0 c) ls' := by rw [hr]; exact List.mem_cons_self ..
        obtain ⟨g1, g2, g3⟩ := (q113 hR'.1).1 hi0; rw [hsz] at g1
        have same : ∀ i, i ∈ Region.ready .any ops ls ↔ i ∈ Region.ready .any (ops.extract 0 c) ls' := by
          intro i; rw [q113 hR.1, q113 hR'.1, hsz]; constructor
          · rintro ⟨h1, h2, h3⟩
            have hic : i < c := by
              rcases Nat.lt_or_ge i c with hx | hx
              · exact hx
              · have hrc := hT (i - c) (by omega) i0 (by omega)
                rw [show c + (i - c) = i by omega] at hrc; exact absurd ((hd i0 g1).1 (q157 hR.2 h3 hrc)) g2
            refine ⟨hic, fun hx => h2 ((hd i hic).2 hx), fun j hj => ?_⟩; rw [hedge i j hic] at hj; have := hB i j h1 hj; exact (hd j (by omega)).1 (h3 j hj)
          · rintro ⟨h1, h2, h3⟩
            refine ⟨by omega, fun hx => h2 ((hd i h1).1 hx), fun j hj => ?_⟩; have := hB i j (by omega) hj; rw [← hedge i j h1] at hj; exact (hd j (by omega)).2 (h3 j hj)
        refine ⟨fun hn => ?_, fun i hi => ?_⟩
        · have := (same i0).2 hi0
          rw [hn] at this; cases this
        · have hi' := (same i).1 hi
          obtain ⟨k1, k2, k3⟩ := (q113 hR'.1).1 hi'; rw [hsz] at k1; have hop := h.2 i hi'; have hil : i < ls.size := by rw [hR.1]; omega
          have hil' : i < ls'.size := by rw [hR'.1, hsz]; exact k1
          have hRn : LsR ops (ls.setIfInBounds i true) := ⟨by simpa using hR.1, fun p q hp hq => by
            rcases (q56 hil).1 hp with rfl | hp
            · exact (q56 hil).2 (.inr (q213 hi hq))
            · exact (q56 hil).2 (.inr (hR.2 p q hp hq))⟩
          have hRn' : LsR (ops.extract 0 c) (ls'.setIfInBounds i true) := ⟨by simpa using hR'.1, fun p q hp hq => by
            rcases (q56 hil').1 hp with rfl | hp
            · exact (q56 hil').2 (.inr (k3 q hq))
            · exact (q56 hil').2 (.inr (hR'.2 p q hp hq))⟩
          have next : ∀ a w, wpAnyIn F n P .any (ops.extract 0 c) Q1 f (ls'.setIfInBounds i true) a w → wpAnyIn F n P .any ops Q f' (ls.setIfInBounds i true) a w := fun a w h =>
            ih _ _ a w f' hRn' hRn (fun p hp => by rw [q56 hil, q56 hil', hd p hp]) (fun p hp => by
              rcases (q56 hil).1 hp with rfl | hp
              · exact k1
              · exact hlt p hp) (by omega) h
          unfold wpOpIn at hop ⊢; rw [hget i k1] at hop
          split
          · rename_i ho
            rw [Array.getElem?_eq_none_iff] at ho; omega
          · rename_i o ho
            simp only [ho] at hop
            have hw : Region.wanted o (yielded (ops.extract 0 c) a.tmps) = Region.wanted o (yielded ops a.tmps) := by
              unfold Region.wanted; cases hgd : o.guard with
              | none => rfl
              | some q =>
                obtain ⟨j, want⟩ := q; have := hG i o j want ho hgd; simp only [yielded]; rw [hget j (by omega)]
            rw [hw] at hop
            split
            · rename_i hx
              rw [if_pos hx] at hop; exact wpIn_q hQ (Oper.wpIn_mono next hop)
            · rename_i hx
              rw [if_neg hx] at hop; exact ⟨hop.1, next _ _ hop.2⟩
end
section
variable {D : Nat → Type} [∀ t, Dt (D t)] {P : Program} {N : Nat} {fr : List (Nat × Blk D)} {F : List Ent} {w0 w : World} {H0 H : Hp} {R : List Ent} {ρ : RM} {L : List Ent} {σ : Nat → Value} {Dd : List Deferred}
theorem q656 {ops : Array Oper} {c : Nat} (h : tailB ops c = true) : (∀ i j, i < ops.size → q25 ops i j = true → j < i) ∧ (∀ (i : Nat) (o : Oper) (j : Nat) (want : Bool), ops[i]? = some o → o.guard = some (j, want) → j < i) ∧ c ≤ ops.size ∧ ∀ q, q < ops.size - c → ∀ j, j < c + q → rch ops 40 (c + q) j = true := by
  simp only [tailB, Bool.and_eq_true, List.all_eq_true, List.mem_range] at h; obtain ⟨h1, h2, h3⟩ := h; refine ⟨fun i j hi hj => ?_, fun i o j want ho hg => ?_, Nat.le_of_ble_eq_true h1, h3⟩
  · have h4 := h2 i hi
    rw [q25, Array.getElem?_eq_getElem hi] at hj; rw [Array.getElem?_eq_getElem hi] at h4; simp only [Bool.and_eq_true] at h4; simp only [← Array.any_toList, List.any_eq_true, Bool.and_eq_true] at hj; obtain ⟨e, he, hb, hon⟩ := hj; have h5 := (Array.all_eq_true_iff_forall_mem.1 h4.1) e (Array.mem_toList_iff.1 he); rw [← Nat.eq_of_beq_eq_true hon]; simpa [hb, Nat.blt_eq] using h5
  · have hi : i < ops.size := (Array.getElem?_eq_some_iff.1 ho).1
    have h4 := h2 i hi; rw [ho] at h4; simp only [Bool.and_eq_true, hg] at h4; simpa [Nat.blt_eq] using h4.2
theorem q657 {E : Env D} (hE : E.Ok) (hm : E.P.follows .mixedOrders = true) (h0 : E.G H0) {st : St D} {id : Nat} {rr : Option Nat} {md : Nat} {Q : Exit → List Deferred → (Nat → Value) → World → Prop} {ops : Array Oper} {c : Nat} {K : St D → Prop} (hs : Sat fr F w0 H0 R H ρ L st σ w) (ht : tailB ops c = true) (h : drawF E N fr (ops.extract 0 c) st K)
    (k : Goes fr F w0 H0 R H ρ K fun σ' w' => RW rr md E.P N ops (ops.toList.drop c) Q Dd σ' w') : CW rr md E.P N (.region id ops true) Q Dd σ w := by
  obtain ⟨hB, hG, hc, hT⟩ := q656 ht; have hsz : (ops.extract 0 c).size = c := by rw [Array.size_extract]; omega
  unfold drawF at h; obtain ⟨recs, nx, h1, h2, h3⟩ := q263 (base := st) (ops := ops.extract 0 c) (l := (ops.extract 0 c).toList) (i := 0) (recs := []) hE (fun j o r _ hr => by simp at hr) rfl (by rw [Nat.zero_add]; exact Array.length_toList) (fun k o hk => by rw [Nat.zero_add]; rwa [Array.getElem?_toList] at hk) h; obtain ⟨hck, hk⟩ := cifP h1; simp only [Bool.and_eq_true] at hck; intro a ha; refine wpIn_region_any hm ?_; refine q523 (Q1 := lift N fun e D' σ' w' => e = .normal ∧ D' = Dd ∧ RW rr md E.P N ops (ops.toList.drop c) Q Dd σ' w') hB hG hc hT ?_ ?_ c (Array.replicate c false) _ a _ _ ?_ ?_ ?_ ?_ (by omega) ?_
  · rintro e a w he ⟨_, _, _, h4, _⟩
    exact absurd h4 he
  · rintro a w ⟨D', σ', h4, _, rfl, h6⟩
    exact h6 a h4
  · refine ⟨by simp [hsz], fun i j hi => ?_⟩
    have : ¬ done (Array.replicate c false) i := q212 _ _; exact absurd hi this
  · refine ⟨by simp, fun i j hi => ?_⟩
    have : ¬ done (Array.replicate ops.size false) i := q212 _ _; exact absurd hi this
  · intro i _
    have h4 : ¬ done (Array.replicate c false) i := q212 _ _; have h5 : ¬ done (Array.replicate ops.size false) i := q212 _ _; exact ⟨fun hx => absurd hx h5, fun hx => absurd hx h4⟩
  · intro i hi
    have : ¬ done (Array.replicate ops.size false) i := q212 _ _; exact absurd hi this
  · have := q405 (rr := rr) (md := md) (Q := fun e D' σ' w' => e = .normal ∧ D' = Dd ∧ RW rr md E.P N ops (ops.toList.drop c) Q Dd σ' w') h0 hs hck.1 hck.2.1 hck.2.2 h2 (fun j o r ho hr => (h3 j o r ho hr).1) (fun H' ρ' L' σ' w' g1 g2 _ g3 => ⟨rfl, rfl, k _ _ _ _ _ _ hk g1 g2 g3⟩) a ha
    rwa [hsz] at this
end
end
section
section
variable {F : Fence} {n : Nat} {P : Program} {ops : Array Oper} {Q : Exit → Act → World → Prop}
def q32 (F : Fence) (n : Nat) (P : Program) (ops : Array Oper) (Q : Exit → Act → World → Prop) (G : World → Prop) : Nat → Array Bool → Act → World → Prop
  | 0, ls, a, w => Region.ready .any ops ls = [] ∧ Q .normal a w
  | f + 1, ls, a, w => (Region.ready .any ops ls = [] → Q .normal a w) ∧ ∀ i ∈ Region.ready .any ops ls, wpOpIn F n P ops Q i (fun a' w' => G w' ∧ q32 F n P ops Q G f (ls.setIfInBounds i true) a' w') a w
theorem q32.any {G : World → Prop} : ∀ {f : Nat} {ls : Array Bool} {a : Act} {w : World}, q32 F n P ops Q G f ls a w → wpAnyIn F n P .any ops Q f ls a w
  | 0, _, _, _, h => h
  | _ + 1, _, _, _, h => ⟨h.1, fun i hi => wpOpIn_mono (fun _ _ k => k.2.any) (h.2 i hi)⟩
theorem q32.mono {G G' : World → Prop} (hG : ∀ w, G w → G' w) : ∀ {f : Nat} {ls : Array Bool} {a : Act} {w : World}, q32 F n P ops Q G f ls a w → q32 F n P ops Q G' f ls a w
  | 0, _, _, _, h => h
  | _ + 1, _, _, _, h => ⟨h.1, fun i hi => wpOpIn_mono (fun _ _ k => ⟨hG _ k.1, k.2.mono hG⟩) (h.2 i hi)⟩
def YG (G : World → Prop) (P : Program) (ops : Array Oper) (o : Oper) (v : Value) (a : Act) : Prop :=
  ((Region.wanted o (yielded ops a.tmps) = true ∧ ∀ w, G w → (execOp a.eval o).run P w = .ok (.value v) w) ∨ (Region.wanted o (yielded ops a.tmps) = false ∧ v = undef)) ∧ ∀ w, o.about P w a.eval = none
theorem YG.of_same {G : World → Prop} {o : Oper} {v : Value} {a a' : Act} (hy : YG G P ops o v a) (he : execOp a'.eval o = execOp a.eval o)
    (hw : Region.wanted o (yielded ops a'.tmps) = Region.wanted o (yielded ops a.tmps)) (hb : ∀ w, o.about P w a'.eval = o.about P w a.eval) : YG G P ops o v a' := by
  unfold YG at *; rw [he, hw]; exact ⟨hy.1, fun w => by rw [hb w]; exact hy.2 w⟩
theorem YG.wpOpIn {G : World → Prop} {i : Nat} {o : Oper} {v : Value} {a : Act} (hro : F.round = none) (hi : ops[i]? = some o) (hy : YG G P ops o v a) {K : Act → World → Prop} {w : World} (hG : G w) (h : K (a.put o.dst v) w) : wpOpIn F n P ops Q i K a w := by
  unfold Go.wpOpIn; simp only [hi]; have hab : ∀ f, o.about P w a.eval = some f → F.fn f := fun f hf => by rw [hy.2 w] at hf; cases hf
  rcases hy.1 with ⟨hw, hv⟩ | ⟨hw, rfl⟩
  · simp only [hw, if_true, Oper.wpIn, hro, Oper.semAt_none, hv w hG, Oper.uponIn]; exact ⟨hab, h⟩
  · simp only [hw, Bool.false_eq_true, if_false]; exact ⟨hab, h⟩
theorem q434 {G : World → Prop} {j : Nat} {oi oj : Oper} {v : Value} (hro : F.round = none) (hj : ops[j]? = some oj) (hap : oi.apart ops oj = true)
    (hsi : ∀ cs b, oi.op ≠ .select cs b) (hsj : ∀ cs b, oj.op ≠ .select cs b)
    (hQ : ∀ c a w, Q (.panic c) (a.put oi.dst v) w → Q (.panic c) a w) {K : Act → World → Prop} {a : Act} {w : World}
    (hy : YG G P ops oi v a) (h : wpOpIn F n P ops Q j K (a.put oi.dst v) w) :
    wpOpIn F n P ops Q j (fun a' w' => YG G P ops oi v a' ∧ K (a'.put oi.dst v) w') a w := by
  obtain ⟨h1, h2, h3⟩ := Oper.apart_spec hap
  have keep : ∀ (a : Act), YG G P ops oi v a → ∀ u, YG G P ops oi v (a.put oj.dst u) := fun a hy u =>
    hy.of_same (execOp_put oi hsi a oj.dst u h3) (wanted_put oi a oj.dst u h3) (fun w => about_put oi w a oj.dst u h3)
  have keepD : ∀ d, YG G P ops oi v { a with defers := d :: a.defers } := fun d => hy.of_same rfl rfl (fun _ => rfl); unfold wpOpIn at *; simp only [hj] at *; rw [wanted_put oj a oi.dst v h1, about_put oj w a oi.dst v h1] at h
  split
  · rename_i hw
    simp only [hw, if_true] at h; unfold Oper.wpIn at *; rw [about_put oj w a oi.dst v h1] at h; refine ⟨h.1, ?_⟩; have h := h.2; rw [hro, Oper.semAt_none, execOp_put oj hsj a oi.dst v h1] at h; rw [hro, Oper.semAt_none]; generalize (execOp a.eval oj).run P w = r at *; cases r with
    | ok x w' =>
      cases x <;> simp only [Oper.uponIn] at h ⊢
      case value u => exact ⟨keep a hy u, by rw [← Act.put_comm a v u h2]; exact h⟩
      case skip => exact ⟨keep a hy _, by rw [← Act.put_comm a v undef h2]; exact h⟩
      case defer d =>
        refine ⟨keep _ (keepD d) _, ?_⟩; rw [← Act.put_comm _ v undef h2, ← Act.put_defers]; exact h
      case enter f args =>
        refine ⟨h.1, CallsIn.mono h.2 fun e w'' he => ?_⟩; cases e with
        | returned u => exact ⟨keep a hy u, by rw [← Act.put_comm a v u h2]; exact he⟩
        | panicked c => exact hQ _ _ _ he
        | outgrown => exact he
      case row row args => exact ⟨h.1, RowsIn.mono h.2 fun u w'' he => ⟨keep a hy u, by rw [← Act.put_comm a v u h2]; exact he⟩⟩
      case round l f tmps assign body =>
        refine ⟨h.1, RoundIn.mono h.2 fun e w'' he => ?_⟩; cases e with
        | returned u => exact ⟨keep a hy u, by rw [← Act.put_comm a v u h2]; exact he⟩
        | panicked c => exact hQ _ _ _ he
        | outgrown => exact he
    | halt x w' =>
      cases x <;> simp only [Oper.uponIn] at h ⊢
      case panic u => exact hQ _ _ _ h
  · rename_i hw
    simp only [hw] at h; exact ⟨h.1, keep a hy _, by rw [← Act.put_comm a v undef h2]; exact h.2⟩
theorem q244 {G : World → Prop} {i : Nat} {oi : Oper} {v : Value} (hro : F.round = none) (hi : ops[i]? = some oi) (hsel : ∀ (j : Nat) (o : Oper) cs b, ops[j]? = some o → o.op ≠ .select cs b)
    (hQ : ∀ c a w, Q (.panic c) (a.put oi.dst v) w → Q (.panic c) a w) :
    ∀ (fuel : Nat) (listed : Array Bool) (a : Act) (w : World), G w →
      (∀ j oj, ops[j]? = some oj → j ≠ i → listed.getD j true = false → (∀ e ∈ oj.after, Region.binds .any e = true → e.on ≠ i) → oi.apart ops oj = true) →
      i ∈ Region.ready .any ops listed → YG G P ops oi v a →
      q32 F n P ops Q G fuel (listed.setIfInBounds i true) (a.put oi.dst v) w → q32 F n P ops Q G (fuel + 1) listed a w := by
  intro fuel
  induction fuel with
  | zero =>
    intro listed a w hG _ hr hy H; refine ⟨fun h => (by rw [h] at hr; cases hr), fun j hj => ?_⟩; by_cases hji : j = i
    · subst hji; exact hy.wpOpIn hro hi hG ⟨hG, H⟩
    · have := ready_mono hj hji
      rw [H.1] at this; cases this
  | succ fuel ih =>
    intro listed a w hG hfree hr hy H; refine ⟨fun h => (by rw [h] at hr; cases hr), fun j hj => ?_⟩; by_cases hji : j = i
    · subst hji; exact hy.wpOpIn hro hi hG ⟨hG, H⟩
    · have h1 := H.2 j (ready_mono hj hji)
      obtain ⟨hjun, oj, hoj, hall⟩ := Go.mem_ready.1 hj
      have hnot : ∀ e ∈ oj.after, Region.binds .any e = true → e.on ≠ i := fun e he hb heq => by
        have h1 := hall e he hb; have h0 := (Go.mem_ready.1 hr).1; rw [heq] at h1; rcases Nat.lt_or_ge i listed.size with h' | h'
        · simp [h'] at h0 h1; rw [h0] at h1; cases h1
        · simp [Array.getElem?_eq_none h'] at h1
      have h2 := q434 hro hoj (hfree j oj hoj hji hjun hnot) (fun cs b => hsel i oi cs b hi) (fun cs b => hsel j oj cs b hoj) hQ hy h1
      have hfree' : ∀ k ok, ops[k]? = some ok → k ≠ i → (listed.setIfInBounds j true).getD k true = false →
          (∀ e ∈ ok.after, Region.binds .any e = true → e.on ≠ i) → oi.apart ops ok = true := fun k ok hk hki hun hno => by
        refine hfree k ok hk hki ?_ hno; by_cases hjk : j = k
        · subst hjk; exact hjun
        · rw [getD_set_ne true hjk] at hun; exact hun
      refine wpOpIn_mono (fun a' w' h3 => ⟨h3.2.1, ih (listed.setIfInBounds j true) a' w' h3.2.1 hfree' (ready_mono hr (Ne.symm hji)) h3.1 ?_⟩) h2; rw [Array.setIfInBounds_comm _ _ hji]; exact h3.2.2
theorem Oper.wpIn_QK {o : Oper} {a : Act} {w : World} {K K' : Act → World → Prop} {Q Q' : Exit → Act → World → Prop} (hK : ∀ a w, K a w → K' a w) (hQ : ∀ e a w, e ≠ .normal → Q e a w → Q' e a w) (hh : o.wpIn F n P a w K Q) : o.wpIn F n P a w K' Q' := by
  unfold Oper.wpIn at *; refine ⟨hh.1, ?_⟩; have hh := hh.2; have hl : LetsOut Q → LetsOut Q' := fun ⟨a, w, h⟩ => ⟨a, w, hQ _ _ _ (by simp) h⟩
  generalize (o.semAt F.round a.eval).run P w = r at *; cases r with
  | ok x w' =>
    cases x <;> simp only [Oper.uponIn] at hh ⊢
    case value u => exact hK _ _ hh
    case skip => exact hK _ _ hh
    case defer d => exact hK _ _ hh
    case enter f args =>
      refine ⟨hh.1, CallsIn.mono hh.2 fun e w'' he => ?_⟩; cases e with
      | returned u => exact hK _ _ he
      | panicked c => exact hQ _ _ _ (by simp) he
      | outgrown => exact hl he
    case row row args => exact ⟨hh.1, RowsIn.mono hh.2 fun u w'' he => hK _ _ he⟩
    case round l f tmps assign body =>
      refine ⟨hh.1, RoundIn.mono hh.2 fun e w'' he => ?_⟩; cases e with
      | returned u => exact hK _ _ he
      | panicked c => exact hQ _ _ _ (by simp) he
      | outgrown => exact hl he
  | halt x w' =>
    cases x <;> simp only [Oper.uponIn] at hh ⊢
    case panic u => exact hQ _ _ _ (by simp) hh
end
def q191 (o : Oper) : Bool := match o.op with
  | .move _ => true
  | .load _ _ => true
  | .fieldAddr _ _ _ => true
  | .makeFunc _ _ _ => true
  | .nilCheck _ => true
  | _ => false
def flP (ops : Array Oper) (fl : List Nat) : List Nat → Array Bool → Bool
  | [], _ => true
  | i :: g, ls => (Region.ready .any ops ls).contains i && (bif fl.any (Nat.beq i) then (match ops[i]? with | some o => q191 o | none => false) && Region.free .any ops ls i else eqL (Region.ready .any ops ls) [i]) && flP ops fl g (ls.setIfInBounds i true)
def flB (ops : Array Oper) (fl : List Nat) : List Nat → Array Bool → Bool
  | [], ls => (Region.ready .any ops ls).isEmpty
  | i :: g, ls => (Region.ready .any ops ls).contains i && (bif fl.any (Nat.beq i) then (match ops[i]? with | some o => q191 o | none => false) && Region.free .any ops ls i else eqL (Region.ready .any ops ls) [i]) && flB ops fl g (ls.setIfInBounds i true)
theorem q490 : ∀ {l m : List Nat}, eqL l m = true → l = m
  | [], [], _ => rfl
  | [], _ :: _, h => by cases h
  | _ :: _, [], h => by cases h
  | a :: l, b :: m, h => by
    have h : (Nat.beq a b && eqL l m) = true := h; rw [Bool.and_eq_true] at h; rw [Nat.eq_of_beq_eq_true h.1, q490 h.2]
theorem q214 {P : Program} {o : Oper} (h : q191 o = true) (a : Act) (w : World) : o.about P w a.eval = none := by
  unfold q191 at h
  split at h
  · rename_i x hop; unfold Oper.about; rw [hop]
  · rename_i T x hop; unfold Oper.about; rw [hop]
  · rename_i T x f hop; unfold Oper.about; rw [hop]
  · rename_i fn x y hop; unfold Oper.about; rw [hop]
  · rename_i x hop; unfold Oper.about; rw [hop]
  · cases h
section
variable {D : Nat → Type} [∀ t, Dt (D t)]
def q491 (E : Env D) (fr : List (Nat × Blk D)) (o : Oper) (st : St D) : Option (SV D) := match o.op with
  | .move x => evO st.sl x
  | .load T x => match (evO st.sl x).map (res st.kn) with
    | some (.ptr id off) => match st.lk fr id with
      | some (.fbx _ _) => ldE E.P E.tb (st.lk fr) (.ptr id off) T
      | _ => none
    | _ => none
  | .fieldAddr T x f => match fOff E.P T f with
    | some o => match (evO st.sl x).map (res st.kn) with
      | some (.ptr id off) => some (.ptr id (off + o))
      | _ => none
    | none => none
  | .makeFunc fn first cap => match fn with
    | .func f => bif Nat.beq cap.size 0 then (mapO (evO st.sl) first.toList).map fun vs => bif Nat.beq first.size 0 then .fn f vs else .bf f vs else bif Nat.beq first.size 0 then (mapO (evO st.sl) cap.toList).map fun vs => .fn f vs else none
    | _ => none
  | .nilCheck x => match (evO st.sl x).map (res st.kn) with
    | some (.ptr id off) => some (.ptr id off)
    | _ => none
  | _ => none
def panK (kp : Exit → St D → Prop) (e : Exit) (st : St D) : Prop := match e with
  | .panic c => kp (.panic c) st
  | _ => False
def dstB (ops : Array Oper) (t : Nat) : Bool := ops.toList.any fun o => match o.dst with
  | some d => Nat.beq d t
  | none => false
def cutS (ops : Array Oper) : List (Nat × SV D) → List (Nat × SV D)
  | [] => []
  | p :: r => bif dstB ops p.1 then cutS ops r else p :: cutS ops r
omit [∀ t, Dt (D t)] in
theorem q435 {ops : Array Oper} {t : Nat} {v : SV D} : ∀ {l : List (Nat × SV D)}, getS (cutS ops l) t = some v → (∃ u, getS l t = some u ∧ (dstB ops t = false → u = v)) ∧ dstB ops t = false
  | [], h => by cases h
  | (s, u) :: r, h => by
    unfold cutS at h; cases hd : dstB ops s with
    | true =>
      rw [hd, cond_true] at h; obtain ⟨⟨x, h1, h2⟩, h3⟩ := q435 h; refine ⟨⟨x, ?_, h2⟩, h3⟩; unfold getS; cases hb : Nat.beq t s with
      | true =>
        obtain rfl := Nat.eq_of_beq_eq_true hb; rw [hd] at h3; cases h3
      | false => exact h1
    | false =>
      rw [hd, cond_false] at h; unfold getS at h ⊢; cases hb : Nat.beq t s with
      | true =>
        rw [hb, cond_true] at h; cases h; obtain rfl := Nat.eq_of_beq_eq_true hb; exact ⟨⟨_, rfl, fun _ => rfl⟩, hd⟩
      | false =>
        rw [hb, cond_false] at h; exact q435 h
omit [∀ t, Dt (D t)] in
theorem put_defers (a : Act) (d : Option Nat) (v : Value) : (a.put d v).defers = a.defers := by cases d <;> rfl
omit [∀ t, Dt (D t)] in
theorem q658 (a : Act) (d : Option Nat) (v : Value) : (a.put d v).tmps.size = a.tmps.size := by
  cases d with
  | none => rfl
  | some d => simp [Act.put]
omit [∀ t, Dt (D t)] in
theorem put_get {ops : Array Oper} {i t : Nat} {o : Oper} (a : Act) (hi : ops[i]? = some o) (ht : dstB ops t = false) (v : Value) : (a.put o.dst v).tmps.getD t undef = a.tmps.getD t undef := by
  cases hd : o.dst with
  | none => rfl
  | some d =>
    have hne : d ≠ t := fun e => by
      subst e
      have : dstB ops d = true := by
        unfold dstB; refine List.any_eq_true.2 ⟨o, ?_, by rw [hd]; exact Nat.beq_refl d⟩; exact List.mem_of_getElem? (by rw [Array.getElem?_toList]; exact hi)
      rw [this] at ht; cases ht
    simp only [Act.put, Array.getD_eq_getD_getElem?, Array.getElem?_setIfInBounds, hne, if_false]
def stepF (E : Env D) (cI : CallX D) (fr : List (Nat × Blk D)) (pos : List Nat) (q : Bool) (o : Oper) (st : St D) (K : St D → Prop) (kp : Exit → St D → Prop) : Prop := match q with
  | true => match q491 E fr o st with
    | some v => K (st.put o.dst v)
    | none => False
  | false => stepE E cI fr pos o st K (panK kp)
def runFl (E : Env D) (cI : CallX D) (N : Nat) (fr : List (Nat × Blk D)) (pos : List Nat) (ops : Array Oper) (fl : List Nat) : List Nat → St D → (St D → Prop) → (Exit → St D → Prop) → Prop
  | [], st, K, _ => K st
  | i :: g, st, K, kp => match ops[i]? with
    | none => False
    | some o => cdP (dstOk o.dst N) (match gdE ops st o.guard with
      | .yes => stepF E cI fr ((10 + i) :: pos) (fl.any (Nat.beq i)) o st (fun st' => runFl E cI N fr pos ops fl g st' K kp) kp
      | .no => runFl E cI N fr pos ops fl g (st.put o.dst (.c undef)) K kp
      | .ask t v want => askF v
          (cdP want (stepF E cI fr ((10 + i) :: pos) (fl.any (Nat.beq i)) o (st.know (.tmp t) true) (fun st' => runFl E cI N fr pos ops fl g st' K kp) kp) (runFl E cI N fr pos ops fl g ((st.know (.tmp t) true).put o.dst (.c undef)) K kp))
          (cdP want (runFl E cI N fr pos ops fl g ((st.know (.tmp t) false).put o.dst (.c undef)) K kp) (stepF E cI fr ((10 + i) :: pos) (fl.any (Nat.beq i)) o (st.know (.tmp t) false) (fun st' => runFl E cI N fr pos ops fl g st' K kp) kp))
      | .bad => False) False
variable {E : Env D} {cI : CallX D} {fr : List (Nat × Blk D)} {F : List Ent} {w0 w : World} {H0 H : Hp} {R : List Ent} {ρ : RM} {L : List Ent} {st : St D} {σ : Nat → Value}
def AgH (H : Hp) (w : World) : Prop := ∀ b o, H b = some o → w.heap[b]? = some o
theorem AgH.le {H H' : Hp} (h : H.le H') {w : World} (k : AgH H' w) : AgH H w := fun b o e => k b o (h b o e)
theorem q406 (hs : Sat fr F w0 H0 R H ρ L st σ w) {o : Oper} {v : SV D} (h : q491 E fr o st = some v) : (∃ x, Rv H ρ x v ∧ ∀ w', AgH H w' → Ex E.P σ o.op o.type w' x w') ∧ ∀ (a : Act) w, o.about E.P w a.eval = none := by
  unfold q491 at h
  split at h
  · rename_i x hop
    exact ⟨⟨_, q30 hs.sl h, fun w' _ => by rw [hop]; exact Ex.move _ rfl⟩, fun a w => by unfold Oper.about; rw [hop]⟩
  · rename_i T x hop
    refine ⟨?_, fun a w => by unfold Oper.about; rw [hop]⟩
    split at h
    · rename_i id off hx
      obtain ⟨v0, hv0, hv1⟩ := Option.map_eq_some_iff.1 hx; have hv2 := hs.res (q30 hs.sl hv0); rw [hv1] at hv2; obtain ⟨b, e1, e2⟩ := hv2
      split at h
      · rename_i T' cs hl
        obtain ⟨L1, S, L2, ⟨rfl, b', vs, f1, f2, f3⟩, _⟩ := hs.read hl; rw [e1] at f1; cases f1; have M : ∀ {w' : World}, AgH H w' → Mem w' H w' H [] := fun ha => Mem.start ha; unfold ldE at h
        split at h
        · rename_i n hn
          have e3 : ldC E.tb (st.lk fr) (.ptr id off) n = some (part cs off n) := by unfold ldC; simp only [hl]
          rw [e3] at h; obtain ⟨h1, h2⟩ := cif h; cases h2; have hu := (f3.drop off).take n; refine ⟨_, ⟨_, rfl, hu⟩, fun w' ha => by rw [hop]; exact Ex.loadHA (M ha) (Hp.le.refl _) f2 _ (q351 hn) e2 (by rw [RvL.length hu]; exact Nat.eq_of_beq_eq_true h1) rfl⟩
        · obtain ⟨h1, h⟩ := cif h
          have e3 : ldC E.tb (st.lk fr) (.ptr id off) 1 = some (part cs off 1) := by unfold ldC; simp only [hl]
          rw [e3] at h
          split at h
          · rename_i v' hp
            cases h; have hu := (f3.drop off).take 1; have hp : part cs off 1 = [v] := Option.some.inj hp; unfold part at hp; rw [hp] at hu; obtain ⟨u, q, e4, h3, h4⟩ := hu; obtain rfl : q = [] := h4; exact ⟨u, h3, fun w' ha => by rw [hop]; exact Ex.loadH (M ha) (Hp.le.refl _) f2 (q94 h1) e2 (q231 e4)⟩
          · cases h
      · cases h
    · cases h
  · rename_i T x f hop
    refine ⟨?_, fun a w => by unfold Oper.about; rw [hop]⟩
    split at h
    · rename_i o ho
      split at h
      · rename_i id off hx
        cases h; obtain ⟨v0, hv0, hv1⟩ := Option.map_eq_some_iff.1 hx; have hv2 := hs.res (q30 hs.sl hv0); rw [hv1] at hv2; obtain ⟨b, e1, e2⟩ := hv2; exact ⟨_, ⟨b, e1, rfl⟩, fun w' _ => by rw [hop]; exact Ex.fieldAddr (q350 ho) e2⟩
      · cases h
    · cases h
  · rename_i fn first cap hop
    refine ⟨?_, fun a w => by unfold Oper.about; rw [hop]⟩
    split at h
    · rename_i f
      cases h1 : Nat.beq cap.size 0 with
      | false =>
        rw [h1, cond_false] at h; obtain ⟨h2, h⟩ := cif h; obtain ⟨vs, hv, e⟩ := Option.map_eq_some_iff.1 h; have hf : first = #[] := Array.eq_empty_of_size_eq_zero (Nat.eq_of_beq_eq_true h2)
        subst hf; subst e; exact ⟨_, ⟨_, rfl, q133 hs hv⟩, fun w' _ => by rw [hop]; exact Ex.makeFunc (fs := []) rfl rfl⟩
      | true =>
      rw [h1, cond_true] at h; obtain ⟨vs, hv, e⟩ := Option.map_eq_some_iff.1 h; have hf : cap = #[] := Array.eq_empty_of_size_eq_zero (Nat.eq_of_beq_eq_true h1); subst hf; have hr := q133 hs hv; cases h2 : Nat.beq first.size 0 with
      | true =>
        have hf : first = #[] := Array.eq_empty_of_size_eq_zero (Nat.eq_of_beq_eq_true h2)
        subst hf; rw [h2, cond_true] at e; subst e; exact ⟨_, ⟨_, rfl, hr⟩, fun w' _ => by rw [hop]; exact Ex.makeFunc (fs := []) (cs := []) rfl rfl⟩
      | false =>
        rw [h2, cond_false] at e; subst e; exact ⟨_, ⟨_, rfl, hr⟩, fun w' _ => by rw [hop]; exact Ex.makeFunc (cs := []) rfl rfl⟩
    · cases h
  · rename_i x hop
    refine ⟨?_, fun a w => by unfold Oper.about; rw [hop]⟩
    split at h
    · rename_i id off hx
      cases h; obtain ⟨v0, hv0, hv1⟩ := Option.map_eq_some_iff.1 hx; have hv2 := hs.res (q30 hs.sl hv0); rw [hv1] at hv2; obtain ⟨b, e1, e2⟩ := hv2; exact ⟨_, ⟨b, e1, rfl⟩, fun w' _ => by rw [hop]; exact Ex.nilCheck e2⟩
    · cases h
  · cases h
theorem q407 (hE : E.Ok) (h0 : E.G H0) {pos : List Nat} {md N : Nat} {ops : Array Oper} {fl : List Nat} {Dd : List Deferred} {K : St D → Prop} {kp : Exit → St D → Prop} {Q : Exit → Act → World → Prop} (hQ : ∀ (i : Nat) (o : Oper) (v : Value) c a w, ops[i]? = some o → Q (.panic c) (a.put o.dst v) w → Q (.panic c) a w) (hsel : Region.noSelect ops = true) {f i : Nat} {g : List Nat} {ls : Array Bool} {st : St D} {H : Hp} {ρ : RM} {L : List Ent} {σ : Nat → Value} {w : World} {a : Act}
    (hI : q72 E.P cI w0 H0 H ρ) (ha : Rep N Dd σ a) (hs : Sat fr F w0 H0 R H ρ L st σ w) (h : runFl E cI N fr pos ops fl (i :: g) st K kp) (hr : (Region.ready .any ops ls).contains i = true) (hfr : fl.any (Nat.beq i) = true → (match ops[i]? with | some o => q191 o | none => false) = true ∧ Region.free .any ops ls i = true)
    (rest : ∀ {st' : St D} {σ' : Nat → Value} {w' : World} {H' : Hp} {ρ' : RM} {L' : List Ent} {a' : Act}, Rep N Dd σ' a' → runFl E cI N fr pos ops fl g st' K kp → H.le H' → RM.le ρ ρ' → Sat fr F w0 H0 R H' ρ' L' st' σ' w' → q32 (FR none) md E.P ops Q (AgH H) f (ls.setIfInBounds i true) a' w')
    (kq : ∀ c, Goes fr F w0 H0 R H ρ (kp (.panic c)) fun σ' w' => ∀ a', Rep N Dd σ' a' → Q (.panic c) a' w') : match fl.any (Nat.beq i) with
      | true => q32 (FR none) md E.P ops Q (AgH H) (f + 1) ls a w
      | false => wpOpIn (FR none) md E.P ops Q i (fun a' w' => AgH H w' ∧ q32 (FR none) md E.P ops Q (AgH H) f (ls.setIfInBounds i true) a' w') a w := by
    unfold runFl at h; have hr : i ∈ Region.ready .any ops ls := by simpa using hr
    cases ho : ops[i]? with
    | none => simp only [ho] at h
    | some o =>
      simp only [ho] at h; obtain ⟨hd, h⟩ := cifP h; have ag : AgH H w := hs.mem.agree; have hwt : Region.wanted o (yielded ops a.tmps) = gdOk ops σ o.guard := q51 ha
      have quiet : fl.any (Nat.beq i) = true → q191 o = true := fun hq => by
        have := (hfr hq).1; rw [ho] at this; exact this
      have first : ∀ {v : Value}, fl.any (Nat.beq i) = true → YG (AgH H) E.P ops o v a → q32 (FR none) md E.P ops Q (AgH H) f (ls.setIfInBounds i true) (a.put o.dst v) w → q32 (FR none) md E.P ops Q (AgH H) (f + 1) ls a w := fun hq hy hw => by
        exact q244 rfl ho (Region.noSelect_spec hsel) (fun c a w hc => hQ _ _ _ c a w ho hc) f ls a w ag (Region.free_spec ho (hfr hq).2) hr hy hw
      have only : fl.any (Nat.beq i) = false → wpOpIn (FR none) md E.P ops Q i (fun a' w' => AgH H w' ∧ q32 (FR none) md E.P ops Q (AgH H) f (ls.setIfInBounds i true) a' w') a w → wpOpIn (FR none) md E.P ops Q i (fun a' w' => AgH H w' ∧ q32 (FR none) md E.P ops Q (AgH H) f (ls.setIfInBounds i true) a' w') a w := fun _ hw => hw; have noAbout : ∀ f, o.about E.P w a.eval = some f → (FR none).fn f := fun f _ => FR_fn _ f
      have pass : ∀ {st : St D}, Sat fr F w0 H0 R H ρ L st σ w → gdOk ops σ o.guard = false → runFl E cI N fr pos ops fl g (st.put o.dst (.c undef)) K kp → (match fl.any (Nat.beq i) with
      | true => q32 (FR none) md E.P ops Q (AgH H) (f + 1) ls a w
      | false => wpOpIn (FR none) md E.P ops Q i (fun a' w' => AgH H w' ∧ q32 (FR none) md E.P ops Q (AgH H) f (ls.setIfInBounds i true) a' w') a w) := fun hs hg h => by
        have hw := rest (ha.put hd undef) h (Hp.le.refl _) (RM.le.refl _) (hs.putU o.dst); cases hq : fl.any (Nat.beq i) with
        | false =>
          refine only hq ?_; unfold wpOpIn; rw [ho]; simp only; rw [hwt, hg]; exact ⟨noAbout, ag, hw⟩
        | true => exact first hq ⟨.inr ⟨hwt.trans hg, rfl⟩, fun w => q214 (quiet hq) a w⟩ hw
      have step : ∀ {st : St D}, Sat fr F w0 H0 R H ρ L st σ w → gdOk ops σ o.guard = true → stepF E cI fr ((10 + i) :: pos) (fl.any (Nat.beq i)) o st (fun st' => runFl E cI N fr pos ops fl g st' K kp) kp → (match fl.any (Nat.beq i) with
      | true => q32 (FR none) md E.P ops Q (AgH H) (f + 1) ls a w
      | false => wpOpIn (FR none) md E.P ops Q i (fun a' w' => AgH H w' ∧ q32 (FR none) md E.P ops Q (AgH H) f (ls.setIfInBounds i true) a' w') a w) := fun {st} hs hg h => by
        unfold stepF at h; cases hq : fl.any (Nat.beq i) with
        | true =>
          rw [hq] at h; simp only at h
          split at h
          · rename_i v hv
            obtain ⟨⟨x, h1, h2⟩, h3⟩ := q406 hs hv; refine first hq ⟨.inl ⟨hwt.trans hg, fun w' hw' => ?_⟩, fun w => h3 a w⟩ (rest (ha.put hd x) h (Hp.le.refl _) (RM.le.refl _) (hs.put h1 o.dst))
            rw [ha.eval]; exact h2 w' hw' _ _ _ _
          · exact h.elim
        | false =>
          rw [hq] at h; simp only at h; refine only hq ?_
          let Q1 : Exit → List Deferred → (Nat → Value) → World → Prop := fun e D' σ' w' => match e with
            | .normal => D' = Dd ∧ AgH H w' ∧ ∀ a', Rep N Dd σ' a' → q32 (FR none) md E.P ops Q (AgH H) f (ls.setIfInBounds i true) a' w'
            | .panic c => D' = Dd ∧ ∀ a', Rep N Dd σ' a' → Q (.panic c) a' w'
            | _ => False
          have h1 : RW none md E.P N ops [o] Q1 Dd σ w := q364 hE h0 hI hs h hg hd (kq := fun e st' σ' w' H' ρ' L' hkp g2 g3 g4 => by
            cases e with
            | panic c => exact ⟨rfl, fun a' ha' => kq c _ _ _ _ _ _ hkp g2 g3 g4 a' ha'⟩
            | _ => exact hkp.elim) fun st' σ' w' H' ρ' L' g1 g2 g3 g4 => RW.nil ⟨rfl, AgH.le g2 g4.mem.agree, fun a' ha' => rest ha' g1 g2 g3 g4⟩
          have h2 := h1 a ha; unfold wpListIn at h2; unfold wpOpIn; rw [ho]; simp only; rw [hwt, hg] at h2 ⊢; simp only [if_true] at h2 ⊢; refine Oper.wpIn_QK (fun a' w' hk => ?_) (fun e a' w' hne hk => ?_) h2
          · obtain ⟨D', σ', g1, g2, g3, g4⟩ := (show lift N Q1 .normal a' w' from hk)
            subst g2; exact ⟨g3, g4 a' g1⟩
          · obtain ⟨D', σ', g1, g2⟩ := hk
            cases e with
            | normal => exact absurd rfl hne
            | panic c =>
              obtain ⟨g3, g4⟩ := g2; subst g3; exact g4 a' g1
            | _ => exact g2.elim
      have gok : ∀ {j want d} {x : Bool}, o.guard = some (j, want) → (ops[j]?).bind (·.dst) = some d → σ d = .bool x → gdOk ops σ o.guard = (x == want) := fun h1 h2 h3 => by
        unfold gdOk; rw [h1]; simp only [h2, h3]
      unfold gdE at h; cases hgd : o.guard with
      | none =>
        simp only [hgd] at h; exact step hs (by rw [hgd]; rfl) h
      | some jw =>
        obtain ⟨j, want⟩ := jw; simp only [hgd] at h; cases hj : (ops[j]?).bind (·.dst) with
        | none =>
          simp only [hj] at h; refine pass hs ?_ h; unfold gdOk; rw [hgd]; simp only [hj]
        | some d =>
          simp only [hj] at h; cases hsl : (getS st.sl d).map (res st.kn) with
          | none => simp only [hsl] at h
          | some s =>
            obtain ⟨v0, hv0, hv1⟩ := Option.map_eq_some_iff.1 hsl; have hv2 := hs.res (hs.sl _ _ hv0); rw [hv1] at hv2; simp only [hsl] at h
            have ask : ∀ {v : SV D}, Rv H ρ (σ d) v → askF v (cdP want (stepF E cI fr ((10 + i) :: pos) (fl.any (Nat.beq i)) o (st.know (.tmp d) true) (fun st' => runFl E cI N fr pos ops fl g st' K kp) kp) (runFl E cI N fr pos ops fl g ((st.know (.tmp d) true).put o.dst (.c undef)) K kp))
                (cdP want (runFl E cI N fr pos ops fl g ((st.know (.tmp d) false).put o.dst (.c undef)) K kp) (stepF E cI fr ((10 + i) :: pos) (fl.any (Nat.beq i)) o (st.know (.tmp d) false) (fun st' => runFl E cI N fr pos ops fl g st' K kp) kp)) → (match fl.any (Nat.beq i) with
      | true => q32 (FR none) md E.P ops Q (AgH H) (f + 1) ls a w
      | false => wpOpIn (FR none) md E.P ops Q i (fun a' w' => AgH H w' ∧ q32 (FR none) md E.P ops Q (AgH H) f (ls.setIfInBounds i true) a' w') a w) := fun hv h => by
              rcases q190 hv h with ⟨e, h⟩ | ⟨e, h⟩
              · have hk := hs.know (c := .tmp d) (b := true) e
                have hgg := gok hgd hj e; cases want with
                | true => exact step hk hgg h
                | false => exact pass hk hgg h
              · have hk := hs.know (c := .tmp d) (b := false) e
                have hgg := gok hgd hj e; cases want with
                | true => exact pass hk hgg h
                | false => exact step hk hgg h
            cases s with
            | k b =>
              simp only at h; have hgg := gok hgd hj (show σ d = .bool b from hv2); cases hb : b == want with
              | true => rw [hb] at h; exact step hs (hgg.trans hb) h
              | false => rw [hb] at h; exact pass hs (hgg.trans hb) h
            | c v =>
              simp only at h; cases hb : q119 v with
              | true => rw [hb] at h; exact h.elim
              | false =>
                rw [hb] at h; refine pass hs ?_ h; unfold gdOk; rw [hgd]; simp only [hj, show σ d = v from hv2]; cases v <;> first | rfl | cases hb
            | b x => exact ask hv2 h
            | p p i => exact ask hv2 h
            | _ => exact h.elim
def lsO : List Nat → Array Bool → Array Bool
  | [], ls => ls
  | i :: g, ls => lsO g (ls.setIfInBounds i true)
theorem q264 (hE : E.Ok) (h0 : E.G H0) {pos : List Nat} {md N : Nat} {ops : Array Oper} {fl : List Nat} {Dd : List Deferred} {K : St D → Prop} {kp : Exit → St D → Prop} {Q : Exit → Act → World → Prop} (hQ : ∀ (i : Nat) (o : Oper) (v : Value) c a w, ops[i]? = some o → Q (.panic c) (a.put o.dst v) w → Q (.panic c) a w) (hsel : Region.noSelect ops = true) {f : Nat} : ∀ {g : List Nat} {ls : Array Bool} {st : St D} {H : Hp} {ρ : RM} {L : List Ent} {σ : Nat → Value} {w : World} {a : Act},
    q72 E.P cI w0 H0 H ρ → Rep N Dd σ a → Sat fr F w0 H0 R H ρ L st σ w → runFl E cI N fr pos ops fl g st K kp → flP ops fl g ls = true → (∀ st' σ' w' H' ρ' L' a', K st' → H.le H' → RM.le ρ ρ' → Sat fr F w0 H0 R H' ρ' L' st' σ' w' → Rep N Dd σ' a' → q32 (FR none) md E.P ops Q (AgH H') f (lsO g ls) a' w') → (∀ c, Goes fr F w0 H0 R H ρ (kp (.panic c)) fun σ' w' => ∀ a', Rep N Dd σ' a' → Q (.panic c) a' w') → q32 (FR none) md E.P ops Q (AgH H) (g.length + f) ls a w
  | [], ls, st, H, ρ, L, σ, w, a, _, ha, hs, h, _, k, _ => by
    rw [List.length_nil, Nat.zero_add]; exact k _ _ _ _ _ _ _ h (Hp.le.refl _) (RM.le.refl _) hs ha
  | i :: g, ls, st, H, ρ, L, σ, w, a, hI, ha, hs, h, hf, k, kq => by
    unfold flP at hf; rw [Bool.and_eq_true, Bool.and_eq_true] at hf; obtain ⟨⟨hr, hfr⟩, hf⟩ := hf; have h1 := q407 (md := md) (Q := Q) (f := g.length + f) hE h0 hQ hsel hI ha hs h hr (fun hq => by rw [hq, cond_true, Bool.and_eq_true] at hfr; exact hfr) (fun h1 h2 h3 h4 h5 => (q264 hE h0 hQ hsel (hI.mono h3 h4) h1 h5 h2 hf (fun st' σ' w' H' ρ' L' a' g1 g2 g3 => k _ _ _ _ _ _ _ g1 (h3.trans g2) (h4.trans g3)) fun c => (kq c).mono h3 h4).mono fun w hw => hw.le h3) kq; rw [show (i :: g).length + f = g.length + f + 1 by rw [List.length_cons]; omega]; cases hq : fl.any (Nat.beq i) with
    | true => rw [hq] at h1; exact h1
    | false =>
      rw [hq] at h1; rw [hq, cond_false] at hfr; have e : Region.ready .any ops ls = [i] := q490 hfr; refine ⟨fun h => (by rw [e] at h; cases h), fun j hj => ?_⟩; rw [e, List.mem_singleton] at hj; subst hj; exact h1
def fkB (ops : Array Oper) (fl : List Nat) (s1 s2 : List Nat) (ls : Array Bool) : Bool := match s1, s2 with
  | i :: g1, j :: g2 => eqL (Region.ready .any ops ls) [i, j] && (!(fl.any (Nat.beq i)) && (!(fl.any (Nat.beq j)) && (Nat.beq g1.length g2.length && (flP ops fl g1 (ls.setIfInBounds i true) && (flP ops fl g2 (ls.setIfInBounds j true) && ((Region.ready .any ops (lsO g1 (ls.setIfInBounds i true))).isEmpty && (Region.ready .any ops (lsO g2 (ls.setIfInBounds j true))).isEmpty))))))
  | _, _ => false
theorem q659 (hE : E.Ok) (h0 : E.G H0) {pos : List Nat} {md N : Nat} {ops : Array Oper} {fl : List Nat} {Dd : List Deferred} {K : St D → Prop} {kp : Exit → St D → Prop} {Q : Exit → Act → World → Prop} (hQ : ∀ (i : Nat) (o : Oper) (v : Value) c a w, ops[i]? = some o → Q (.panic c) (a.put o.dst v) w → Q (.panic c) a w) (hsel : Region.noSelect ops = true) {s1 s2 : List Nat} {ls : Array Bool} {st : St D} {H : Hp} {ρ : RM} {L : List Ent} {σ : Nat → Value} {w : World} {a : Act}
    (hI : q72 E.P cI w0 H0 H ρ) (ha : Rep N Dd σ a) (hs : Sat fr F w0 H0 R H ρ L st σ w) (h : runFl E cI N fr pos ops fl s1 st K kp ∧ runFl E cI N fr pos ops fl s2 st K kp) (hf : fkB ops fl s1 s2 ls = true) (k : Goes fr F w0 H0 R H ρ K (fun σ' w' => ∀ a', Rep N Dd σ' a' → Q .normal a' w')) (kq : ∀ c, Goes fr F w0 H0 R H ρ (kp (.panic c)) fun σ' w' => ∀ a', Rep N Dd σ' a' → Q (.panic c) a' w') : q32 (FR none) md E.P ops Q (AgH H) s1.length ls a w := by
  unfold fkB at hf
  split at hf
  · rename_i i g1 j g2
    simp only [Bool.and_eq_true, Bool.not_eq_true'] at hf; obtain ⟨hr, hi, hj, hl, f1, f2, e1, e2⟩ := hf; have e := q490 hr; have hl := Nat.eq_of_beq_eq_true hl
    have one : ∀ {q : Nat} {g : List Nat}, runFl E cI N fr pos ops fl (q :: g) st K kp → q ∈ Region.ready .any ops ls → fl.any (Nat.beq q) = false → flP ops fl g (ls.setIfInBounds q true) = true → (Region.ready .any ops (lsO g (ls.setIfInBounds q true))).isEmpty = true → wpOpIn (FR none) md E.P ops Q q (fun a' w' => AgH H w' ∧ q32 (FR none) md E.P ops Q (AgH H) (g.length + 0) (ls.setIfInBounds q true) a' w') a w := fun {q g} h hq hn hf he => by
      have h1 := q407 (md := md) (Q := Q) (f := g.length + 0) hE h0 hQ hsel hI ha hs h (by simpa using hq) (fun hq => by rw [hn] at hq; cases hq) (fun h1 h2 h3 h4 h5 => (q264 (f := 0) hE h0 hQ hsel (hI.mono h3 h4) h1 h5 h2 hf (fun st' σ' w' H' ρ' L' a' g1 g2 g3 g4 g5 => ⟨List.isEmpty_iff.1 he, k _ _ _ _ _ _ g1 (h3.trans g2) (h4.trans g3) g4 a' g5⟩) fun c => (kq c).mono h3 h4).mono fun w hw => hw.le h3) kq; rw [hn] at h1; exact h1
    refine ⟨fun h => (by rw [e] at h; cases h), fun q hq => ?_⟩; have hm : i ∈ Region.ready .any ops ls ∧ j ∈ Region.ready .any ops ls := by rw [e]; simp
    rw [e] at hq; rcases List.mem_cons.1 hq with rfl | hq
    · exact one h.1 hm.1 hi f1 e1
    · obtain rfl := List.mem_singleton.1 hq
      have := one h.2 hm.2 hj f2 e2; rw [← hl] at this; exact this
  · cases hf
def flF (E : Env D) (cI : CallX D) (N : Nat) (fr : List (Nat × Blk D)) (pos : List Nat) (ops : Array Oper) (fl : List Nat) (m : Nat) (g : List Nat) (st : St D) (K : St D → Prop) (kp : Exit → St D → Prop) : Prop :=
  match m with
  | 0 => cdP (Region.noSelect ops && (Nat.beq g.length ops.size && (flP ops fl g (Array.replicate ops.size false) && (Region.ready .any ops (lsO g (Array.replicate ops.size false))).isEmpty))) (runFl E cI N fr pos ops fl g st K fun e st' => kp e ⟨cutS ops st'.sl, st'.bk, st'.kn, st'.nx⟩) False
  | m + 1 => cdP (Region.noSelect ops && (Nat.beq ((g.take m).length + ((g.drop m).take (ops.size - m)).length) ops.size && (flP ops fl (g.take m) (Array.replicate ops.size false) && fkB ops fl ((g.drop m).take (ops.size - m)) ((g.drop m).drop (ops.size - m)) (lsO (g.take m) (Array.replicate ops.size false)))))
      (runFl E cI N fr pos ops fl (g.take m) st (fun st' => runFl E cI N fr pos ops fl ((g.drop m).take (ops.size - m)) st' K (fun e st' => kp e ⟨cutS ops st'.sl, st'.bk, st'.kn, st'.nx⟩) ∧ runFl E cI N fr pos ops fl ((g.drop m).drop (ops.size - m)) st' K fun e st' => kp e ⟨cutS ops st'.sl, st'.bk, st'.kn, st'.nx⟩) fun e st' => kp e ⟨cutS ops st'.sl, st'.bk, st'.kn, st'.nx⟩) False
theorem flF_ok (hE : E.Ok) (h0 : E.G H0) (hI : q72 E.P cI w0 H0 H ρ) {pos : List Nat} {md N id : Nat} {ops : Array Oper} {fl : List Nat} {m : Nat} {g : List Nat} {Dd : List Deferred} {K : St D → Prop} {kp : Exit → St D → Prop} {Q : Exit → List Deferred → (Nat → Value) → World → Prop} (hs : Sat fr F w0 H0 R H ρ L st σ w) (h : flF E cI N fr pos ops fl m g st K kp)
    (k : Goes fr F w0 H0 R H ρ K fun σ' w' => Q .normal Dd σ' w') (kq : ∀ e, Goes fr F w0 H0 R H ρ (kp e) fun σ' w' => Q e Dd σ' w') : CW none md E.P N (.region id ops true) Q Dd σ w := fun a ha => by
  let Q1 : Exit → Act → World → Prop := fun e a w => match e with
    | .normal => lift N Q .normal a w
    | .panic c => ∀ a' : Act, a'.defers = a.defers → a'.tmps.size = a.tmps.size → (∀ t, dstB ops t = false → a'.tmps.getD t undef = a.tmps.getD t undef) → lift N Q (.panic c) a' w
    | _ => False
  have hs' : Sat fr F w0 H0 R H ρ L st σ { w with drawn := w.drawn + 1 } := ⟨hs.mem.drew, hs.sl, hs.bk, hs.fr, hs.kn, hs.nx⟩
  have hQ1 : ∀ (i : Nat) (o : Oper) (v : Value) c a w, ops[i]? = some o → Q1 (.panic c) (a.put o.dst v) w → Q1 (.panic c) a w := fun i o v c a w hi hq a' q1 q2 q3 => hq a' (q1.trans (put_defers a o.dst v).symm) (q2.trans (q658 a o.dst v).symm) fun t ht => (q3 t ht).trans (put_get a hi ht v).symm; have kn : Goes fr F w0 H0 R H ρ K (fun σ' w' => ∀ a', Rep N Dd σ' a' → Q1 .normal a' w') := fun st' σ' w' H' ρ' L' g1 g2 g3 g4 a' ha' => ⟨Dd, σ', ha', k _ _ _ _ _ _ g1 g2 g3 g4⟩
  have kp1 : ∀ c, Goes fr F w0 H0 R H ρ (fun st' => kp (.panic c) ⟨cutS ops st'.sl, st'.bk, st'.kn, st'.nx⟩) fun σ' w' => ∀ a', Rep N Dd σ' a' → Q1 (.panic c) a' w' := fun c st' σ' w' H' ρ' L' g1 g2 g3 g4 a' ha' => by
    intro a'' q1 q2 q3; refine ⟨Dd, fun t => a''.tmps.getD t undef, ⟨q1.trans ha'.1, q2.trans ha'.2.1, fun _ => rfl⟩, kq _ _ _ _ _ _ _ g1 g2 g3 ⟨g4.mem, fun t v hv => ?_, g4.bk, g4.fr, g4.kn, g4.nx⟩⟩; obtain ⟨⟨u, e1, e2⟩, e3⟩ := q435 hv; have := g4.sl t u e1; rw [e2 e3] at this; show Rv H' ρ' (a''.tmps.getD t undef) v; rw [q3 t e3, ha'.2.2 t]; exact this
  have h1 : q32 (FR none) md E.P ops Q1 (AgH H) ops.size (Array.replicate ops.size false) a { w with drawn := w.drawn + 1 } := by
    unfold flF at h
    split at h
    · obtain ⟨hc, h⟩ := cifP h
      simp only [Bool.and_eq_true] at hc; obtain ⟨hc1, hc2, hc3, hc4⟩ := hc; have := q264 (Q := Q1) (md := md) (Dd := Dd) (f := 0) hE h0 hQ1 hc1 hI ha hs' h hc3 (fun st' σ' w' H' ρ' L' a' g1 g2 g3 g4 g5 => ⟨List.isEmpty_iff.1 hc4, kn _ _ _ _ _ _ g1 g2 g3 g4 a' g5⟩) kp1; rw [Nat.add_zero, Nat.eq_of_beq_eq_true hc2] at this; exact this
    · rename_i m
      obtain ⟨hc, h⟩ := cifP h; simp only [Bool.and_eq_true] at hc; obtain ⟨hc1, hc2, hc3, hc4⟩ := hc; have := q264 (Q := Q1) (md := md) (Dd := Dd) (f := ((g.drop m).take (ops.size - m)).length) hE h0 hQ1 hc1 hI ha hs' h hc3 (fun st' σ' w' H' ρ' L' a' g1 g2 g3 g4 g5 => q659 (Q := Q1) (md := md) (Dd := Dd) hE h0 hQ1 hc1 (hI.mono g2 g3) g5 g4 g1 hc4 (kn.mono g2 g3) fun c => (kp1 c).mono g2 g3) kp1; rw [Nat.eq_of_beq_eq_true hc2] at this; exact this
  refine wpIn_mono (wpIn_region_any hE.mo h1.any) fun e a' w' hq => ?_; cases e with
  | normal => exact hq
  | panic c => exact hq a' rfl rfl fun _ _ => rfl
  | _ => exact hq.elim
end
end
section
section
variable {r : Option Nat} {m : Nat} {P : Program} {N : Nat} {Q : Exit → List Deferred → (Nat → Value) → World → Prop} {D : List Deferred} {σ : Nat → Value} {w : World}
theorem CW.loopD {c : Code} {β : Type} (Inv : β → List Deferred → (Nat → Value) → World → Prop) (μ : β → Nat) (b : β) (h0 : Inv b D σ w)
    (hr : ∀ b D σ w, Inv b D σ w → CW r m P N c (thenQ (fun D' σ' w' => ∃ b', Inv b' D' σ' w' ∧ μ b' < μ b) Q) D σ w) : CW r m P N (.loop c) Q D σ w := by
  intro a ha
  have hmin : ∀ (a : Act) (w : World), (∃ b D σ, Rep N D σ a ∧ Inv b D σ w) → ∃ k, (∃ b D σ, Rep N D σ a ∧ Inv b D σ w ∧ μ b = k) ∧ ∀ j, (∃ b D σ, Rep N D σ a ∧ Inv b D σ w ∧ μ b = j) → k ≤ j := by
    intro a w ⟨b, D, σ, h1, h2⟩; exact q457 (fun k => ∃ b D σ, Rep N D σ a ∧ Inv b D σ w ∧ μ b = k) (μ b) ⟨b, D, σ, h1, h2, rfl⟩
  let M : Act → World → Nat := fun a w => by
    classical
    exact if h : ∃ b D σ, Rep N D σ a ∧ Inv b D σ w then Classical.choose (hmin a w h) else 0
  have hM : ∀ a w (h : ∃ b D σ, Rep N D σ a ∧ Inv b D σ w), (∃ b D σ, Rep N D σ a ∧ Inv b D σ w ∧ μ b = M a w) ∧ ∀ j, (∃ b D σ, Rep N D σ a ∧ Inv b D σ w ∧ μ b = j) → M a w ≤ j := by
    intro a w h; have := Classical.choose_spec (hmin a w h); have e : M a w = Classical.choose (hmin a w h) := dif_pos h; rw [e]; exact this
  refine wpIn_loop (fun a w => ∃ b D σ, Rep N D σ a ∧ Inv b D σ w) M ⟨b, D, σ, ha, h0⟩ ?_; intro a w hI; obtain ⟨b, D, σ, h1, h2, h3⟩ := (hM a w hI).1; refine wpIn_mono (hr b D σ w h2 a h1) ?_
  rintro e a' w' ⟨D', σ', h4, h5⟩
  cases e with
  | normal =>
    obtain ⟨b', h6, h7⟩ := h5; have hI' : ∃ b D σ, Rep N D σ a' ∧ Inv b D σ w' := ⟨b', D', σ', h4, h6⟩
    refine ⟨hI', Nat.lt_of_le_of_lt ((hM a' w' hI').2 _ ⟨b', D', σ', h4, h6, rfl⟩) ?_⟩; rw [← h3]; exact h7
  | _ => exact ⟨D', σ', h4, h5⟩
end
def mkD (ms : List Nat) : List Deferred := ms.map mark
def mkO (ms : List Nat) : List Ent := ms.map fun b => .obj b ddO
def Join {S : Type} (b : S → Prop) (r : (S → Prop) → Prop) : Prop := r b
section
variable {D : Nat → Type} [∀ t, Dt (D t)] {H : Hp} {ρ : RM}
def PksR (P : Program) : List Nat → List Value → List (List Value) → Prop
  | [], vs, cs => vs = [] ∧ cs = []
  | t :: r, vs, cs => ∃ v q c d, vs = v :: q ∧ cs = c :: d ∧ PkR P t v c ∧ PksR P r q d
def RvLL (H : Hp) (ρ : RM) : List (List Value) → List (List (SV D)) → Prop
  | us, [] => us = []
  | us, l :: m => ∃ u r, us = u :: r ∧ RvL H ρ u l ∧ RvLL H ρ r m
theorem q192 {P : Program} : ∀ {ts : List Nat} {vs : List (SV D)} {xs : List Value} {ls : List (List (SV D))}, RvL H ρ xs vs → argsC P ts vs = some ls → ∃ cs, PksR P ts xs cs ∧ RvLL H ρ cs ls
  | [], [], xs, ls, hv, h => by cases h; exact ⟨[], ⟨hv, rfl⟩, rfl⟩
  | [], _ :: _, _, _, _, h => by cases h
  | _ :: _, [], _, _, _, h => by cases h
  | t :: r, v :: vs, xs, ls, ⟨y, q, e, h1, h2⟩, h => by
    rw [argsC] at h; cases hl : argC P t v with
    | none => simp only [hl] at h; cases h
    | some l =>
      cases hm : argsC P r vs with
      | none => simp only [hl, hm] at h; cases h
      | some m =>
        simp only [hl, hm] at h; cases h; obtain ⟨c, g1, g2⟩ := q426 h1 hl; obtain ⟨d, g3, g4⟩ := q192 h2 hm; exact ⟨c :: d, ⟨y, q, c, d, e, rfl, g1, g3⟩, c, d, rfl, g2, g4⟩
theorem q173 {P : Program} : ∀ {ts : List Nat} {ls : List (List (SV D))} {vs : List (SV D)} {xs : List Value} {cs : List (List Value)}, PksR P ts xs cs → RvLL H ρ cs ls → packs P ts ls = some vs → RvL H ρ xs vs
  | [], [], vs, xs, cs, ⟨h1, _⟩, _, h => by cases h; exact h1
  | [], _ :: _, _, _, _, _, _, h => by cases h
  | _ :: _, [], _, _, _, _, _, h => by cases h
  | t :: r, l :: m, vs, xs, cs, ⟨v, q, c, d, e1, e2, h1, h2⟩, ⟨u, s, e3, h3, h4⟩, h => by
    subst e2; cases e3; rw [packs] at h; cases ha : packT P t l with
    | none => simp only [ha] at h; cases h
    | some a =>
      cases hb : packs P r m with
      | none => simp only [ha, hb] at h; cases h
      | some b =>
        simp only [ha, hb] at h; cases h; exact ⟨v, q, e1, q466 h1 h3 ha, q173 h2 h4 hb⟩
theorem q134 {P : Program} {tb : Tb D} (htb : TbOk tb) : ∀ {ts : List Nat} {x : TupD D ts} {xs : List Value} {ls : List (List (SV D))}, ArgsR P H ts x xs → tupC tb ts x = some ls → ∃ cs, PksR P ts xs cs ∧ RvLL H ρ cs ls
  | [], x, xs, ls, h, hl => by cases hl; exact ⟨[], ⟨h, rfl⟩, rfl⟩
  | t :: r, x, xs, ls, ⟨v, cs, q, e, h1, h2, h3⟩, hl => by
    rw [tupC] at hl; cases ha : toC tb t x.1 with
    | none => simp only [ha] at hl; cases hl
    | some a =>
      cases hb : tupC tb r x.2 with
      | none => simp only [ha, hb] at hl; cases hl
      | some b =>
        simp only [ha, hb] at hl; cases hl; obtain ⟨d, g1, g2⟩ := q134 htb h3 hb; exact ⟨cs :: d, ⟨v, q, cs, d, e, rfl, h1, g1⟩, cs, d, rfl, q102 htb ha h2, g2⟩
theorem q408 {P : Program} : ∀ {ts : List Nat} {x : TupD D ts} {xs : List Value}, ArgsR P H ts x xs → xs.length = ts.length
  | [], _, _, h => by rw [show _ = ([] : List Value) from h]; rfl
  | _ :: r, _, _, ⟨v, cs, q, e, _, _, h⟩ => by rw [e, List.length_cons, q408 h, List.length_cons]
def parS : List Nat → List (SV D) → List (Nat × SV D) → List (Nat × SV D)
  | p :: ps, v :: vs, l => parS ps vs (setS l p v)
  | _, _, l => l
theorem q436 : ∀ {ps : List Nat} {vs : List (SV D)} {xs : List Value} {l : List (Nat × SV D)} {σ : Nat → Value}, SlR H ρ l σ → RvL H ρ xs vs → SlR H ρ (parS ps vs l) (slp ps xs σ)
  | [], _, _, _, _, h, _ => by simpa [parS, slp] using h
  | _ :: _, [], xs, _, _, h, hv => by
    rw [show xs = ([] : List Value) from hv]; simpa [parS, slp] using h
  | p :: ps, v :: vs, _, l, σ, h, ⟨x, q, e, h1, h2⟩ => by
    subst e; exact q436 (ps := ps) (h.put h1 (some p)) h2
variable {fr : List (Nat × Blk D)} {F : List Ent} {w0 w : World} {H0 : Hp} {R L : List Ent} {st : St D} {σ : Nat → Value}
theorem q265 (hs : Sat fr F w0 H0 R H ρ L st σ w) : ∀ {l : List (SV D)} {vs : List Value}, RvL H ρ vs l → RvL H ρ vs (l.map fun v => rsD (st.lk fr) (resD st.kn v))
  | [], _, h => h
  | _ :: _, _, ⟨v, r, h1, h2, h3⟩ => ⟨v, r, h1, q398 hs (q234 hs h2), q265 hs h3⟩
def capE (tb : Tb D) (st : St D) (fr : List (Nat × Blk D)) (t : Nat) (v : SV D) : Option (D t) := match v with
  | .ptr id 0 => match st.lk fr id with
    | some (.fbx T us) => bif Nat.beq T t then ofC tb t (us.map fun v => rsD (st.lk fr) (resD st.kn v)) else none
    | _ => none
  | _ => none
def capsE (tb : Tb D) (st : St D) (fr : List (Nat × Blk D)) : (cs : List Nat) → List (SV D) → Option (TupD D cs)
  | [], [] => some ()
  | [], _ :: _ => none
  | _ :: _, [] => none
  | t :: r, v :: q => match capE tb st fr t v, capsE tb st fr r q with
    | some x, some y => some (x, y)
    | _, _ => none
theorem capE_ok {tb : Tb D} (htb : TbOk tb) (hs : Sat fr F w0 H0 R H ρ L st σ w) {t : Nat} {v : SV D} {y : Value} {x : D t} (hv : Rv H ρ y v) (h : capE tb st fr t v = some x) : ∃ b us, y = .pointer (some ⟨b, 0, none⟩) ∧ H b = some (.cells (us : List Value).toArray t (0, 0)) ∧ Dt.rd (α := D t) H us x := by
  unfold capE at h
  split at h
  · rename_i id
    split at h
    · rename_i T us hl
      have hT := cif h; clear h; obtain ⟨hT, h⟩ := hT; obtain rfl := Nat.eq_of_beq_eq_true hT; obtain ⟨L1, S, L2, ⟨_, c, vs, g1, g2, g3⟩, _⟩ := hs.read hl; obtain ⟨c', g4, g5⟩ := hv; rw [g1] at g4; cases g4; exact ⟨c, vs, g5, g2, q80 htb h (q265 hs g3)⟩
    · cases h
  · cases h
theorem q492 {tb : Tb D} (htb : TbOk tb) (hs : Sat fr F w0 H0 R H ρ L st σ w) : ∀ {cs : List Nat} {l : List (SV D)} {lb : List Value} {x : TupD D cs}, RvL H ρ lb l → capsE tb st fr cs l = some x → CapsR H cs x lb
  | [], [], _, _, hv, _ => hv
  | [], _ :: _, _, _, _, h => by cases h
  | _ :: _, [], _, _, _, h => by cases h
  | t :: r, v :: q, lb, x, ⟨y, p, e, h1, h2⟩, h => by
    rw [capsE] at h; cases ha : capE tb st fr t v with
    | none => simp only [ha] at h; cases h
    | some a =>
      cases hb : capsE tb st fr r q with
      | none => simp only [ha, hb] at h; cases h
      | some b =>
        simp only [ha, hb] at h; cases h; obtain ⟨c, us, g1, g2, g3⟩ := capE_ok htb hs h1 ha; exact ⟨c, us, p, by rw [e, g1], g2, g3, q492 htb hs h2 hb⟩
end
section
variable {D : Nat → Type} [∀ t, Dt (D t)]
def partB (ids : List Nat) : List (Nat × Blk D) → List (Nat × Blk D) × List (Nat × Blk D)
  | [] => ([], [])
  | q :: r => match partB ids r with
    | (a, b) => bif ids.any (Nat.beq q.1) then (q :: a, b) else (a, q :: b)
theorem q493 {ids : List Nat} {H : Hp} {ρ : RM} : ∀ {bk a b : List (Nat × Blk D)} {L : List Ent}, BkR H ρ bk L → partB ids bk = (a, b) → ∃ La Lb, L.Perm (Lb ++ La) ∧ BkR H ρ a La ∧ BkR H ρ b Lb
  | [], a, b, L, h, hp => by
    cases hp; exact ⟨[], [], by rw [show L = [] from h]; exact List.Perm.refl _, rfl, rfl⟩
  | (id, q) :: r, a, b, L, ⟨S, L', h1, h2, h3⟩, hp => by
    rcases hr : partB ids r with ⟨a', b'⟩
    obtain ⟨La, Lb, g1, g2, g3⟩ := q493 h3 hr; unfold partB at hp; rw [hr] at hp; cases hb : ids.any (Nat.beq id) with
    | true =>
      simp only [hb, cond_true] at hp; cases hp; refine ⟨S ++ La, Lb, ?_, ⟨S, La, rfl, h2, g2⟩, g3⟩; rw [h1]; refine (List.Perm.append_left S g1).trans ?_; rw [← List.append_assoc, ← List.append_assoc]; exact List.Perm.append_right La List.perm_append_comm
    | false =>
      simp only [hb, cond_false] at hp; cases hp; refine ⟨La, S ++ Lb, ?_, g2, S, Lb, rfl, h2, g3⟩; rw [h1, List.append_assoc]; exact List.Perm.append_left S g1
def findP (pos : List Nat) : List PE → Option PE
  | [] => none
  | p :: r => bif eqL p.pos pos then some p else findP pos r
def unrN (pos : List Nat) (l : List PE) : Nat := match findP (8 :: pos) l with
  | some pe => match pe.tp.rw with
    | [n] => n
    | _ => 0
  | none => 0
def q494 {S : Type} (f : S → (S → Prop) → Prop) : Nat → S → Prop
  | 0, _ => False
  | n + 1, st => f st (q494 f n)
def findL (pos : List Nat) (ok : PE → Bool) : List PE → Option PE
  | [] => none
  | p :: r => bif eqL p.pos pos then (match findP pos r with
    | none => some p
    | some _ => bif ok p then some p else findL pos ok r) else findL pos ok r
def findJ (pos : List Nat) (ok : PE → Bool) : List PE → Option PE
  | [] => none
  | p :: r => bif eqL p.pos pos && ok p then some p else findJ pos ok r
def okJ (st : St D) (pe : PE) : Bool := bif pe.sure then true else match (st.frzL pe.fz).tag with
  | ⟨sl, bk, _, _⟩ => (pe.kp.all fun i => (gtB bk i).isSome) && pe.tp.sl.all fun p => match p.2 with
    | .kp n => match getS sl p.1 with
      | some (.kp m) => Nat.beq m n
      | _ => false
    | _ => true
def findD (pos : List Nat) (st : St D) (l : List PE) : Option PE := match findJ pos (fun pe => pe.kp.all fun i => (gtB st.bk i).isSome) l with
  | some pe => some pe
  | none => findP pos l
def q158 (pe : PE) (st : St D) : List (Nat × Blk D) × St D := match (st.frzL pe.fz).tag with
  | ⟨sl, bk, kn, nx⟩ => match partB pe.kp bk with
    | (k, v) => (k, ⟨sl, v, kn, nx⟩)
def fillE (tp : Tp) (nx : Nat) (st : St D) (fr : List (Nat × Blk D)) : Option (TupV D tp.vts) := match insT tp nx st fr with
  | some cs => tyL tp.vts cs
  | none => none
def makeE (tp : Tp) (nx : Nat) (kn : List (Nat × SV D)) (s : TupV D tp.vts) : Option (St D) := mkT tp nx kn (cvL tp.vts s)
def St.back (st : St D) (kept : List (Nat × Blk D)) : St D := ⟨st.sl, st.bk ++ kept, st.kn, st.nx⟩
def fitE (st : St D) (fr : List (Nat × Blk D)) (pe : PE) : Bool := match q158 pe st with
  | (kept, st1) => (fillE pe.tp st1.nx st1 (kept ++ fr)).isSome
def St.withSl (st : St D) (l : List (Nat × SV D)) : St D := ⟨l, st.bk, st.kn, st.nx⟩
mutual
def giveV (rv : SV D → SV D) : TV → SV D → List Nat
  | .v _, v => match rv v with
    | .own id => [id]
    | _ => []
  | .agg l, v => match rv v with
    | .agg us => q578 rv l us
    | _ => []
  | .kp _, _ => []
  | .own _, _ => []
  | .fn _ _, _ => []
  | .mpv _, _ => []
  | .pv _ _, _ => []
def q578 (rv : SV D → SV D) : List TV → List (SV D) → List Nat
  | [], _ => []
  | _ :: _, [] => []
  | t :: l, v :: r => giveV rv t v ++ q578 rv l r
end
def giveS (rv : SV D → SV D) (sl : List (Nat × SV D)) : List (Nat × TV) → List Nat
  | [] => []
  | p :: l => (match getS sl p.1 with
    | some v => giveV rv p.2 v
    | none => []) ++ giveS rv sl l
def giveB (rv : SV D → SV D) (bk : List (Nat × Blk D)) : List (Nat × Nat × List TV) → List Nat
  | [] => []
  | p :: l => (match gtB bk p.1 with
    | some (.box _ cs) => q578 rv p.2.2 cs
    | _ => []) ++ giveB rv bk l
def giveT (tp : Tp) (st : St D) (fr : List (Nat × Blk D)) : List Nat := giveS (fun v => rsV (st.lk fr) (res st.kn v)) st.sl tp.sl ++ giveB (fun v => rsV (st.lk fr) (res st.kn v)) st.bk tp.bx
def runC (E : Env D) (cI : CallX D) (N : Nat) (rd : Bool) : Code → List Nat → List (Nat × Blk D) → St D → (Exit → St D → Prop) → Prop
  | .skip, _, _, st, K => K .normal st
  | .ret, _, _, st, K => K .ret st
  | .exit id, _, _, st, K => K (.exit id) st
  | .region _ ops false, pos, fr, st, K => runR E cI N fr pos ops 0 ops.toList st (K .normal) K
  | .region _ ops true, pos, fr, st, K => preR (q285 (8 :: pos) E.sp) st fun st => match findD pos st E.plan with
    | none => drawF E N fr ops st (K .normal)
    | some pe => match q158 pe st with
      | (kept, st1) => match pe.tp.rw with
        | [] => drawF E N (kept ++ fr) ops st1 fun st' => K .normal (st'.back kept)
        | [c] => cdP (tailB ops c) (drawF E N (kept ++ fr) (ops.extract 0 c) st1 fun st' => runR E cI N (kept ++ fr) pos ops c (ops.toList.drop c) st' (fun st'' => K .normal (st''.back kept)) fun e st'' => K e (st''.back kept)) False
        | m :: _ :: g => match rd with
          | true => False
          | false => flF E cI N (kept ++ fr) pos ops (pe.tp.sl.map Prod.fst) m g st1 (fun st' => K .normal (st'.back kept)) fun e st' => K e (st'.back kept)
  | .cond c a b, pos, fr, st, K => match (evO st.sl c).map (res st.kn) with
    | some (.k true) => runC E cI N rd a (2 :: pos) fr st K
    | some (.k false) => runC E cI N rd b (3 :: pos) fr st K
    | some s => askF s (runC E cI N rd a (2 :: pos) fr (st.know c true) K) (runC E cI N rd b (3 :: pos) fr (st.know c false) K)
    | none => False
  | .block id c, pos, fr, st, K => runC E cI N rd c (4 :: pos) fr st fun e st' => match e with
    | .exit id' => cdP (Nat.beq id' id) (K .normal st') (K (.exit id') st')
    | e => K e st'
  | .seq a b, pos, fr, st, K => match findJ pos (okJ st) E.plan with
    | none => runC E cI N rd a (0 :: pos) fr st fun e st' => match e with
      | .normal => runC E cI N rd b (1 :: pos) fr st' K
      | e => K e st'
    | some pe => match q158 pe st with
      | (kept, st1) => Join (fun s => match makeE pe.tp (st1.nx + pe.up) st1.kn s with
        | some st2 => runC E cI N rd b (1 :: pos) fr (st2.back kept) K
        | none => False) fun J => runC E cI N rd a (0 :: pos) (kept ++ fr) st1 fun e st' => match e with
        | .normal => match fillE pe.tp (st1.nx + pe.up) (st'.frzL (giveT pe.tp st' (kept ++ fr))) (kept ++ fr) with
          | some s => J s
          | none => False
        | e => K e (st'.back kept)
  | .loop c, pos, fr, st, K => match unrN pos E.plan with
    | n + 1 => q494 (fun st rec => runC E cI N rd c (5 :: pos) fr st fun e st' => match e with
      | .normal => rec st'
      | e => K e st') (n + 1) st
    | 0 => match findL pos (fitE st fr) E.plan with
      | none => False
      | some pe => match q158 pe st with
        | (kept, st1) => match fillE pe.tp st1.nx st1 (kept ++ fr) with
          | some s0 => LoopW (fun s rec => match makeE pe.tp st1.nx st1.kn s with
            | some st2 => runC E cI N rd c (5 :: pos) (kept ++ fr) st2 fun e st' => match e with
              | .normal => match fillE pe.tp st1.nx (st'.frzL (giveT pe.tp st' (kept ++ fr))) (kept ++ fr) with
                | some s' => rec s'
                | none => False
              | e => K e (st'.back kept)
            | none => False) s0
          | none => False
  | .rangeFunc g ps assign body, pos, fr, st, K => match rd with
    | true => False
    | false => match (evO st.sl g).map (res st.kn) with
      | some (.fn gf caps) => match findI gf E.its with
        | none => cdP (entB E.P gf && (ps.toList.all fun p => Nat.blt p N)) (cI.it (fun n vs st2 fr2 pos2 K2 => cdP (Nat.beq n st.nx)
            (match remB st2.bk (st.nx + 1) with
              | some (.jmp none, bk) => cdP (Nat.beq vs.length ps.size) (runC E cI N true assign (6 :: pos2) fr2 ⟨parS ps.toList vs st.sl, bk, st2.kn, st2.nx⟩ fun e st3 => match e with
                | .normal => runC E cI N true body (7 :: pos2) fr2 st3 fun e st4 => match e with
                  | .normal => K2 (.k true) ⟨[], (st.nx + 1, .jmp none) :: st4.bk, st4.kn, st4.nx⟩
                  | .ret => K2 (.k false) ⟨[], (st.nx + 1, .jmp (some .ret)) :: st4.bk, st4.kn, st4.nx⟩
                  | .exit id => K2 (.k false) ⟨[], (st.nx + 1, .jmp (some (.exit id))) :: st4.bk, st4.kn, st4.nx⟩
                  | _ => False
                | _ => False) False
              | _ => False)
            (cI.yl n vs st2 fr2 pos2 K2)) gf (.kp st.nx :: caps) ⟨[], (st.nx + 1, .jmp none) :: st.bk, st.kn, st.nx + 2⟩ fr (9 :: pos) fun st2 => match remB st2.bk (st.nx + 1) with
              | some (.jmp none, bk) => K .normal ⟨st.sl, bk, st2.kn, st2.nx⟩
              | some (.jmp (some .ret), bk) => K .ret ⟨st.sl, bk, st2.kn, st2.nx⟩
              | some (.jmp (some (.exit id)), bk) => K (.exit id) ⟨st.sl, bk, st2.kn, st2.nx⟩
              | _ => False) False
        | some it => match findL pos (fitE st fr) E.plan with
          | some pe => cdP (entB E.P gf && ((ps.toList.all fun p => Nat.blt p N) && Nat.beq ps.size it.ts.length)) (match q158 pe st with
            | (kept, st1) => match capsE E.tb st1 (kept ++ fr) it.cs caps with
              | some cx => match fillE pe.tp st1.nx st1 (kept ++ fr) with
                | some s0 => ∃ l, it.W cx l ∧ LoopW (fun (q : List (TupD D it.ts) × TupV D pe.tp.vts) rec => match makeE pe.tp st1.nx st1.kn q.2 with
                  | some st2 => match q.1 with
                    | [] => K .normal ((st2.withSl st1.sl).back kept)
                    | x :: r => match tupC E.tb it.ts x with
                      | some ls => match packs E.P it.ts ls with
                        | some vs => runC E cI N true assign (6 :: pos) (kept ++ fr) (st2.withSl (parS ps.toList vs st1.sl)) fun e st3 => match e with
                          | .normal => runC E cI N true body (7 :: pos) (kept ++ fr) st3 fun e st4 => match e with
                            | .normal => match fillE pe.tp st1.nx st4 (kept ++ fr) with
                              | some s' => rec (r, s')
                              | none => False
                            | .ret => K .ret ((st4.withSl st1.sl).back kept)
                            | .exit id => K (.exit id) ((st4.withSl st1.sl).back kept)
                            | _ => False
                          | _ => False
                        | none => False
                      | none => False
                  | none => False) (l, s0)
                | none => False
              | none => False) False
          | none => False
      | _ => False
  | .goto l, _, _, st, K => K (.goto l) st
  | _, _, _, _, _ => False
variable {E : Env D} {cI : CallX D} {fr : List (Nat × Blk D)} {F : List Ent} {w0 w : World} {H0 H : Hp} {R : List Ent} {ρ : RM} {L : List Ent} {st : St D} {σ : Nat → Value}
theorem q215 {pe : PE} {kept : List (Nat × Blk D)} {st1 : St D} (hs : Sat fr F w0 H0 R H ρ L st σ w) (h : q158 pe st = (kept, st1)) : ∃ H1 ρ1 Lk Lv, H.le H1 ∧ RM.le ρ ρ1 ∧ BkR H1 ρ1 kept Lk ∧ BkR H1 ρ1 fr F ∧ Sat (kept ++ fr) (Lk ++ F) w0 H0 R H1 ρ1 Lv st1 σ w := by
  obtain ⟨H1, L1, h1, hs1⟩ := hs.frzL pe.fz; obtain ⟨ρ1, h2, hs2⟩ := hs1.tag; unfold q158 at h; generalize (st.frzL pe.fz).tag = st2 at h hs2; obtain ⟨sl, bk, kn, nx⟩ := st2; rcases hp : partB pe.kp bk with ⟨k, v⟩
  simp only [hp] at h; cases h; obtain ⟨La, Lb, g1, g2, g3⟩ := q493 hs2.bk hp; refine ⟨H1, ρ1, La, Lb, h1, h2, g2, hs2.fr, ?_, hs2.sl, g3, g2.append hs2.fr, hs2.kn, hs2.nx⟩; refine hs2.mem.perm ?_; have := g1.append_right (F ++ R); rwa [List.append_assoc, ← List.append_assoc La] at this
theorem Sat.back {kept : List (Nat × Blk D)} {Lk : List Ent} (hs : Sat (kept ++ fr) (Lk ++ F) w0 H0 R H ρ L st σ w) (hk : BkR H ρ kept Lk) (hf : BkR H ρ fr F) : Sat fr F w0 H0 R H ρ (L ++ Lk) (st.back kept) σ w :=
  ⟨by have := hs.mem; rwa [List.append_assoc Lk, ← List.append_assoc] at this, hs.sl, hs.bk.append hk, hf, hs.kn, hs.nx⟩
theorem q579 {ρ1 ρ ρ' : RM} {nx : Nat} (h1 : ∀ id, nx ≤ id → ρ1 id = none) (h2 : RM.le ρ1 ρ) (h3 : ∀ n, n < nx → ρ' n = ρ n) : RM.le ρ1 ρ' := fun id q hq => by
  have : id < nx := by
    rcases Nat.lt_or_ge id nx with h | h
    · exact h
    · rw [h1 id h] at hq; cases hq
  rw [h3 id this]; exact h2 id q hq
theorem q135 {tp : Tp} {nx : Nat} {kn : List (Nat × SV D)} {s : TupV D tp.vts} {H1 : Hp} {ρ1 : RM} (h1 : ∀ id, nx ≤ id → ρ1 id = none) (hH : H1.le H) (hρ : RM.le ρ1 ρ) (hkn : KnR H1 ρ1 kn) (hfr : BkR H1 ρ1 fr F) (hs : Sat fr F w0 H0 R H ρ L st σ w) (h : fillE tp nx st fr = some s) : ∃ ρ' L' st', makeE tp nx kn s = some st' ∧ RM.le ρ1 ρ' ∧ Sat fr F w0 H0 R H ρ' L' st' σ w := by
  unfold fillE at h
  split at h
  · rename_i cs hcs
    obtain ⟨ρ', L', st', h2, h3, h4⟩ := insT_ok (kn := kn) hs (fun ρ' hl => hkn.mono hH (q579 h1 hρ hl)) (fun ρ' hl => hfr.mono hH (q579 h1 hρ hl)) hcs; refine ⟨ρ', L', st', ?_, q579 h1 hρ h3, h4⟩; unfold makeE; rw [tyL_ok h]; exact h2
  · cases h
def GoesM (rd : Bool) (ms : List Nat) (fr : List (Nat × Blk D)) (F : List Ent) (w0 : World) (H0 : Hp) (R : List Ent) (H : Hp) (ρ : RM) (K : St D → Prop) (T : List Nat → (Nat → Value) → World → Prop) : Prop := ∀ ms' st' σ' w' H' ρ' L', K st' → (rd = true → ms' = ms) → H.le H' → RM.le ρ ρ' → Sat fr F w0 H0 (mkO ms' ++ R) H' ρ' L' st' σ' w' → T ms' σ' w'
theorem GoesM.mono {rd : Bool} {ms ms1 : List Nat} {H' : Hp} {ρ' : RM} {K : St D → Prop} {T : List Nat → (Nat → Value) → World → Prop} (h : GoesM rd ms fr F w0 H0 R H ρ K T) (hm : rd = true → ms1 = ms) (hH : H.le H') (hρ : RM.le ρ ρ') : GoesM rd ms1 fr F w0 H0 R H' ρ' K T := fun ms' st σ w H2 ρ2 L hk hm' h1 h2 hs => h ms' st σ w H2 ρ2 L hk (fun e => (hm' e).trans (hm e)) (hH.trans h1) (hρ.trans h2) hs
theorem GoesM.go {rd : Bool} {ms : List Nat} {K : St D → Prop} {T : List Nat → (Nat → Value) → World → Prop} (h : GoesM rd ms fr F w0 H0 R H ρ K T) (hk : K st) (hs : Sat fr F w0 H0 (mkO ms ++ R) H ρ L st σ w) : T ms σ w := h _ _ _ _ _ _ _ hk (fun _ => rfl) (Hp.le.refl _) (RM.le.refl _) hs
theorem GoesM.goes {rd : Bool} {ms : List Nat} {K : St D → Prop} {T : List Nat → (Nat → Value) → World → Prop} (h : GoesM rd ms fr F w0 H0 R H ρ K T) : Goes fr F w0 H0 (mkO ms ++ R) H ρ K (T ms) := fun st σ w H2 ρ2 L hk h1 h2 hs => h ms st σ w H2 ρ2 L hk (fun _ => rfl) h1 h2 hs
theorem Sat.reR {R' : List Ent} {w' : World} (hs : Sat fr F w0 H0 R H ρ L st σ w) (h : Mem w0 H0 w' H (L ++ (F ++ R'))) : Sat fr F w0 H0 R' H ρ L st σ w' := ⟨h, hs.sl, hs.bk, hs.fr, hs.kn, hs.nx⟩
theorem q495 (A B C : List Ent) (x : Ent) (R : List Ent) : (A ++ (B ++ (C ++ R)) ++ [x]).Perm (A ++ (B ++ (x :: C ++ R))) := by
  rw [List.append_assoc, List.append_assoc]; refine List.Perm.append_left A (List.Perm.append_left B ?_); exact List.perm_append_comm
def RndOk (E : Env D) (cI : CallX D) (N : Nat) (w0 : World) (H0 : Hp) (c : Code) : Prop := ∀ (R : List Ent) (pos : List Nat) (fr : List (Nat × Blk D)) (F : List Ent) (H : Hp) (ρ : RM) (L : List Ent) (st : St D) (σ : Nat → Value) (w : World) (K : Exit → St D → Prop) (Q : Exit → List Deferred → (Nat → Value) → World → Prop) (r : Option Nat),
  q72 E.P cI w0 H0 H ρ → Sat fr F w0 H0 R H ρ L st σ w → runC E cI N true c pos fr st K → (∀ e, Goes fr F w0 H0 R H ρ (K e) fun σ' w' => Q e [] σ' w') → CW r 0 E.P N c Q [] σ w
theorem q193 (A F R : List Ent) (x : Ent) : (x :: (A ++ (F ++ R))).Perm (A ++ (F ++ (x :: R))) := by
  rw [← List.append_assoc, ← List.append_assoc]; exact List.perm_middle.symm
theorem q580 {N : Nat} {g : Operand} {ps : Array Tmp} {assign body : Code} {gf : Nat} {caps : List (SV D)} {ms : List Nat} {B : List Deferred} {R : List Ent} {pos : List Nat} {K : Exit → St D → Prop} {Q : Exit → List Deferred → (Nat → Value) → World → Prop} (hI : q72 E.P cI w0 H0 H ρ) (hs : Sat fr F w0 H0 (mkO ms ++ R) H ρ L st σ w) (hg : (evO st.sl g).map (res st.kn) = some (.fn gf caps))
    (h : cdP (entB E.P gf && (ps.toList.all fun p => Nat.blt p N)) (cI.it (fun n vs st2 fr2 pos2 K2 => cdP (Nat.beq n st.nx)
            (match remB st2.bk (st.nx + 1) with
              | some (.jmp none, bk) => cdP (Nat.beq vs.length ps.size) (runC E cI N true assign (6 :: pos2) fr2 ⟨parS ps.toList vs st.sl, bk, st2.kn, st2.nx⟩ fun e st3 => match e with
                | .normal => runC E cI N true body (7 :: pos2) fr2 st3 fun e st4 => match e with
                  | .normal => K2 (.k true) ⟨[], (st.nx + 1, .jmp none) :: st4.bk, st4.kn, st4.nx⟩
                  | .ret => K2 (.k false) ⟨[], (st.nx + 1, .jmp (some .ret)) :: st4.bk, st4.kn, st4.nx⟩
                  | .exit id => K2 (.k false) ⟨[], (st.nx + 1, .jmp (some (.exit id))) :: st4.bk, st4.kn, st4.nx⟩
                  | _ => False
                | _ => False) False
              | _ => False)
            (cI.yl n vs st2 fr2 pos2 K2)) gf (.kp st.nx :: caps) ⟨[], (st.nx + 1, .jmp none) :: st.bk, st.kn, st.nx + 2⟩ fr (9 :: pos) fun st2 => match remB st2.bk (st.nx + 1) with
              | some (.jmp none, bk) => K .normal ⟨st.sl, bk, st2.kn, st2.nx⟩
              | some (.jmp (some .ret), bk) => K .ret ⟨st.sl, bk, st2.kn, st2.nx⟩
              | some (.jmp (some (.exit id)), bk) => K (.exit id) ⟨st.sl, bk, st2.kn, st2.nx⟩
              | _ => False) False)
    (hk : ∀ e, GoesM false ms fr F w0 H0 R H ρ (K e) fun ms' σ' w' => Q e (mkD ms' ++ B) σ' w') (hA : RndOk E cI N w0 H0 assign) (hB : RndOk E cI N w0 H0 body) : CW none 0 E.P N (.rangeFunc g ps assign body) Q (mkD ms ++ B) σ w := by
  obtain ⟨hb, h⟩ := cifP h; rw [Bool.and_eq_true] at hb; obtain ⟨hen, hpN⟩ := hb; obtain ⟨v0, hv0, hv1⟩ := Option.map_eq_some_iff.1 hg; have hv2 := hs.res (q30 hs.sl hv0); rw [hv1] at hv2; obtain ⟨lb, e1, e2⟩ := hv2; refine CW.rangeN (L := L ++ (F ++ (mkO ms ++ R))) hs.mem e1 (q132 hen) fun l0 lp D0 W1 hl0 hM1 => ?_; obtain ⟨f1, f2⟩ := q82 hs.nx (.v (.func (.yield lp) #[] #[])); obtain ⟨f3, f4⟩ := q82 f2 (.l lp l0); have hn : ((ρ.put st.nx (.v (.func (.yield lp) #[] #[]))).put (st.nx + 1) (.l lp l0)) st.nx = some (.v (.func (.yield lp) #[] #[])) := f3 _ _ (RM.put_same _ _ _); have hn1 : ((ρ.put st.nx (.v (.func (.yield lp) #[] #[]))).put (st.nx + 1) (.l lp l0)) (st.nx + 1) = some (.l lp l0) := RM.put_same _ _ _; generalize (ρ.put st.nx (.v (.func (.yield lp) #[] #[]))).put (st.nx + 1) (.l lp l0) = ρ2 at f3 f4 hn hn1; have hρ : RM.le ρ ρ2 := f1.trans f3
  have hs2 : Sat fr F w0 H0 (mkO (D0 :: ms) ++ R) H ρ2 (.obj lp (.loop (jmpO l0 none)) :: L) (⟨[], (st.nx + 1, .jmp none) :: st.bk, st.kn, st.nx + 2⟩ : St D) (fun _ => undef) W1 :=
    ⟨hM1.perm ((q193 L F (mkO ms ++ R) (.obj D0 ddO)).cons _), (fun t v hv => nomatch hv), ⟨[.obj lp (.loop (jmpO l0 none))], L, rfl, ⟨lp, l0, hn1, rfl⟩, hs.bk.mono (Hp.le.refl _) hρ⟩, hs.fr.mono (Hp.le.refl _) hρ, hs.kn.mono (Hp.le.refl _) hρ, f4⟩
  have hv : RvL H ρ2 (Value.func (.yield lp) #[] #[] :: lb) (.kp st.nx :: caps) := ⟨_, lb, rfl, hn, RvL.mono (Hp.le.refl _) hρ _ e2⟩
  refine ((hI.it _ gf _ _ fr _ _ F _ H ρ2 _ _ W1 _ h (Hp.le.refl _) hρ ?_ hs2 hv).2).mono fun e B' ⟨v, he, st', hk', H', ρ', L', h1, h2, h3⟩ => ⟨v, he, ?_⟩
  · -- a round
    intro n' vs st2 fr2 pos2 K2 F2 R2 H2 ρ3 L2 σ2 W xs x hyl hH2 hρ3 hs3 hxs hx; cases hbq : Nat.beq n' st.nx with
    | false =>
      rw [hbq, q283] at hyl; exact hI.yl n' vs st2 fr2 pos2 K2 F2 R2 H2 ρ3 L2 σ2 W xs x hyl hH2 (hρ.trans hρ3) hs3 hxs hx
    | true =>
      rw [hbq, q645] at hyl; obtain rfl := Nat.eq_of_beq_eq_true hbq; rw [hρ3 _ _ hn] at hx; cases hx
      split at hyl
      · rename_i bk hr
        obtain ⟨hlen, hyl⟩ := cifP hyl; obtain ⟨S1, L1, g1, ⟨b, l1, g2, rfl⟩, g5⟩ := hs3.bk.rem hr; rw [hρ3 _ _ hn1] at g2; cases g2; have hM : Mem w0 H0 W H2 (.obj lp (.loop l0) :: (L1 ++ (F2 ++ R2))) := hs3.mem.perm (g1.append_right _); refine ⟨lp, rfl, q430 hl0 hpN (by rw [RvL.length hxs]; exact Nat.eq_of_beq_eq_true hlen) hM ?_⟩
        have hA1 := hA (.obj lp (.loop l0) :: R2) _ fr2 F2 H2 ρ3 L1 ⟨parS ps.toList vs st.sl, bk, st2.kn, st2.nx⟩ (slp ps.toList xs σ) W _ (thenQ (rmidQ E.P N body w0 H0 lp l0 fun v w' => ∃ s st', K2 s st' ∧ Out fr2 F2 w0 H0 R2 H2 ρ3 (fun _ => undef) ⟨[], st'.bk, st'.kn, st'.nx⟩ s v w') fun _ _ _ _ => False) (some lp) (hI.mono hH2 (hρ.trans hρ3))
          ⟨hM.perm (q193 _ _ _ _), q436 (hs.sl.mono hH2 (hρ.trans hρ3)) hxs, g5, hs3.fr, hs3.kn, hs3.nx⟩ hyl
        refine hA1 fun e => ?_; intro st3 σ3 W3 H3 ρ4 L3 k1 k2 k3 k4; cases e with
        | normal =>
          refine ⟨rfl, H3, L3 ++ (F2 ++ R2), k4.mem.perm (q193 _ _ _ _).symm, fun W4 hW4 => ?_⟩; refine hB (.obj lp (.loop { l0 with state := .busy }) :: R2) _ fr2 F2 H3 ρ4 L3 st3 σ3 W4 _ _ (some lp) (hI.mono (hH2.trans k2) ((hρ.trans hρ3).trans k3)) (k4.reR (hW4.perm (q193 _ _ _ _))) k1 fun e => ?_; intro st5 σ5 W5 H5 ρ5 L5 m1 m2 m3 m4; have hM5 : Mem w0 H0 W5 H5 (.obj lp (.loop { l0 with state := .busy }) :: (L5 ++ (F2 ++ R2))) := m4.mem.perm (q193 _ _ _ _).symm
          have out : ∀ (j : Option Exit) {W6 : World}, Mem w0 H0 W6 H5 (.obj lp (.loop (jmpO l0 j)) :: (L5 ++ (F2 ++ R2))) → ∀ (s : SV D) (v : Value), Rv H5 ρ5 v s → Out fr2 F2 w0 H0 R2 H2 ρ3 (fun _ => undef) (⟨[], (st.nx + 1, .jmp j) :: st5.bk, st5.kn, st5.nx⟩ : St D) s v W6 := fun j W6 hW6 s v hv =>
            ⟨H5, ρ5, .obj lp (.loop (jmpO l0 j)) :: L5, k2.trans m2, k3.trans m3, ⟨hW6, (fun t v hv => nomatch hv), ⟨[.obj lp (.loop (jmpO l0 j))], L5, rfl, ⟨lp, l0, (k3.trans m3) _ _ (hρ3 _ _ hn1), rfl⟩, m4.bk⟩, m4.fr, m4.kn, m4.nx⟩, hv⟩
          cases e with
          | normal => exact ⟨rfl, H5, _, hM5, fun W6 hW6 => ⟨_, _, m1, out none hW6 _ _ rfl⟩⟩
          | ret => exact ⟨rfl, H5, _, hM5, fun W6 hW6 => ⟨_, _, m1, out (some .ret) hW6 _ _ rfl⟩⟩
          | exit id => exact ⟨rfl, H5, _, hM5, fun W6 hW6 => ⟨_, _, m1, out (some (.exit id)) hW6 _ _ rfl⟩⟩
          | _ => exact m1.elim
        | _ => exact k1.elim
      · exact hyl.elim
  · -- behind the iterator
    have fin : ∀ {j : Option Exit} {bk : List (Nat × Blk D)}, remB st'.bk (st.nx + 1) = some (.jmp j, bk) → ∃ L1, Mem w0 H0 B' H' (.obj lp (.loop (jmpO l0 j)) :: .obj D0 ddO :: (L1 ++ (F ++ (mkO ms ++ R)))) ∧ ∀ W2, Mem w0 H0 W2 H' (.obj D0 ddO :: (L1 ++ (F ++ (mkO ms ++ R)))) → Sat fr F w0 H0 (mkO (D0 :: ms) ++ R) H' ρ' L1 (⟨st.sl, bk, st'.kn, st'.nx⟩ : St D) σ W2 := fun {j bk} hr => by
      obtain ⟨S1, L1, g1, ⟨b, l1, g2, rfl⟩, g5⟩ := h3.bk.rem hr; rw [h2 _ _ hn1] at g2; cases g2; refine ⟨L1, ?_, fun W2 hW2 => ⟨hW2.perm (q193 L1 F (mkO ms ++ R) (.obj D0 ddO)), hs.sl.mono h1 (hρ.trans h2), g5, h3.fr, h3.kn, h3.nx⟩⟩; have hM : Mem w0 H0 B' H' (.obj lp (.loop (jmpO l0 j)) :: (L1 ++ (F ++ (.obj D0 ddO :: (mkO ms ++ R))))) := h3.mem.perm (g1.append_right _); exact hM.perm ((q193 L1 F (mkO ms ++ R) (.obj D0 ddO)).symm.cons _)
    have hle := hρ.trans h2
    split at hk'
    · rename_i bk hr
      obtain ⟨L1, i1, i2⟩ := fin hr; exact ⟨none, H', _, i1, fun W2 hW2 => hk .normal (D0 :: ms) _ σ W2 H' ρ' L1 hk' (fun h => by cases h) h1 hle (i2 W2 hW2)⟩
    · rename_i bk hr
      obtain ⟨L1, i1, i2⟩ := fin hr; exact ⟨some .ret, H', _, i1, fun W2 hW2 => ⟨_, rfl, CW.ret (hk .ret (D0 :: ms) _ σ W2 H' ρ' L1 hk' (fun h => by cases h) h1 hle (i2 W2 hW2))⟩⟩
    · rename_i id bk hr
      obtain ⟨L1, i1, i2⟩ := fin hr; exact ⟨some (.exit id), H', _, i1, fun W2 hW2 => ⟨_, rfl, CW.exit (hk (.exit id) (D0 :: ms) _ σ W2 H' ρ' L1 hk' (fun h => by cases h) h1 hle (i2 W2 hW2))⟩⟩
    · exact hk'.elim
theorem q368 (hE : E.Ok) (h0 : E.G H0) {N : Nat} : ∀ (c : Code) {rd : Bool} {ms : List Nat} {B : List Deferred} {R : List Ent} {pos : List Nat} {fr : List (Nat × Blk D)} {F : List Ent} {H : Hp} {ρ : RM} {L : List Ent} {st : St D} {σ : Nat → Value} {w : World} {K : Exit → St D → Prop} {Q : Exit → List Deferred → (Nat → Value) → World → Prop} {r : Option Nat} {md : Nat},
    q72 E.P cI w0 H0 H ρ → (rd = false → r = none ∧ md = 0) → Sat fr F w0 H0 (mkO ms ++ R) H ρ L st σ w → runC E cI N rd c pos fr st K → (∀ e, GoesM rd ms fr F w0 H0 R H ρ (K e) fun ms' σ' w' => Q e (mkD ms' ++ B) σ' w') → CW r md E.P N c Q (mkD ms ++ B) σ w := by
  intro c
  induction c with
  | skip => intro rd ms B R pos fr F H ρ L st σ w K Q r md hI hr hs h hk; exact CW.skip ((hk _).go h hs)
  | ret => intro rd ms B R pos fr F H ρ L st σ w K Q r md hI hr hs h hk; exact CW.ret ((hk _).go h hs)
  | exit id => intro rd ms B R pos fr F H ρ L st σ w K Q r md hI hr hs h hk; exact CW.exit ((hk _).go h hs)
  | region id ops draw =>
    intro rd ms B R pos fr F H ρ L st σ w K Q r md hI hr hs h hk; cases draw with
    | false =>
      obtain ⟨l⟩ := ops; exact CW.region (q365 hE h0 hI hs h (hk .normal).goes fun e => (hk e).goes)
    | true =>
      unfold runC at h; obtain ⟨st0, hs, h⟩ := preR_ok hs h
      split at h
      · exact q489 hE hE.mo h0 hs h (hk .normal).goes
      · rename_i pe hpe
        rcases hsp : q158 pe st0 with ⟨kept, st1⟩
        simp only [hsp] at h; obtain ⟨H1, ρ1, Lk, Lv, g1, g2, g3, g4, g5⟩ := q215 hs hsp; have finE : ∀ e, Goes (kept ++ fr) (Lk ++ F) w0 H0 (mkO ms ++ R) H1 ρ1 (fun st' => K e (st'.back kept)) fun σ' w' => Q e (mkD ms ++ B) σ' w' := fun e st' σ' w' H' ρ' L' hk' h1 h2 hs' => (hk e).goes _ _ _ _ _ _ hk' (g1.trans h1) (g2.trans h2) (hs'.back (g3.mono h1 h2) (g4.mono h1 h2)); have fin := finE .normal
        split at h
        · exact q489 hE hE.mo h0 g5 h fin
        · rename_i c _
          obtain ⟨ht, h⟩ := cifP h; exact q657 hE hE.mo h0 g5 ht h fun st' σ' w' H' ρ' L' hk' h1 h2 hs' => q365 hE h0 (hI.mono (g1.trans h1) (g2.trans h2)) hs' hk' (fin.mono h1 h2) fun e => (finE e).mono h1 h2
        · cases rd with
          | true => exact h.elim
          | false =>
            obtain ⟨rfl, rfl⟩ := hr rfl; exact flF_ok hE h0 (hI.mono g1 g2) g5 h fin finE
  | cond c a b iha ihb =>
    intro rd ms B R pos fr F H ρ L st σ w K Q r md hI hr hs h hk; unfold runC at h; cases hc : (evO st.sl c).map (res st.kn) with
    | none => simp only [hc] at h
    | some s =>
      obtain ⟨v0, hv0, hv1⟩ := Option.map_eq_some_iff.1 hc; have hv2 := hs.res (q30 hs.sl hv0); rw [hv1] at hv2; simp only [hc] at h
      have ask : askF s (runC E cI N rd a (2 :: pos) fr (st.know c true) K) (runC E cI N rd b (3 :: pos) fr (st.know c false) K) → CW r md E.P N (.cond c a b) Q (mkD ms ++ B) σ w := fun h => by
        rcases q190 hv2 h with ⟨e, h⟩ | ⟨e, h⟩
        · exact CW.cond_true e (iha hI hr (hs.know e) h hk)
        · exact CW.cond_false e (ihb hI hr (hs.know e) h hk)
      cases s with
      | k x =>
        cases x with
        | true => exact CW.cond_true hv2 (iha hI hr hs h hk)
        | false => exact CW.cond_false hv2 (ihb hI hr hs h hk)
      | _ => exact ask h
  | block id c ih =>
    intro rd ms B R pos fr F H ρ L st σ w K Q r md hI hr hs h hk; refine CW.block (ih hI hr hs h fun e => ?_); intro ms' st' σ' w' H' ρ' L' h1 hm h2 h3 h4; cases e with
    | exit id' =>
      show bif Nat.beq id' id then Q .normal _ σ' w' else Q (.exit id') _ σ' w'; have h1 : cdP (Nat.beq id' id) (K .normal st') (K (.exit id') st') := h1; cases hb : Nat.beq id' id with
      | true => rw [hb] at h1; exact hk _ _ _ _ _ _ _ _ h1 hm h2 h3 h4
      | false => rw [hb] at h1; exact hk _ _ _ _ _ _ _ _ h1 hm h2 h3 h4
    | _ => exact hk _ _ _ _ _ _ _ _ h1 hm h2 h3 h4
  | seq a b iha ihb =>
    intro rd ms B R pos fr F H ρ L st σ w K Q r md hI hr hs h hk; unfold runC at h
    split at h
    · refine CW.seq (iha hI hr hs h fun e => ?_)
      intro ms' st' σ' w' H' ρ' L' h1 hm h2 h3 h4; cases e with
      | normal => exact ihb (hI.mono h2 h3) hr h4 h1 fun e => (hk e).mono hm h2 h3
      | _ => exact hk _ _ _ _ _ _ _ _ h1 hm h2 h3 h4
    · rename_i pe hpe
      rcases hsp : q158 pe st with ⟨kept, st1⟩
      simp only [hsp, Join] at h; obtain ⟨H1, ρ1, Lk, Lv, g1, g2, g3, g4, g5⟩ := q215 hs hsp; refine CW.seq (iha (hI.mono g1 g2) hr g5 h fun e => ?_); intro ms' st' σ' w' H' ρ' L' h1 hm h2 h3 h4; cases e with
      | normal =>
        show CW r md E.P N b Q _ σ' w'; simp only at h1
        split at h1
        · rename_i s hfill
          obtain ⟨H5, L5, hle5, h5⟩ := h4.frzL (giveT pe.tp st' (kept ++ fr)); have h2' := h2.trans hle5; obtain ⟨ρ2, L2, st2, e1, e2, e3⟩ := q135 (kn := st1.kn) (fun id hid => g5.nx id (Nat.le_trans (Nat.le_add_right _ _) hid)) h2' h3 g5.kn g5.fr h5 hfill; simp only [e1] at h1; exact ihb (hI.mono (g1.trans h2') (g2.trans e2)) hr (e3.back (g3.mono h2' e2) (g4.mono h2' e2)) h1 fun e => (hk e).mono hm (g1.trans h2') (g2.trans e2)
        · exact h1.elim
      | _ => exact hk _ _ _ _ _ _ _ _ h1 hm (g1.trans h2) (g2.trans h3) (h4.back (g3.mono h2 h3) (g4.mono h2 h3))
  | loop c ih =>
    intro rd ms B R pos fr F H ρ L st σ w K Q r md hI hr hs h hk; unfold runC at h
    split at h
    · rename_i n hn
      clear hn; generalize hstep : (fun (st : St D) (rec : St D → Prop) => _) = step at h; refine CW.loopD (β := Nat) (fun n D σ w => ∃ ms' H' ρ' L' st', D = mkD ms' ++ B ∧ (rd = true → ms' = ms) ∧ H.le H' ∧ RM.le ρ ρ' ∧ Sat fr F w0 H0 (mkO ms' ++ R) H' ρ' L' st' σ w ∧ q494 step n st') (fun n => n) (n + 1) ⟨ms, H, ρ, L, st, rfl, fun _ => rfl, Hp.le.refl _, RM.le.refl _, hs, h⟩ ?_
      rintro n D' σ w ⟨ms', H', ρ', L', st', rfl, hm', f1, f2, f4, f5⟩
      cases n with
      | zero => exact f5.elim
      | succ n =>
        have f5 : step st' (q494 step n) := f5; rw [← hstep] at f5; refine ih (hI.mono f1 f2) hr f4 f5 fun e => ?_; intro ms3 st3 σ3 w3 H3 ρ3 L3 h1 hm3 h2 h3 h4; cases e with
        | normal =>
          simp only at h1; exact ⟨n, ⟨ms3, H3, ρ3, L3, st3, rfl, fun e => (hm3 e).trans (hm' e), f1.trans h2, f2.trans h3, h4, by rw [hstep] at h1; exact h1⟩, Nat.lt_succ_self _⟩
        | _ => exact hk _ _ _ _ _ _ _ _ h1 (fun e => (hm3 e).trans (hm' e)) (f1.trans h2) (f2.trans h3) h4
    · split at h
      · exact h.elim
      · rename_i pe hpe
        rcases hsp : q158 pe st with ⟨kept, st1⟩
        simp only [hsp] at h; obtain ⟨H1, ρ1, Lk, Lv, g1, g2, g3, g4, g5⟩ := q215 hs hsp
        split at h
        · rename_i s0 hs0
          obtain ⟨m, hm⟩ := h; generalize hstep : (fun (s : TupV D pe.tp.vts) (rec : TupV D pe.tp.vts → Prop) => _) = step at hm; obtain ⟨ρ2, L2, st2, e1, e2, e3⟩ := q135 (kn := st1.kn) g5.nx (Hp.le.refl _) (RM.le.refl _) g5.kn g5.fr g5 hs0; refine CW.loopD (β := Nat) (fun n D σ w => ∃ ms' s H' ρ' L' st', D = mkD ms' ++ B ∧ (rd = true → ms' = ms) ∧ H1.le H' ∧ RM.le ρ1 ρ' ∧ makeE pe.tp st1.nx st1.kn s = some st' ∧ Sat (kept ++ fr) (Lk ++ F) w0 H0 (mkO ms' ++ R) H' ρ' L' st' σ w ∧ LoopN step n s) (fun n => n) m ⟨ms, s0, H1, ρ2, L2, st2, rfl, fun _ => rfl, Hp.le.refl _, e2, e1, e3, hm⟩ ?_
          rintro n D' σ w ⟨ms', s, H', ρ', L', st', rfl, hm', f1, f2, f3, f4, f5⟩
          cases n with
          | zero => exact f5.elim
          | succ n =>
            have f5 : step s (LoopN step n) := f5; rw [← hstep] at f5; simp only [f3] at f5; refine ih (hI.mono (g1.trans f1) (g2.trans f2)) hr f4 f5 fun e => ?_; intro ms3 st3 σ3 w3 H3 ρ3 L3 h1 hm3 h2 h3 h4; cases e with
            | normal =>
              simp only at h1
              split at h1
              · rename_i s' hfill
                obtain ⟨H5, L5, hle5, h5⟩ := h4.frzL (giveT pe.tp st3 (kept ++ fr)); obtain ⟨ρ4, L4, st4, i1, i2, i3⟩ := q135 (kn := st1.kn) g5.nx ((f1.trans h2).trans hle5) (f2.trans h3) g5.kn g5.fr h5 hfill; exact ⟨n, ⟨ms3, s', H5, ρ4, L4, st4, rfl, fun e => (hm3 e).trans (hm' e), (f1.trans h2).trans hle5, i2, i1, i3, by rw [hstep] at h1; exact h1⟩, Nat.lt_succ_self _⟩
              · exact h1.elim
            | _ => exact hk _ _ _ _ _ _ _ _ h1 (fun e => (hm3 e).trans (hm' e)) ((g1.trans f1).trans h2) ((g2.trans f2).trans h3) (h4.back (g3.mono (f1.trans h2) (f2.trans h3)) (g4.mono (f1.trans h2) (f2.trans h3)))
        · exact h.elim
  | rangeFunc g ps assign body iha ihb =>
    intro rd ms B R pos fr F H ρ L st σ w K Q r md hI hr hs h hk; unfold runC at h; cases rd with
    | true => exact h.elim
    | false =>
      obtain ⟨rfl, rfl⟩ := hr rfl; simp only at h
      split at h
      · rename_i gf caps hg
        split at h
        · exact q580 hI hs hg h hk
            (fun R pos fr F H ρ L st σ w K Q r hI' hs' h' hk' => iha (rd := true) (ms := []) (B := []) hI' (fun h => by cases h) hs' h' fun e ms' st' σ' w' H' ρ' L' k1 k2 k3 k4 k5 => by
              obtain rfl := k2 rfl
              exact hk' e st' σ' w' H' ρ' L' k1 k3 k4 k5)
            (fun R pos fr F H ρ L st σ w K Q r hI' hs' h' hk' => ihb (rd := true) (ms := []) (B := []) hI' (fun h => by cases h) hs' h' fun e ms' st' σ' w' H' ρ' L' k1 k2 k3 k4 k5 => by
              obtain rfl := k2 rfl
              exact hk' e st' σ' w' H' ρ' L' k1 k3 k4 k5)
        · rename_i it hit
          split at h
          · rename_i pe hpe
            have hq := cifP h; clear h; obtain ⟨hb, h⟩ := hq; simp only [Bool.and_eq_true] at hb; obtain ⟨hen, hpN, hps⟩ := hb; rcases hsp : q158 pe st with ⟨kept, st1⟩
            simp only [hsp] at h; obtain ⟨H1, ρ1, Lk, Lv, g1, g2, g3, g4, g5⟩ := q215 hs hsp
            split at h
            · rename_i cx hcx
              split at h
              · rename_i s0 hs0
                obtain ⟨hok, hf⟩ := q480 hE.its hit; subst hf; obtain ⟨v0, hv0, hv1⟩ := Option.map_eq_some_iff.1 hg; have hv2 := hs.res (q30 hs.sl hv0); rw [hv1] at hv2; obtain ⟨lb, e1, e2⟩ := hv2; obtain ⟨l, hW, h⟩ := h; have hiter := hok cx l hW H1 lb (hE.gm _ _ h0 g5.mem.old) (q492 hE.tb g5 (RvL.mono g1 g2 _ e2) hcx); have hlen : ∀ (k : Nat) (vs : List Value), (∃ y : TupD D it.ts, l[k]? = some y ∧ ArgsR E.P H1 it.ts y vs) → vs.length = ps.size := fun k vs ⟨y, _, hy⟩ => (q408 hy).trans (Nat.eq_of_beq_eq_true hps).symm; obtain ⟨m, hm⟩ := h; generalize hstep : (fun (q : List (TupD D it.ts) × TupV D pe.tp.vts) (rec : List (TupD D it.ts) × TupV D pe.tp.vts → Prop) => _) = step at hm; obtain ⟨ρ2, L2, st2, f1, f2, f3⟩ := q135 (kn := st1.kn) g5.nx (Hp.le.refl _) (RM.le.refl _) g5.kn g5.fr g5 hs0; have satOf : ∀ {H' : Hp} {ρ' : RM} {st' : St D} {Lx R' : List Ent} {W : World} {l' : List (Nat × SV D)} {σ' : Nat → Value}, H1.le H' → RM.le ρ1 ρ' → BkR H' ρ' st'.bk Lx → KnR H' ρ' st'.kn → (∀ id, st'.nx ≤ id → ρ' id = none) → SlR H' ρ' l' σ' → Mem w0 H0 W H' (Lx ++ ((Lk ++ F) ++ R')) → Sat (kept ++ fr) (Lk ++ F) w0 H0 R' H' ρ' Lx (st'.withSl l') σ' W := fun b1 b2 b3 b4 b5 b6 b7 => ⟨b7, b6, b3, g5.fr.mono b1 b2, b4, b5⟩
                refine CW.rangeR (H := H1) (H1 := H1) (L := L2 ++ ((Lk ++ F) ++ (mkO ms ++ R))) (fun k H' L' => ∃ m s ρ' st' Lx, RM.le ρ1 ρ' ∧ makeE pe.tp st1.nx st1.kn s = some st' ∧ L' = Lx ++ ((Lk ++ F) ++ (mkO ms ++ R)) ∧ BkR H' ρ' st'.bk Lx ∧ KnR H' ρ' st'.kn ∧ (∀ id, st'.nx ≤ id → ρ' id = none) ∧ LoopN step m (l.drop k, s)) f3.mem e1 (q132 hen) (Hp.le.refl _) hiter hlen hpN ⟨m, s0, ρ2, st2, L2, f2, f1, rfl, f3.bk, f3.kn, f3.nx, hm⟩ ?_ ?_
                · rintro l0 D0 rdy bsy k av H' L' W hkl ⟨ay, hay, hargs⟩ hle ⟨m, s, ρ', st', Lx, a1, a2, rfl, a3, a4, a5, a6⟩ hM
                  cases m with
                  | zero => exact a6.elim
                  | succ m =>
                    have a6 : step (l.drop k, s) (LoopN step m) := a6; rw [← hstep] at a6; obtain rfl : l[k] = ay := by rw [List.getElem?_eq_getElem hkl] at hay; exact Option.some.inj hay
                    simp only [a2, List.drop_eq_getElem_cons hkl] at a6
                    split at a6
                    · rename_i ls hls
                      split at a6
                      · rename_i vs hvs
                        obtain ⟨cs, b1, b2⟩ := q134 (ρ := ρ1) hE.tb hargs hls; have b3 := q173 b1 b2 hvs; have b4 : SlR H' ρ' (parS ps.toList vs st1.sl) (slp ps.toList av σ) := q436 (g5.sl.mono hle a1) (RvL.mono hle a1 _ b3); refine iha (rd := true) (ms := []) (B := []) (R := (mkO ms ++ R) ++ [.obj l0 rdy, .obj D0 ddO]) (hI.mono (g1.trans hle) (g2.trans a1)) (fun h => by cases h) (satOf hle a1 a3 a4 a5 b4 (by simpa [mkO] using hM)) a6 fun e => ?_; intro ms' st3 σ3 W3 H3 ρ3 L3 h1 hm3 h2 h3 h4; obtain rfl := hm3 rfl; cases e with
                        | normal =>
                          refine ⟨rfl, H3, L3 ++ ((Lk ++ F) ++ (mkO ms ++ R)), hle.trans h2, by simpa [mkO] using h4.mem, fun W4 hW4 => ?_⟩; refine ihb (rd := true) (ms := []) (B := []) (R := (mkO ms ++ R) ++ [.obj l0 bsy, .obj D0 ddO]) (hI.mono (g1.trans (hle.trans h2)) (g2.trans (a1.trans h3))) (fun h => by cases h) (h4.reR (by simpa [mkO] using hW4)) h1 fun e => ?_; intro ms' st4 σ4 W5 H4 ρ4 L4 k1 km k2 k3 k4; obtain rfl := km rfl; have kM : Mem w0 H0 W5 H4 ((L4 ++ ((Lk ++ F) ++ (mkO ms ++ R))) ++ [.obj l0 bsy, .obj D0 ddO]) := by simpa [mkO] using k4.mem
                          have kle := hle.trans (h2.trans k2); have kρ := a1.trans (h3.trans k3)
                          have leave : ∀ {W6 : World}, Mem w0 H0 W6 H4 ((L4 ++ ((Lk ++ F) ++ (mkO ms ++ R))) ++ [.obj D0 ddO]) → Sat fr F w0 H0 (mkO (D0 :: ms) ++ R) H4 ρ4 (L4 ++ Lk) ((st4.withSl st1.sl).back kept) σ W6 := fun hW6 =>
                            Sat.back (satOf kle kρ k4.bk k4.kn k4.nx (g5.sl.mono kle kρ) (hW6.perm (q495 _ _ _ _ _))) (g3.mono kle kρ) (g4.mono kle kρ)
                          cases e with
                          | normal =>
                            simp only at k1
                            split at k1
                            · rename_i s' hfill
                              obtain ⟨ρ5, L5, st5, i1, i2, i3⟩ := q135 (kn := st1.kn) g5.nx kle kρ g5.kn g5.fr k4 hfill; refine ⟨rfl, H4, L5 ++ ((Lk ++ F) ++ (mkO ms ++ R)), kle, by simpa [mkO] using i3.mem, m, s', ρ5, st5, L5, i2, i1, rfl, i3.bk, i3.kn, i3.nx, by rw [hstep] at k1; exact k1⟩
                            · exact k1.elim
                          | ret => exact ⟨rfl, H4, _, kle, kM, fun W6 hW6 => hk .ret (D0 :: ms) _ σ W6 H4 ρ4 _ k1 (fun h => by cases h) (g1.trans kle) (g2.trans kρ) (leave hW6)⟩
                          | exit id => exact ⟨rfl, H4, _, kle, kM, fun W6 hW6 => hk (.exit id) (D0 :: ms) _ σ W6 H4 ρ4 _ k1 (fun h => by cases h) (g1.trans kle) (g2.trans kρ) (leave hW6)⟩
                          | goto t => exact k1.elim
                          | panic c => exact k1.elim
                          | outgrown => exact k1.elim
                        | exit id => exact h1.elim
                        | goto t => exact h1.elim
                        | ret => exact h1.elim
                        | panic c => exact h1.elim
                        | outgrown => exact h1.elim
                      · exact a6.elim
                    · exact a6.elim
                · rintro D0 H' L' W hle ⟨m, s, ρ', st', Lx, a1, a2, rfl, a3, a4, a5, a6⟩ hM
                  cases m with
                  | zero => exact a6.elim
                  | succ m =>
                    have a6 : step (l.drop l.length, s) (LoopN step m) := a6; rw [← hstep] at a6; simp only [a2, List.drop_length] at a6; exact hk .normal (D0 :: ms) _ σ W H' ρ' _ a6 (fun h => by cases h) (g1.trans hle) (g2.trans a1) (Sat.back (satOf hle a1 a3 a4 a5 (g5.sl.mono hle a1) (hM.perm (q495 _ _ _ _ _))) (g3.mono hle a1) (g4.mono hle a1))
              · exact h.elim
            · exact h.elim
          · exact h.elim
      · exact h.elim
  | scope c _ => intro rd ms B R pos fr F H ρ L st σ w K Q r md hI hr hs h hk; exact h.elim
  | label l => intro rd ms B R pos fr F H ρ L st σ w K Q r md hI hr hs h hk; exact h.elim
  | goto l => intro rd ms B R pos fr F H ρ L st σ w K Q r md hI hr hs h hk; exact CW.goto ((hk _).go h hs)
  | refuse s => intro rd ms B R pos fr F H ρ L st σ w K Q r md hI hr hs h hk; exact h.elim
end
end
section
section
variable {D : Nat → Type} [∀ t, Dt (D t)]
def q77 : Nat → List (SV D) → List (Nat × SV D)
  | _, [] => []
  | k, v :: r => (k, v) :: q77 (k + 1) r
variable {E : Env D} {fr : List (Nat × Blk D)} {F : List Ent} {w0 w : World} {H0 H : Hp} {R : List Ent} {ρ : RM} {L : List Ent} {st : St D} {σ : Nat → Value}
theorem q98 : ∀ {l : List (SV D)} {xs : List Value} {k : Nat}, RvL H ρ xs l → SlR H ρ (q77 k l) (sl (enumA k xs) fun _ => undef)
  | [], _, _, _ => fun t v h => by cases h
  | u :: r, xs, k, ⟨x, q, e, h1, h2⟩ => fun t v h => by
    subst e; unfold q77 getS at h; show Rv H ρ (bif Nat.beq t k then x else sl (enumA (k + 1) q) (fun _ => undef) t) v; cases hb : Nat.beq t k with
    | true => rw [hb] at h; cases h; exact h1
    | false => rw [hb] at h; exact q98 h2 t v h
def isEnd : Exit → Bool
  | .ret => true
  | .normal => true
  | _ => false
theorem q136 {e : Exit} (h : isEnd e = true) : e = .ret ∨ e = .normal := by
  cases e <;> first | exact .inl rfl | exact .inr rfl | cases h
def runF (E : Env D) : Nat → YlI D → CallI D
  | 0, _ => fun _ _ _ _ _ _ _ => False
  | n + 1, yl => fun f vs st fr pos K kp => match E.P.funcs[f]? with
    | some fn => match fn.body with
      | some c => cdP (entB E.P f && Nat.ble vs.length fn.ntmps) (runC E ⟨runF E n yl, yl, fun yl' f vs st fr pos K => runF E n yl' f vs st fr pos (fun _ st' => K st') fun _ _ => False⟩ fn.ntmps false c pos fr ⟨q77 0 vs, st.bk, st.kn, st.nx⟩ fun e st' => match e with
        | .panic c => kp (.panic c) st'
        | e => cdP (isEnd e) (match mapO (rvE E.P E.tb st' fr) fn.results.toList with
          | some rs => K (tupV rs) st'
          | none => False) False) False
      | none => False
    | none => False
def noY : YlI D := fun _ _ _ _ _ _ => False
def callX (E : Env D) (n : Nat) : CallX D := ⟨runF E n noY, noY, fun yl' f vs st fr pos K => runF E n yl' f vs st fr pos (fun _ st' => K st') fun _ _ => False⟩
theorem q437 {P : Program} {fn : Func} {T : Value → World → Prop} {e : Exit} (he : e = .ret ∨ e = .normal) {X : List Ent} : ∀ (ms : List Nat) {w : World}, Mem w0 H0 w H (mkO ms ++ X) → (∀ w', Mem w0 H0 w' H X → endQ P fn T e [] σ w') → endQM P fn T e (mkD ms) σ w
  | [], w, hM, k => k w hM
  | _ :: ms, _, hM, k => endQM.mark he hM 0 rfl fun _ hM' => q437 he ms (hM'.sub (List.sublist_cons_self _ _)) k
theorem q581 {T : World → Prop} {X : List Ent} : ∀ (ms : List Nat) {w : World}, Mem w0 H0 w H (mkO ms ++ X) → (∀ w', Mem w0 H0 w' H X → T w') → panM T (mkD ms) w
  | [], w, hM, k => k w hM
  | b :: ms, _, hM, k => ⟨b, rfl, hM.objAt (k := 0) rfl, q581 ms ((hM.putObj 0 rfl (.deferred none)).sub (List.sublist_cons_self _ _)) k⟩
theorem q369 (A B M R : List Ent) : (A ++ (B ++ (M ++ R))).Perm (M ++ (A ++ (B ++ R))) := by
  rw [← List.append_assoc, ← List.append_assoc, ← List.append_assoc A B R, ← List.append_assoc]; exact (List.perm_append_comm (l₁ := A ++ B) (l₂ := M)).append_right R
theorem q72.of_runF (n : Nat) {yl : YlI D} {H1 : Hp} {ρ1 : RM} (hy : YlOk E.P yl w0 H0 H1 ρ1) (ih : ∀ {yl : YlI D} {H1 : Hp} {ρ1 : RM}, YlOk E.P yl w0 H0 H1 ρ1 → ∀ (f : Nat) (vs : List (SV D)) (st : St D) (fr : List (Nat × Blk D)) (pos : List Nat) (K : SV D → St D → Prop) (kp : Exit → St D → Prop) (F R : List Ent) (H : Hp) (ρ : RM) (L : List Ent) (σ : Nat → Value) (w : World) (xs : List Value),
    runF E n yl f vs st fr pos K kp → H1.le H → RM.le ρ1 ρ → Sat fr F w0 H0 R H ρ L st σ w → RvL H ρ xs vs → Enters E.P f ∧ Calls E.P f xs.toArray w fun e w' => (∃ v, e = .returned v ∧ ∃ s st', K s st' ∧ Out fr F w0 H0 R H ρ (fun _ => undef) ⟨[], st'.bk, st'.kn, st'.nx⟩ s v w') ∨
      ∃ c, e = .panicked c ∧ ∃ st' H' ρ' L', kp (.panic c) st' ∧ H.le H' ∧ RM.le ρ ρ' ∧ Sat fr F w0 H0 R H' ρ' L' (⟨[], st'.bk, st'.kn, st'.nx⟩ : St D) (fun _ => undef) w') :
    q72 E.P ⟨runF E n yl, yl, fun yl' f vs st fr pos K => runF E n yl' f vs st fr pos (fun _ st' => K st') fun _ _ => False⟩ w0 H0 H1 ρ1 :=
  ⟨ih hy, hy, fun yl' f vs st fr pos K F R H ρ L σ w xs h hH hρ hy' hs hv => by
    obtain ⟨h1, h2⟩ := ih hy' f vs st fr pos (fun _ st' => K st') (fun _ _ => False) F R H ρ L σ w xs h (Hp.le.refl _) (RM.le.refl _) hs hv; refine ⟨h1, h2.mono fun e w' h3 => ?_⟩; rcases h3 with ⟨v, rfl, s, st', hk, H', ρ', L', g1, g2, g3, g4⟩ | ⟨c, rfl, st', H', ρ', L', hk, _⟩
    · exact ⟨v, rfl, st', hk, H', ρ', L', g1, g2, g3⟩
    · exact hk.elim⟩
theorem q582 (hE : E.Ok) (h0 : E.G H0) : ∀ (n : Nat) {yl : YlI D} {H1 : Hp} {ρ1 : RM}, YlOk E.P yl w0 H0 H1 ρ1 → ∀ (f : Nat) (vs : List (SV D)) (st : St D) (fr : List (Nat × Blk D)) (pos : List Nat) (K : SV D → St D → Prop) (kp : Exit → St D → Prop) (F R : List Ent) (H : Hp) (ρ : RM) (L : List Ent) (σ : Nat → Value) (w : World) (xs : List Value),
    runF E n yl f vs st fr pos K kp → H1.le H → RM.le ρ1 ρ → Sat fr F w0 H0 R H ρ L st σ w → RvL H ρ xs vs → Enters E.P f ∧ Calls E.P f xs.toArray w fun e w' => (∃ v, e = .returned v ∧ ∃ s st', K s st' ∧ Out fr F w0 H0 R H ρ (fun _ => undef) ⟨[], st'.bk, st'.kn, st'.nx⟩ s v w') ∨
      ∃ c, e = .panicked c ∧ ∃ st' H' ρ' L', kp (.panic c) st' ∧ H.le H' ∧ RM.le ρ ρ' ∧ Sat fr F w0 H0 R H' ρ' L' (⟨[], st'.bk, st'.kn, st'.nx⟩ : St D) (fun _ => undef) w'
  | 0 => fun _ _ _ _ _ _ _ _ _ _ _ _ _ _ _ _ h _ _ _ _ => h.elim
  | n + 1 => fun hy f vs st fr pos K kp F R H ρ L σ w xs h hH hρ hs hv => by
    unfold runF at h
    split at h
    · rename_i fn hf
      split at h
      · rename_i c hc
        obtain ⟨hb, h⟩ := cifP h; rw [Bool.and_eq_true] at hb; refine ⟨q132 hb.1, ?_⟩
        have hN : xs.toArray.size ≤ fn.ntmps := by
          have := Nat.le_of_ble_eq_true hb.2; simpa [RvL.length hv] using this
        have hs0 : Sat fr F w0 H0 (mkO [] ++ R) H ρ L (⟨q77 0 vs, st.bk, st.kn, st.nx⟩ : St D) (sl (enumA 0 xs) fun _ => undef) w := ⟨hs.mem, q98 hv, hs.bk, hs.fr, hs.kn, hs.nx⟩
        refine q308 (R := fun v w' => ∃ s st', K s st' ∧ Out fr F w0 H0 R H ρ (fun _ => undef) ⟨[], st'.bk, st'.kn, st'.nx⟩ s v w') (S := fun c w' => ∃ st' H' ρ' L', kp (.panic c) st' ∧ H.le H' ∧ RM.le ρ ρ' ∧ Sat fr F w0 H0 R H' ρ' L' (⟨[], st'.bk, st'.kn, st'.nx⟩ : St D) (fun _ => undef) w') hf hc hN ?_; refine q368 (ms := []) (B := []) (R := R) hE h0 c (q72.of_runF n (hy.mono hH hρ) (q582 hE h0 n)) (fun _ => ⟨rfl, rfl⟩) hs0 h fun e => ?_; intro ms' st' σ' w' H' ρ' L' h1 _ h2 h3 h4; have hM := h4.mem.perm (q369 _ _ _ _)
        have hfin : cdP (isEnd e) (match mapO (rvE E.P E.tb st' fr) fn.results.toList with
          | some rs => K (tupV rs) st'
          | none => False) False → endQM E.P fn (fun v w' => ∃ s st', K s st' ∧ Out fr F w0 H0 R H ρ (fun _ => undef) ⟨[], st'.bk, st'.kn, st'.nx⟩ s v w') e (mkD ms') σ' w' := fun h1 => by
          obtain ⟨he, h1⟩ := cifP h1; refine q437 (q136 he) ms' hM fun w2 hw2 => ?_; have h4 := h4.reR hw2
          split at h1
          · rename_i rs hrs
            obtain ⟨us, g1, g2⟩ := q172 hE.tb h4 hrs; refine ⟨q136 he, rfl, q209 us, g2, tupV rs, st', h1, H', ρ', L', h2, h3, ⟨h4.mem, (fun t v hv => nomatch hv), h4.bk, h4.fr, h4.kn, h4.nx⟩, q284 g1⟩
          · exact h1.elim
        cases e with
        | panic c =>
          show panM _ (mkD ms' ++ []) w'; rw [List.append_nil]; refine q581 ms' hM fun w2 hw2 => ?_; have h4 := h4.reR hw2; exact ⟨st', H', ρ', L', h1, h2, h3, h4.mem, (fun t v hv => nomatch hv), h4.bk, h4.fr, h4.kn, h4.nx⟩
        | _ =>
          show endQM _ _ _ _ (mkD ms' ++ []) _ _; rw [List.append_nil]; exact hfin h1
      · exact h.elim
    · exact h.elim
theorem noY_ok {P : Program} {H1 : Hp} {ρ1 : RM} : YlOk (D := D) P noY w0 H0 H1 ρ1 := fun _ _ _ _ _ _ _ _ _ _ _ _ _ _ _ h => h.elim
theorem q216 (hE : E.Ok) (h0 : E.G H0) (n : Nat) {H1 : Hp} {ρ1 : RM} : q72 E.P (callX E n) w0 H0 H1 ρ1 := q72.of_runF n noY_ok (q582 hE h0 n)
def globB : SV D → Bool
  | .i _ _ | .w _ | .y _ | .k _ | .b _ | .p _ _ | .c _ | .nil | .fsl _ _ | .st _ => true
  | _ => false
theorem q660 {ρ' : RM} {s : SV D} {x : Value} (h : globB s = true) (hx : Rv H ρ x s) : Rv H ρ' x s := by
  cases s <;> first | exact hx | cases h
def rtC : List Bool → List (Nat × Blk D) → List (SV D) → Option (List (SV D) × List (Nat × Blk D))
  | [], bk, l => match l with
    | [] => some ([], bk)
    | _ :: _ => none
  | f :: fs, bk, l => match l with
    | [] => none
    | s :: r => match f with
      | true => match s with
        | .own id => match remB bk id with
          | some (.row e xs, bk1) => match rtC fs bk1 r with
            | some (p, bk2) => some (.fsl e xs :: p, bk2)
            | none => none
          | _ => none
        | .nil => match rtC fs bk r with
          | some (p, bk2) => some (.nil :: p, bk2)
          | none => none
        | _ => none
      | false => bif globB s then (match rtC fs bk r with
        | some (p, bk2) => some (s :: p, bk2)
        | none => none) else none
def RtR (w0 : World) (H0 : Hp) (w : World) (H : Hp) (ρ : RM) (fs : List Bool) (us : List Value) (q : List (SV D)) (bk' : List (Nat × Blk D)) (X : List Ent) : Prop :=
  ∃ S L', Mem w0 H0 w H (L' ++ (S ++ X)) ∧ BkR H ρ bk' L' ∧ ∀ (nx : Nat) (ρ0 : RM) (l' : List (SV D)) (b : List (Nat × Blk D)) (m : Nat), (∀ id, nx ≤ id → ρ0 id = none) → ownC fs nx q = some (l', b, m) → ∃ ρ', RM.le ρ0 ρ' ∧ nx ≤ m ∧ (∀ id, m ≤ id → ρ' id = none) ∧ (∀ id, id < nx → ρ' id = ρ0 id) ∧ RvL H ρ' us l' ∧ BkR H ρ' b S
theorem RtR.row {fs : List Bool} {bk' : List (Nat × Blk D)} {X : List Ent} {e : Nat} {xs : List (D e)} {A : Option Addr} {n c : Nat} {z : List Value} {L1 : List Ent} {q1 : List (SV D)} {x : Value} {u : List Value} (hM1 : Mem w0 H0 w H (.row (.slice A n c) e (Dt.sz (D e)) n z :: (L1 ++ X))) (hd : DtL (α := D e) H z xs) (hn : n = xs.length) (hx : x = .slice A n c)
    (h : Mem w0 H0 w H (L1 ++ ([.row (.slice A n c) e (Dt.sz (D e)) n z] ++ X)) → RtR w0 H0 w H ρ fs u q1 bk' ([.row (.slice A n c) e (Dt.sz (D e)) n z] ++ X)) : RtR w0 H0 w H ρ (true :: fs) (x :: u) (.fsl e xs :: q1) bk' X := by
  have hM2 : Mem w0 H0 w H (L1 ++ ([.row (.slice A n c) e (Dt.sz (D e)) n z] ++ X)) := hM1.perm (by
    rw [← List.append_assoc]
    exact (List.perm_append_comm (l₁ := [Ent.row (.slice A n c) e (Dt.sz (D e)) n z]) (l₂ := L1)).append_right X)
  obtain ⟨S, L', a1, a2, a3⟩ := h hM2; refine ⟨.row (.slice A n c) e (Dt.sz (D e)) n z :: S, L', a1.perm ?_, a2, fun nx ρ0 l' b m hn0 ho => ?_⟩
  · refine List.Perm.append_left L' ?_
    show (S ++ ([Ent.row (.slice A n c) e (Dt.sz (D e)) n z] ++ X)).Perm ([Ent.row (.slice A n c) e (Dt.sz (D e)) n z] ++ S ++ X); rw [← List.append_assoc]; exact List.perm_append_comm.append_right X
  · rw [ownC] at ho
    cases ho1 : ownC fs (nx + 1) q1 with
    | none => simp only [ho1] at ho; cases ho
    | some t =>
      obtain ⟨l1, b1, m1⟩ := t; simp only [ho1] at ho; cases ho; obtain ⟨f1, f2⟩ := q82 hn0 (.r A n c); obtain ⟨ρ', b2, b3, b4, b4', b5, b6⟩ := a3 (nx + 1) (ρ0.put nx (.r A n c)) _ _ _ f2 ho1; have e0 : ρ' nx = some (.r A n c) := b2 _ _ (RM.put_same _ _ _); exact ⟨ρ', f1.trans b2, by omega, b4, fun id hid => by rw [b4' id (by omega), RM.put_ne _ _ (by omega)], ⟨x, u, rfl, ⟨A, n, c, e0, hx⟩, b5⟩, _, _, rfl, ⟨A, n, c, z, e0, rfl, hd, hn⟩, b6⟩
theorem q496 : ∀ {fs : List Bool} {l p q : List (SV D)} {us : List Value} {bk bk' : List (Nat × Blk D)} {L X : List Ent}, Mem w0 H0 w H (L ++ X) → BkR H ρ bk L → RvL H ρ us l → rtC fs bk l = some (p, bk') → CQL p q → RtR w0 H0 w H ρ fs us q bk' X
  | [], l, p, q, us, bk, bk', L, X, hM, hk, hu, h, hq => by
    cases l with
    | cons _ _ => cases h
    | nil =>
      cases h; obtain rfl : q = [] := hq; refine ⟨[], L, hM, hk, fun nx ρ0 l' b m hn ho => ?_⟩; cases ho; exact ⟨ρ0, RM.le.refl _, Nat.le_refl _, hn, fun _ _ => rfl, hu, rfl⟩
  | f :: fs, l, p, q, us, bk, bk', L, X, hM, hk, hu, h, hq => by
    cases l with
    | nil => cases h
    | cons s r =>
      obtain ⟨x, u, rfl, h1, h2⟩ := hu; unfold rtC at h; cases f with
      | true =>
        simp only at h
        split at h
        · rename_i id
          split at h
          · rename_i e xs bk1 hr
            split at h
            · rename_i p1 bk2 hr1
              cases h; obtain ⟨q0, q1, rfl, hcq, hq1⟩ := hq; obtain ⟨S1, L1, g1, ⟨A, n, c, z, g2, rfl, g3, g4⟩, g5⟩ := hk.rem hr; obtain ⟨A', n', c', g6, g7⟩ := h1; rw [g2] at g6; cases g6
              have hq0 : q0 = .fsl e xs := by
                rcases hcq with ⟨e', xs', rfl, h | ⟨h, _⟩⟩ | ⟨hsc, _⟩
                · exact h.symm
                · cases h
                · cases hsc
              subst hq0; exact RtR.row (hM.perm (g1.append_right X)) g3 g4 g7 fun hM2 => q496 hM2 g5 h2 hr1 hq1
            · cases h
          · cases h
        · split at h
          · rename_i p1 bk2 hr1
            cases h; obtain ⟨q0, q1, rfl, hcq, hq1⟩ := hq; rcases hcq with ⟨e', xs', rfl, h | ⟨_, rfl⟩⟩ | ⟨hsc, _⟩
            · cases h
            · exact RtR.row (hM.nilRow e' (Dt.sz (D e'))) DtL.nil rfl h1 fun hM2 => q496 hM2 hk h2 hr1 hq1
            · cases hsc
          · cases h
        · cases h
      | false =>
        simp only at h; have hh := cif h; clear h; obtain ⟨hgl, h⟩ := hh
        split at h
        · rename_i p1 bk2 hr1
          cases h; obtain ⟨q0, q1, rfl, hcq, hq1⟩ := hq; obtain ⟨S, L', a1, a2, a3⟩ := q496 hM hk h2 hr1 hq1; refine ⟨S, L', a1, a2, fun nx ρ0 l' b m hn0 ho => ?_⟩; rw [ownC] at ho; cases ho1 : ownC fs nx q1 with
          | none => simp only [ho1] at ho; cases ho
          | some t =>
            obtain ⟨l1, b1, m1⟩ := t; simp only [ho1] at ho; cases ho; obtain ⟨ρ', b2, b3, b4, b4', b5, b6⟩ := a3 nx ρ0 _ _ _ hn0 ho1; exact ⟨ρ', b2, b3, b4, b4', ⟨x, u, rfl, hcq.rv (q660 hgl h1), b5⟩, b6⟩
        · cases h
def rtCC : List (List Bool) → List (Nat × Blk D) → List (List (SV D)) → Option (List (List (SV D)))
  | [], _, l => match l with
    | [] => some []
    | _ :: _ => none
  | f :: fs, bk, l => match l with
    | [] => none
    | c :: r => match rtC f bk c with
      | some (p, bk1) => match rtCC fs bk1 r with
        | some q => some (p :: q)
        | none => none
      | none => none
def q114 : List (List Bool) → List (List (SV D)) → List Nat
  | f :: fs, l :: ls => q233 ((f.zip l).filterMap fun p => bif p.1 then none else some p.2) ++ q114 fs ls
  | _, _ => []
def cqTup (tb : Tb D) : (ts : List Nat) → TupD D ts → List (List (SV D)) → List (List (SV D)) → Prop
  | [], _, _, q => q = []
  | t :: r, y, p, q => ∃ p1 p2 q1 q2, p = p1 :: p2 ∧ q = q1 :: q2 ∧ toC tb t y.1 = some q1 ∧ CQL p1 q1 ∧ cqTup tb r y.2 p2 q2
theorem q370 {tb : Tb D} (htb : TbOk tb) : ∀ {ts : List Nat} {p : List (List (SV D))} {y : TupD D ts}, ofTup tb ts p = some y → ∃ q, tupC tb ts y = some q ∧ cqTup tb ts y p q
  | [], [], y, h => ⟨[], rfl, rfl⟩
  | [], _ :: _, _, h => by cases h
  | _ :: _, [], _, h => by cases h
  | t :: r, p1 :: p2, y, h => by
    obtain ⟨h1, h2⟩ := q703 h; obtain ⟨q1, g1, g2⟩ := q694 htb h1; obtain ⟨q2, g3, g4⟩ := q370 htb h2; refine ⟨q1 :: q2, ?_, p1, p2, q1, q2, rfl, rfl, g1, g2, g4⟩; rw [tupC]; simp only [g1, g3]
theorem q438 {tb : Tb D} : ∀ {ts : List Nat} {fs : List (List Bool)} {l p q : List (List (SV D))} {y : TupD D ts} {us : List (List Value)} {bk : List (Nat × Blk D)} {L X : List Ent}, Mem w0 H0 w H (L ++ X) → BkR H ρ bk L → RvLL H ρ us l → rtCC fs bk l = some p → cqTup tb ts y p q →
    ∃ S, Mem w0 H0 w H (S ++ X) ∧ ∀ (nx : Nat) (ρ0 : RM) (l' : List (List (SV D))) (b : List (Nat × Blk D)) (m : Nat), (∀ id, nx ≤ id → ρ0 id = none) → ownCC fs nx q = some (l', b, m) → ∃ ρ', RM.le ρ0 ρ' ∧ nx ≤ m ∧ (∀ id, m ≤ id → ρ' id = none) ∧ (∀ id, id < nx → ρ' id = ρ0 id) ∧ RvLL H ρ' us l' ∧ BkR H ρ' b S
  | [], fs, l, p, q, y, us, bk, L, X, hM, hk, hu, h, hq => by
    obtain rfl : q = [] := hq; refine ⟨[], hM.sub (List.sublist_append_right L X), fun nx ρ0 l' b m hn ho => ?_⟩; cases fs with
    | cons _ _ => cases ho
    | nil =>
      cases ho; cases l with
      | cons _ _ => cases h
      | nil => exact ⟨ρ0, RM.le.refl _, Nat.le_refl _, hn, fun _ _ => rfl, hu, rfl⟩
  | t :: ts, fs, l, p, q, y, us, bk, L, X, hM, hk, hu, h, ⟨p1, p2, q1, q2, hp, hq, _, hc, hr⟩ => by
    subst hp; subst hq; cases fs with
    | nil => cases l <;> cases h
    | cons f fs =>
      cases l with
      | nil => cases h
      | cons c l =>
        obtain ⟨u, v, rfl, h1, h2⟩ := hu; rw [rtCC] at h; cases ha : rtC f bk c with
        | none => simp only [ha] at h; cases h
        | some a =>
          obtain ⟨a1, bk1⟩ := a; cases hb : rtCC fs bk1 l with
          | none => simp only [ha, hb] at h; cases h
          | some b =>
            simp only [ha, hb] at h; cases h; obtain ⟨S1, L1, g1, g2, g3⟩ := q496 hM hk h1 ha hc; obtain ⟨S2, k1, k2⟩ := q438 (ts := ts) g1 g2 h2 hb hr; refine ⟨S1 ++ S2, k1.perm ?_, fun nx ρ0 l' b m hn ho => ?_⟩
            · rw [← List.append_assoc]
              exact List.perm_append_comm.append_right X
            · rw [ownCC] at ho
              cases ho1 : ownC f nx q1 with
              | none => simp only [ho1] at ho; cases ho
              | some o =>
                obtain ⟨l1, b1, m1⟩ := o; cases ho2 : ownCC fs m1 q2 with
                | none => simp only [ho1, ho2] at ho; cases ho
                | some o2 =>
                  obtain ⟨l2, b2, m2⟩ := o2; simp only [ho1, ho2] at ho; cases ho; obtain ⟨ρ1, i1, i2, i3, i3', i4, i5⟩ := g3 nx ρ0 _ _ _ hn ho1; obtain ⟨ρ2, j1, j2, j3, j3', j4, j5⟩ := k2 m1 ρ1 _ _ _ i3 ho2; exact ⟨ρ2, i1.trans j1, by omega, j3, fun id hid => by rw [j3' id (by omega), i3' id hid], ⟨u, v, rfl, RvL.mono (Hp.le.refl _) j1 _ i4, j4⟩, (i5.mono (Hp.le.refl _) j1).append j5⟩
def retF (P : Program) (tb : Tb D) (fn : Func) (rs : List Nat) (own : List (List Bool)) (Φ : TupD D rs → Prop) (st : St D) : Prop := match mapO (rvE P tb st []) fn.results.toList with
  | some vs => match argsC P rs (vs.map fun v => rsD (st.lk []) (resD st.kn v)) with
    | some ls0 => match mapO (rvE P tb (st.frzL (q114 own ls0)) []) fn.results.toList with
      | some us => match argsC P rs (us.map fun v => rsD ((st.frzL (q114 own ls0)).lk []) (resD st.kn v)) with
        | some ls => match rtCC own (st.frzL (q114 own ls0)).bk ls with
          | some ps => match ofTup tb rs ps with
            | some y => Φ y
            | none => False
          | none => False
        | none => False
      | none => False
    | none => False
  | none => False
def topF (E : Env D) (n : Nat) (f : Nat) (ps rs : List Nat) (own : List (List Bool)) (x : TupD D ps) (Φ : TupD D rs → Prop) : Prop := match tupC E.tb ps x with
  | some ls => match packs E.P ps ls with
    | some vs => match E.P.funcs[f]? with
      | some fn => match fn.body with
        | some c => cdP (Nat.ble vs.length fn.ntmps) (runC E (callX E n) fn.ntmps false c [] [] ⟨q77 0 vs, [], [], 0⟩ fun e st' => cdP (isEnd e) (retF E.P E.tb fn rs own Φ st') False) False
        | none => False
      | none => False
    | none => False
  | none => False
theorem Ct.lift (hE : E.Ok) (n : Nat) (c : Ct D) (h : ∀ x Φ, c.W x Φ → topF E n c.f c.ps c.rs c.own x Φ) : c.Ok E.P E.tb E.G := by
  intro x Φ hW H vs hGH hA; have hF := h x Φ hW; unfold topF at hF
  split at hF
  · rename_i ls hls
    split at hF
    · rename_i svs hsv
      split at hF
      · rename_i fn hfn
        split at hF
        · rename_i cd hcd
          obtain ⟨hN, hF⟩ := cifP hF; obtain ⟨cs, g1, g2⟩ := q134 (ρ := fun _ => none) hE.tb hA hls; have g3 := q173 g1 g2 hsv; refine RetP.of_codeM hfn hcd (by have := Nat.le_of_ble_eq_true hN; simpa [RvL.length g3] using this) fun w hM => ?_; have hs0 : Sat [] [] w H (mkO [] ++ []) H (fun _ => none) [] (⟨q77 0 svs, [], [], 0⟩ : St D) (sl (enumA 0 vs) fun _ => undef) w := ⟨hM, q98 g3, rfl, rfl, (fun _ _ h => nomatch h), fun _ _ => rfl⟩
          refine q368 (ms := []) (B := []) (R := []) hE hGH cd (q216 hE hGH n) (fun _ => ⟨rfl, rfl⟩) hs0 hF fun e => ?_; intro ms' st' σ' w' H' ρ' L' h1 _ h2 h3 h4; rw [List.append_nil]; obtain ⟨he, h1⟩ := cifP h1; refine q437 (q136 he) ms' (h4.mem.perm (q369 _ _ _ _)) fun w2 hw2 => ?_; have h4 := h4.reR hw2; unfold retF at h1
          split at h1
          · rename_i v1 hv1
            split at h1
            · rename_i ls0 hl0
              split at h1
              · rename_i us hus
                split at h1
                · rename_i ls1 hl1
                  split at h1
                  · rename_i ps hps
                    split at h1
                    · rename_i y hy
                      obtain ⟨H2, L2, k1, k2⟩ := h4.frzL (q114 c.own ls0); obtain ⟨ux, e1, e2⟩ := q172 hE.tb k2 hus; have hkn := (q282 (q114 c.own ls0) st').2.1; have e3 := q265 k2 e1; rw [hkn] at e3; obtain ⟨cs2, e4, e5⟩ := q192 e3 hl1; obtain ⟨q, e6, e7⟩ := q370 hE.tb hy; have hM2 := k2.mem; obtain ⟨S, i1, i2⟩ := q438 (X := []) (by simpa using hM2) k2.bk e5 hps e7; refine ⟨q136 he, rfl, q209 ux, e2, H2, S, by simpa using i1, y, h1, ?_⟩; intro nx ρ0 hn0 s b m hres; unfold resE at hres; rw [e6] at hres; simp only at hres
                      split at hres
                      · rename_i ls' b' m' ho
                        split at hres
                        · rename_i vs' hp
                          cases hres; obtain ⟨ρ2, j1, j2, j3, j3', j4, j5⟩ := i2 nx ρ0 _ _ _ hn0 ho; exact ⟨ρ2, j1, j2, j3, j3', q284 (q173 e4 j4 hp), j5⟩
                        · cases hres
                      · cases hres
                    · exact h1.elim
                  · exact h1.elim
                · exact h1.elim
              · exact h1.elim
            · exact h1.elim
          · exact h1.elim
        · exact hF.elim
      · exact hF.elim
    · exact hF.elim
  · exact hF.elim
end
end
end Go.Proofs.YtklnkmdgajiebaaGreat
