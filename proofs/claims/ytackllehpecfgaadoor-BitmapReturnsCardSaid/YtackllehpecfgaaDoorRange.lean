/- A range over a function: what an iterator owes, the statement that ranges over it, the call of yield, a function's end behind it. -/
import Derived.Test.YtackllehpecfgaaDoorMore
import Derived.RangeFuncNested
namespace Go.Proofs.YtackllehpecfgaaDoor
open Go.RowKit

def mark (b : Nat) : Deferred := { target := .collected b, args := #[] }
def ddO : Obj := .deferred (some [])

/-! ### What an iterator owes -/
/-- A call of yield in world W. -/
def Yield (P : Program) (l : Nat) (args : List Value) (W : World) (R : Value → World → Prop) : Prop :=
  YieldAt Fence.wide 0 P l args.toArray W fun e W' => ∃ v, e = .returned v ∧ R v W'

def Iter (P : Program) (g : FuncId) (lb : List Value) (H : Hp) (n : Nat) (args : Nat → List Value) : Prop :=
  ∀ (l : Nat) (J Jx : Nat → World → Prop) (W : World), (∀ b o, H b = some o → W.heap[b]? = some o) →
    (∀ k A B, J k A → Below A.heap.size A B → J k B) → (∀ k A B, Jx k A → Below A.heap.size A B → Jx k B) →
    (∀ k A, k < n → J k A → (∀ b o, H b = some o → A.heap[b]? = some o) → Yield P l (args k) A fun v B => (∀ b o, H b = some o → B.heap[b]? = some o) ∧ ((v = .bool true ∧ J (k + 1) B) ∨ (v = .bool false ∧ Jx k B))) →
    J 0 W → Calls P g (Value.func (.yield l) #[] #[] :: lb).toArray W fun e B => ∃ v, e = .returned v ∧ (J n B ∨ ∃ k, k < n ∧ Jx k B)

/-! ### Known blocks of other kinds -/
section
variable {w0 w : World} {H0 H : Hp} {L L' : List Ent}
theorem Mem.putObj (h : Mem w0 H0 w H L) (k : Nat) {b : Nat} {o : Obj} (hk : L[k]? = some (.obj b o)) (o' : Obj) : Mem w0 H0 (w.putObj b o') H (L.set k (.obj b o')) := by
  have hh : Ent.holds w0.heap.size w (.obj b o) := h.holds _ (List.mem_of_getElem? hk)
  exact h.turn k hk (grownBy_putObj' w b o') ⟨hh.1, World.putObj_heap_same (lt_of_heap hh.2)⟩ (.inl rfl)
theorem Mem.newObj (h : Mem w0 H0 w H L) (o : Obj) : Mem w0 H0 (w.alloc o) H (.obj w.heap.size o :: L) := by
  have h' := h.alloc o
  refine ⟨h'.below, h'.old, h'.fresh, h'.agree, ?_, ?_, ?_⟩
  · intro E hE
    rcases List.mem_cons.1 hE with rfl | hE
    · exact ⟨h.below.size, World.alloc_heap_new w _⟩
    · exact h'.holds E hE
  · refine List.Pairwise.cons ?_ h.apart
    intro E hE b e1 e2
    obtain rfl : w.heap.size = b := Option.some.inj e1
    have := (Ent.blk_lt (h.holds E hE) e2).2
    omega
  · intro E hE b e
    rcases List.mem_cons.1 hE with rfl | hE
    · obtain rfl : w.heap.size = b := Option.some.inj e
      cases hx : H w.heap.size with
      | none => rfl
      | some o => have := lt_of_heap (h.agree _ _ hx); omega
    · exact h.hapart E hE b e
theorem Mem.objAt (h : Mem w0 H0 w H L) {k : Nat} {b : Nat} {o : Obj} (hk : L[k]? = some (.obj b o)) : w.heap[b]? = some o :=
  ((h.holds _ (List.mem_of_getElem? hk) : Ent.holds w0.heap.size w (.obj b o))).2
theorem get_mid (L : List Ent) (E : Ent) (R : List Ent) : (L ++ E :: R)[L.length]? = some E := by simp
theorem set_mid (L : List Ent) (E E' : Ent) (R : List Ent) : (L ++ E :: R).set L.length E' = L ++ E' :: R := by simp
end

/-! ### The statement -/
def slp : List Nat → List Value → (Nat → Value) → (Nat → Value)
  | p :: ps, v :: vs, σ => slp ps vs (sl [(p, v)] σ)
  | _, _, σ => σ

theorem rep_slp {N : Nat} {D : List Deferred} : ∀ (ps : List Nat) (vs : List Value) (σ : Nat → Value) (t : Array Value), (ps.all fun p => Nat.blt p N) = true → Rep N D σ { tmps := t, defers := D } →
    Rep N D (slp ps vs σ) { tmps := (ps.zip vs).foldl (fun t (p, v) => t.setIfInBounds p v) t, defers := D }
  | [], vs, σ, t, _, h => by simpa [slp] using h
  | p :: ps, [], σ, t, _, h => by simpa [slp] using h
  | p :: ps, v :: vs, σ, t, hb, h => by
    simp only [List.all_cons, Bool.and_eq_true] at hb
    simp only [List.zip_cons_cons, List.foldl_cons, slp]
    refine rep_slp ps vs _ _ hb.2 ?_
    exact h.put (d := some p) hb.1 v

section
variable {P : Program} {N : Nat} {Q : Exit → List Deferred → (Nat → Value) → World → Prop} {D : List Deferred} {σ : Nat → Value} {w w0 : World} {H0 H H1 : Hp} {L : List Ent}

/-- How a round may be left. -/
def roundQ (w0 : World) (H0 H : Hp) (l D0 : Nat) (bsy : Obj) (Nx : Hp → List Ent → Prop) (Q : Exit → World → Prop) (e : Exit) (D' : List Deferred) (_ : Nat → Value) (W' : World) : Prop :=
  D' = [] ∧ match e with
  | .normal => ∃ H3 L3, H.le H3 ∧ Mem w0 H0 W' H3 (L3 ++ [.obj l bsy, .obj D0 ddO]) ∧ Nx H3 L3
  | .ret => ∃ H3 L3, H.le H3 ∧ Mem w0 H0 W' H3 (L3 ++ [.obj l bsy, .obj D0 ddO]) ∧ ∀ W2, Mem w0 H0 W2 H3 (L3 ++ [.obj D0 ddO]) → Q .ret W2
  | .exit id => ∃ H3 L3, H.le H3 ∧ Mem w0 H0 W' H3 (L3 ++ [.obj l bsy, .obj D0 ddO]) ∧ ∀ W2, Mem w0 H0 W2 H3 (L3 ++ [.obj D0 ddO]) → Q (.exit id) W2
  | _ => False

/-- What stands between the assignment and the body of a round: the record turns. -/
def midQ (r : Option Nat) (P : Program) (N : Nat) (body : Code) (w0 : World) (H0 H : Hp) (l D0 : Nat) (rdy bsy : Obj) (R : Exit → List Deferred → (Nat → Value) → World → Prop) (D' : List Deferred) (σ' : Nat → Value) (W' : World) : Prop :=
  D' = [] ∧ ∃ H2 L2, H.le H2 ∧ Mem w0 H0 W' H2 (L2 ++ [.obj l rdy, .obj D0 ddO]) ∧ ∀ W2, Mem w0 H0 W2 H2 (L2 ++ [.obj l bsy, .obj D0 ddO]) → CW r 0 P N body R [] σ' W2

theorem CW.range {g : Operand} {ps : Array Tmp} {assign body : Code} {gf : FuncId} {lb : List Value} {n : Nat} {args : Nat → List Value} (Inv : Nat → Hp → List Ent → Prop) (hM : Mem w0 H0 w H L) (hg : ev σ g = .func (.func gf) #[] lb.toArray) (he : Enters P gf)
    (hle : H1.le H) (hit : Iter P gf lb H1 n args) (hps : ∀ k, (args k).length = ps.size) (hpN : (ps.toList.all fun p => Nat.blt p N) = true) (h0 : Inv 0 H L)
    (hbody : ∀ l D0 rdy bsy k H' L' W, k < n → H.le H' → Inv k H' L' → Mem w0 H0 W H' (L' ++ [.obj l rdy, .obj D0 ddO]) →
      CW (some l) 0 P N assign (thenQ (midQ (some l) P N body w0 H0 H l D0 rdy bsy (roundQ w0 H0 H l D0 bsy (Inv (k + 1)) fun e W2 => Q e (mark D0 :: D) σ W2)) fun _ _ _ _ => False) [] (slp ps.toList (args k) σ) W)
    (hdone : ∀ D0 H' L' W, H.le H' → Inv n H' L' → Mem w0 H0 W H' (L' ++ [.obj D0 ddO]) → Q .normal (mark D0 :: D) σ W) : CW none 0 P N (.rangeFunc g ps assign body) Q D σ w := by
  intro a ha
  refine wpIn_rangeFunc (F := FR none) fun fn _ => ?_
  obtain ⟨rec, hrec⟩ : ∃ rec : LoopState → Option Code → Loop, rec = fun st pe => { state := st, pending := pe, fn, tmps := a.tmps, params := ps, assign, body, defers := w.heap.size } := ⟨_, rfl⟩
  have hM1 : Mem w0 H0 ((w.alloc ddO).alloc (.loop (rec .ready none))) H (.obj (w.heap.size + 1) (.loop (rec .ready none)) :: .obj w.heap.size ddO :: L) := by
    have := (hM.newObj ddO).newObj (.loop (rec .ready none))
    rwa [World.size_alloc] at this
  have hM1 : Mem w0 H0 ((w.alloc ddO).alloc (.loop (rec .ready none))) H (L ++ [.obj (w.heap.size + 1) (.loop (rec .ready none)), .obj w.heap.size ddO]) :=
    hM1.perm (show ([Ent.obj (w.heap.size + 1) (.loop (rec .ready none)), Ent.obj w.heap.size ddO] ++ L).Perm _ from List.perm_append_comm)
  have hset : ∀ s s' pe, ({ rec s pe with state := s' } : Loop) = rec s' pe := by intro s s' pe; rw [hrec]
  generalize hW1 : (w.alloc ddO).alloc (.loop (rec .ready none)) = W1 at hM1
  refine ⟨w.heap.size + 1, [mark w.heap.size], W1, { target := .fn (.func gf) lb.toArray, args := #[.func (.yield (w.heap.size + 1)) #[] #[]] }, W1, gf, (Value.func (.yield (w.heap.size + 1)) #[] #[] :: lb).toArray, W1, ?_, ?_, ?_, ?_, ?_, ?_⟩
  · rw [← hW1, hrec]; exact run_enterLoop_outer _ _ _ _ _
  · have : a.eval g = .func (.func gf) #[] lb.toArray := by rw [ha.eval]; exact hg
    simp only [resolve, this]
    simp [Deferred.ofValue, Act.eval]
  · intro f' _; trivial
  · have := he (#[.func (.yield (w.heap.size + 1)) #[] #[]] ++ lb.toArray) W1
    simp only [invoke]
    simpa using this
  · intro h; simp [FR, Fence.wide] at h
  · refine FR_callsIn ((hit (w.heap.size + 1)
      (fun k W => ∃ H' L', H.le H' ∧ Inv k H' L' ∧ Mem w0 H0 W H' (L' ++ [.obj (w.heap.size + 1) (.loop (rec .ready none)), .obj w.heap.size ddO]))
      (fun _ W => ∃ c H' L', H.le H' ∧ Mem w0 H0 W H' (L' ++ [.obj (w.heap.size + 1) (.loop (rec .done (some c))), .obj w.heap.size ddO]) ∧ ∀ W2, Mem w0 H0 W2 H' (L' ++ [.obj w.heap.size ddO]) → CW none 0 P N c Q (mark w.heap.size :: D) σ W2)
      W1 (fun b o e => hM1.agree b o (hle b o e)) ?_ ?_ ?_ ⟨H, L, Hp.le.refl _, h0, hM1⟩).mono ?_)
    · rintro k A B ⟨H', L', h1, h2, h3⟩ hb; exact ⟨H', L', h1, h2, h3.frame hb⟩
    · rintro k A B ⟨c, H', L', h1, h2, h3⟩ hb; exact ⟨c, H', L', h1, h2.frame hb, h3⟩
    · -- one round
      rintro k A hk ⟨H', L', h1, h2, h3⟩ _
      have hl := h3.objAt (get_mid L' _ _)
      have hy := run_yield (P := P) (args := (args k).toArray) hl (by rw [hrec]; simpa using hps k)
      rw [hrec] at hy
      refine ⟨fn, _, assign, body, hy, roundIn_of_wpIn trivial ?_⟩
      have hrep : Rep N [] (slp ps.toList (args k) σ) { tmps := (ps.zip (args k).toArray).foldl (fun t (p, v) => t.setIfInBounds p v) a.tmps, defers := [] } := by
        have := rep_slp (N := N) (D := []) ps.toList (args k) σ a.tmps hpN ⟨rfl, ha.2.1, ha.2.2⟩
        have e : (ps.zip (args k).toArray).foldl (fun t (p, v) => t.setIfInBounds p v) a.tmps = (ps.toList.zip (args k)).foldl (fun t (p, v) => t.setIfInBounds p v) a.tmps := by
          rw [← Array.foldl_toList]; simp
        rw [e]; exact this
      refine wpIn_mono (hbody _ w.heap.size (.loop (rec .ready none)) (.loop (rec .busy none)) k H' L' A hk h1 h2 h3 _ hrep) ?_
      rintro e a1 W1' ⟨D1, σ1, hr1, hq1⟩
      cases e with
      | normal =>
        obtain ⟨rfl, H2, L2, h4, h5, h6⟩ := hq1
        have hl2 := h5.objAt (get_mid L2 _ _)
        have hbr := run_beginRound (P := P) hl2 (by rw [hrec])
        have h7 := h5.putObj L2.length (get_mid L2 _ _) (.loop { rec .ready none with state := .busy })
        rw [set_mid, hset] at h7
        rw [hset] at hbr
        refine ⟨_, hbr, ?_⟩
        refine wpIn_mono (h6 _ h7 a1 hr1) ?_
        rintro e2 a2 W3 ⟨D2, σ2, hr2, rfl, hq2⟩
        have fin : ∀ (jump : Option Code) {H3 : Hp} {L3 : List Ent}, Mem w0 H0 W3 H3 (L3 ++ [.obj (w.heap.size + 1) (.loop (rec .busy none)), .obj w.heap.size ddO]) →
            (Instr.endRound (w.heap.size + 1) jump).run P W3 = .ok (.bool jump.isNone) (W3.putObj (w.heap.size + 1) (.loop (rec (if jump.isNone then .ready else .done) jump))) ∧
            Mem w0 H0 (W3.putObj (w.heap.size + 1) (.loop (rec (if jump.isNone then .ready else .done) jump))) H3 (L3 ++ [.obj (w.heap.size + 1) (.loop (rec (if jump.isNone then .ready else .done) jump)), .obj w.heap.size ddO]) := by
          intro jump H3 L3 hm
          have hl3 := hm.objAt (get_mid L3 _ _)
          have h9 := run_endRound (P := P) jump hl3
          have h10 := hm.putObj L3.length (get_mid L3 _ _) (.loop (rec (if jump.isNone then .ready else .done) jump))
          rw [set_mid] at h10
          rw [hrec] at h9
          exact ⟨by rw [hrec]; exact h9, h10⟩
        have hag : ∀ {H3 : Hp} {L3 : List Ent} {W4 : World}, H.le H3 → Mem w0 H0 W4 H3 L3 → ∀ b o, H1 b = some o → W4.heap[b]? = some o := fun h11 h12 b o e => h12.agree b o (h11 b o (hle b o e))
        cases e2 with
        | normal =>
          obtain ⟨H3, L3, h9, h10, h11⟩ := hq2
          obtain ⟨h12, h13⟩ := fin none h10
          exact ⟨_, _, h12, _, rfl, hag h9 h13, .inl ⟨rfl, H3, L3, h9, h11, h13⟩⟩
        | ret =>
          obtain ⟨H3, L3, h9, h10, h11⟩ := hq2
          obtain ⟨h12, h13⟩ := fin (some .ret) h10
          exact ⟨_, _, h12, _, rfl, hag h9 h13, .inr ⟨rfl, .ret, H3, L3, h9, h13, fun W2 hW2 => CW.ret (h11 W2 hW2)⟩⟩
        | exit id =>
          obtain ⟨H3, L3, h9, h10, h11⟩ := hq2
          obtain ⟨h12, h13⟩ := fin (some (.exit id)) h10
          exact ⟨_, _, h12, _, rfl, hag h9 h13, .inr ⟨rfl, .exit id, H3, L3, h9, h13, fun W2 hW2 => CW.exit (h11 W2 hW2)⟩⟩
        | goto t => exact hq2.elim
        | panic c => exact hq2.elim
        | outgrown => exact hq2.elim
      | exit id => exact hq1.elim
      | goto t => exact hq1.elim
      | ret => exact hq1.elim
      | panic c => exact hq1.elim
      | outgrown => exact hq1.elim
    · -- behind the iterator
      have hra : ∀ (d : List Deferred), Rep N (d ++ D) σ { a with defers := d ++ a.defers } := fun d => ⟨by rw [ha.1], ha.2.1, ha.2.2⟩
      have drop : ∀ {W2 : World} {H' : Hp} {L' : List Ent} (r : Loop), Mem w0 H0 W2 H' (L' ++ [.obj (w.heap.size + 1) (.loop r), .obj w.heap.size ddO]) → Mem w0 H0 (W2.putObj (w.heap.size + 1) (.loop { r with state := .exhausted })) H' (L' ++ [.obj w.heap.size ddO]) := by
        intro W2 H' L' r hm
        have h10 := hm.putObj L'.length (get_mid L' _ _) (.loop { r with state := .exhausted })
        rw [set_mid] at h10
        exact h10.sub ((List.Sublist.refl L').append (List.sublist_cons_self _ _))
      rintro e W2 ⟨v, rfl, ⟨H', L', h1, h2, h3⟩ | ⟨k, hk, c, H', L', h1, h2, h3⟩⟩
      · have hl := h3.objAt (get_mid L' _ _)
        have := run_endLoop (P := P) hl (by rw [hrec]; simp)
        refine ⟨none, _, by rw [hrec] at this ⊢; exact this, ⟨_, σ, hra [mark w.heap.size], hdone _ H' L' _ h1 h2 (drop _ h3)⟩⟩
      · have hl := h2.objAt (get_mid L' _ _)
        have := run_endLoop (P := P) hl (by rw [hrec]; simp)
        refine ⟨some c, _, by rw [hrec] at this ⊢; exact this, h3 _ (drop _ h2) _ (hra [mark w.heap.size])⟩
end

/-! ### The call of yield -/
section
variable {r : Option Nat} {md : Nat} {P : Program} {N : Nat} {Q : Exit → List Deferred → (Nat → Value) → World → Prop} {D : List Deferred} {σ : Nat → Value} {w w0 : World} {H0 H : Hp} {L : List Ent}
variable {ops : Array Oper} {l : List Oper} {d : Option Tmp} {ty : TypeId} {pos : String} {af : Array Edge} {gd : Option (Nat × Bool)}
theorem RW.yield {g : Operand} {xs : Array Operand} {ts : Array TypeId} {lp : Nat} {args : List Value} {R : Value → World → Prop} (hf : ev σ g = .func (.yield lp) #[] #[]) (ha : xs.toList.map (ev σ) = args) (hy : Yield P lp args w R)
    (hg : gdOk ops σ gd = true) (hd : dstOk d N = true) (K : ∀ v w', R v w' → RW r md P N ops l Q D (upd σ d v) w') :
    RW r md P N ops (⟨d, .call { callee := .value g, args := xs, argTypes := ts }, ty, pos, af, gd⟩ :: l) Q D σ w := by
  intro a hra
  have hw := wanted_of (ops := ops) hra (o := ⟨d, .call { callee := .value g, args := xs, argTypes := ts }, ty, pos, af, gd⟩)
  unfold wpListIn
  rw [hw, if_pos hg]
  refine ⟨fun f _ => trivial, ?_⟩
  have hs : Oper.semAt (FR r).round a.eval ⟨d, .call { callee := .value g, args := xs, argTypes := ts }, ty, pos, af, gd⟩ = execOp a.eval ⟨d, .call { callee := .value g, args := xs, argTypes := ts }, ty, pos, af, gd⟩ := Oper.semAt_eq _ _ _ (by intro c hc; cases hc)
  obtain ⟨fn, tmps, assign, body, h1, h2⟩ := hy
  have hrun : (execOp (ev σ) ⟨d, .call { callee := .value g, args := xs, argTypes := ts }, ty, pos, af, gd⟩).run P w = .ok (.round lp fn tmps assign body) w := by
    have ha : xs.map (ev σ) = args.toArray := by
      apply Array.ext'
      simp [← ha]
    simp only [execOp, resolve, hf, Deferred.ofValue]
    simp [invoke, ha, h1]
  rw [hs, hra.eval, hrun, Oper.uponIn_round]
  refine ⟨fun h => by simp [FR, Fence.wide] at h, ?_⟩
  refine RoundIn.mono (show RoundIn (FR r) (md - 1) P lp fn tmps assign body w _ from ⟨trivial, fun c cs _ => h2.2 c cs (room_wide _)⟩) ?_
  rintro e w' ⟨v, rfl, hR⟩
  exact K v w' hR _ (hra.put hd v)
end

/-! ### A function's end behind such a statement -/
def endQM (P : Program) (fn : Func) (R : Value → World → Prop) (e : Exit) : List Deferred → (Nat → Value) → World → Prop
  | [], σ, w => endQ P fn R e [] σ w
  | d :: ds, σ, w => (e = .ret ∨ e = .normal) ∧ ∃ b, d = mark b ∧ w.heap[b]? = some ddO ∧ endQM P fn R e ds σ (w.putObj b (.deferred none))

section
variable {P : Program} {N : Nat} {D : List Deferred} {σ : Nat → Value} {w w0 : World} {H0 H : Hp} {L : List Ent}
theorem endQM.mark {fn : Func} {R : Value → World → Prop} {e : Exit} (he : e = .ret ∨ e = .normal) {b : Nat} (hM : Mem w0 H0 w H L) (k : Nat) (hk : L[k]? = some (.obj b ddO)) (K : ∀ w', Mem w0 H0 w' H (L.set k (.obj b (.deferred none))) → endQM P fn R e D σ w') : endQM P fn R e (mark b :: D) σ w :=
  ⟨he, b, rfl, hM.objAt hk, K _ (hM.putObj k hk _)⟩

theorem leavesM {fn : Func} {R : Value → World → Prop} {e : Exit} (tm : Array Value) : ∀ (D : List Deferred) (w : World), (∀ D', Rep fn.ntmps D' σ { tmps := tm, defers := D' }) → endQM P fn R e D σ w →
    LeavesInM Fence.wide 0 P fn tm (fun e w' => ∃ v, e = .returned v ∧ R v w') D .returning w
  | [], w, hr, h => by
    obtain ⟨_, _, v, h3, h4⟩ := h
    exact ⟨v, h3 _ (hr []), v, rfl, h4⟩
  | d :: ds, w, hr, h => by
    obtain ⟨_, b, rfl, h2, h3⟩ := h
    exact ⟨by simp, .inl ⟨b, _, rfl, run_takeDeferred h2, leavesM tm ds _ hr h3⟩⟩

theorem calls_of_codeM {f : FuncId} {fn : Func} {c : Code} {args : Array Value} {R : Value → World → Prop} (hf : P.funcs[f]? = some fn) (hb : fn.body = some c) (hN : args.size ≤ fn.ntmps)
    (h : CW none 0 P fn.ntmps c (endQM P fn R) [] (sl (enumA 0 args.toList) fun _ => undef) w) : Calls P f args w fun e w' => ∃ v, e = .returned v ∧ R v w' := by
  refine callsIn_wide (n := 0).1 (callsIn_of_wp_marks (F := Fence.wide) hf hb trivial (wpIn_mono (h _ (rep_start args fn.ntmps hN)) ?_))
  rintro e a' w' ⟨D', σ', h1, h2⟩
  have he : e = .ret ∨ e = .normal := by
    cases D' with
    | nil => exact h2.1
    | cons d ds => exact h2.1
  have h3 := leavesM a'.tmps D' w' (fun D'' => ⟨rfl, h1.2.1, h1.2.2⟩) h2
  have hd : a'.defers = D' := h1.1
  rcases he with rfl | rfl
  · show LeavesInM _ _ _ _ _ _ a'.defers _ _
    rw [hd]; exact h3
  · show LeavesInM _ _ _ _ _ _ a'.defers _ _
    rw [hd]; exact h3

theorem Ret.of_codeM {f : FuncId} {fn : Func} {c : Code} {args : Array Value} {H : Hp} {Φ : Hp → Value → Prop} (hf : P.funcs[f]? = some fn) (hb : fn.body = some c) (hN : args.size ≤ fn.ntmps)
    (h : ∀ w, Mem w H w H [] → CW none 0 P fn.ntmps c (endQM P fn fun v w' => ∃ H' L', Mem w H w' H' L' ∧ Φ H' v) [] (sl (enumA 0 args.toList) fun _ => undef) w) : Ret P f args H Φ := fun w hw =>
  (calls_of_codeM hf hb hN (h w (Mem.start hw))).mono fun _ _ ⟨v, h1, H', _, hM, hΦ⟩ => ⟨v, H', h1, hM.old, hM.agree, hM.fresh, hM.below, hΦ⟩
theorem RetO.of_codeM {f : FuncId} {fn : Func} {c : Code} {args : Array Value} {H : Hp} {Φ : Value → List Ent → Prop} (hf : P.funcs[f]? = some fn) (hb : fn.body = some c) (hN : args.size ≤ fn.ntmps)
    (h : ∀ w, Mem w H w H [] → CW none 0 P fn.ntmps c (endQM P fn fun v w' => ∃ H' L', Mem w H w' H' L' ∧ Φ v L') [] (sl (enumA 0 args.toList) fun _ => undef) w) : RetO P f args H Φ := fun w hw =>
  (calls_of_codeM hf hb hN (h w (Mem.start hw))).mono fun _ _ ⟨v, h1, _, L', hM, hΦ⟩ => ⟨v, L', h1, hM.below, hM.holds, hM.apart, hΦ⟩
end
end Go.Proofs.YtackllehpecfgaaDoor
