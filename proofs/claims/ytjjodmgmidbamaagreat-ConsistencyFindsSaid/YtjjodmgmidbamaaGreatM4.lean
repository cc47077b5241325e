/- Part 4 of the proof of the statement ConsistencyFindsSaid: lemmas. No condition of its own. -/
import Derived.Lib.TrailingZeros
import Derived.ProofKit
import Derived.Test.YtjjodmgmidbamaaGreatRows
import Derived.Test.YtjjodmgmidbamaaGreatM3
namespace Go.Proofs.YtjjodmgmidbamaaGreat
open Go.RowKit
section
section
variable {D : Nat → Type} [∀ t, Dt (D t)]
def slotsOf : Nat → List (SV D) → List (Nat × SV D)
  | _, [] => []
  | k, v :: r => (k, v) :: slotsOf (k + 1) r
variable {E : Env D} {fr : List (Nat × Blk D)} {F : List Ent} {w0 w : World} {H0 H : Hp} {R : List Ent} {ρ : RM} {L : List Ent} {st : St D} {σ : Nat → Value}
theorem slotsOf_ok : ∀ {l : List (SV D)} {xs : List Value} {k : Nat}, RvL H ρ xs l → SlR H ρ (slotsOf k l) (sl (enumA k xs) fun _ => undef)
  | [], _, _, _ => fun t v h => by cases h
  | u :: r, xs, k, ⟨x, q, e, h1, h2⟩ => fun t v h => by
    subst e
    unfold slotsOf getS at h
    show Rv H ρ (bif Nat.beq t k then x else sl (enumA (k + 1) q) (fun _ => undef) t) v
    cases hb : Nat.beq t k with
    | true => rw [hb] at h; cases h; exact h1
    | false => rw [hb] at h; exact slotsOf_ok h2 t v h
def isEnd : Exit → Bool
  | .ret => true
  | .normal => true
  | _ => false
theorem isEnd_ok {e : Exit} (h : isEnd e = true) : e = .ret ∨ e = .normal := by
  cases e <;> first | exact .inl rfl | exact .inr rfl | cases h
def runF (E : Env D) : Nat → CallI D
  | 0 => fun _ _ _ _ _ _ => False
  | n + 1 => fun f vs st fr pos K => match E.P.funcs[f]? with
    | some fn => match fn.body with
      | some c => cdP (entB E.P f && Nat.ble vs.length fn.ntmps) (runC E (runF E n) fn.ntmps false c pos fr ⟨slotsOf 0 vs, st.bk, st.kn, st.nx⟩ fun e st' => cdP (isEnd e) (match mapO (rvE E.P E.tb st' fr) fn.results.toList with
        | some rs => K (tupV rs) st'
        | none => False) False) False
      | none => False
    | none => False
theorem endM_ok {P : Program} {fn : Func} {T : Value → World → Prop} {e : Exit} (he : e = .ret ∨ e = .normal) {X : List Ent} : ∀ (ms : List Nat) {w : World}, Mem w0 H0 w H (mkO ms ++ X) → (∀ w', Mem w0 H0 w' H X → endQ P fn T e [] σ w') → endQM P fn T e (mkD ms) σ w
  | [], w, hM, k => k w hM
  | _ :: ms, _, hM, k => endQM.mark he hM 0 rfl fun _ hM' => endM_ok he ms (hM'.sub (List.sublist_cons_self _ _)) k
theorem perm_mid (A B M R : List Ent) : (A ++ (B ++ (M ++ R))).Perm (M ++ (A ++ (B ++ R))) := by
  rw [← List.append_assoc, ← List.append_assoc, ← List.append_assoc A B R, ← List.append_assoc]
  exact (List.perm_append_comm (l₁ := A ++ B) (l₂ := M)).append_right R
theorem runF_ok (hE : E.Ok) : ∀ n, CallOk E.P E.G (runF E n)
  | 0 => fun _ _ _ _ _ _ _ _ _ _ _ _ _ _ _ _ h _ _ _ => h.elim
  | n + 1 => fun f vs st fr pos K F w0 H0 R H ρ L σ w xs h h0 hs hv => by
    unfold runF at h
    split at h
    · rename_i fn hf
      split at h
      · rename_i c hc
        obtain ⟨hb, h⟩ := cifP h
        rw [Bool.and_eq_true] at hb
        refine ⟨entB_ok hb.1, ?_⟩
        have hN : xs.toArray.size ≤ fn.ntmps := by
          have := Nat.le_of_ble_eq_true hb.2
          simpa [RvL.length hv] using this
        have hs0 : Sat fr F w0 H0 (mkO [] ++ R) H ρ L (⟨slotsOf 0 vs, st.bk, st.kn, st.nx⟩ : St D) (sl (enumA 0 xs) fun _ => undef) w := ⟨hs.mem, slotsOf_ok hv, hs.bk, hs.fr, hs.kn, hs.nx⟩
        refine (calls_of_codeM (R := fun v w' => ∃ s st', K s st' ∧ Out fr F w0 H0 R H ρ (fun _ => undef) ⟨[], st'.bk, st'.kn, st'.nx⟩ s v w') hf hc hN ?_)
        refine runC_ok (ms := []) (R := R) hE h0 (runF_ok hE n) c (fun _ => ⟨rfl, rfl⟩) hs0 h fun e => ?_
        intro ms' st' σ' w' H' ρ' L' h1 _ h2 h3 h4
        obtain ⟨he, h1⟩ := cifP h1
        refine endM_ok (isEnd_ok he) ms' (h4.mem.perm (perm_mid _ _ _ _)) fun w2 hw2 => ?_
        have h4 := h4.reR hw2
        split at h1
        · rename_i rs hrs
          obtain ⟨us, g1, g2⟩ := results_ok hE.tb h4 hrs
          refine ⟨isEnd_ok he, rfl, tupVal us, g2, tupV rs, st', h1, H', ρ', L', h2, h3, ⟨h4.mem, (fun t v hv => nomatch hv), h4.bk, h4.fr, h4.kn, h4.nx⟩, tupVal_ok g1⟩
        · exact h1.elim
      · exact h.elim
    · exact h.elim
def globB : SV D → Bool
  | .i _ _ | .w _ | .y _ | .k _ | .b _ | .p _ _ | .c _ | .nil | .fsl _ _ => true
  | _ => false
theorem globB_ok {ρ' : RM} {s : SV D} {x : Value} (h : globB s = true) (hx : Rv H ρ x s) : Rv H ρ' x s := by
  cases s <;> first | exact hx | cases h
def rtC : List Bool → List (Nat × Blk D) → List (SV D) → Option (List (SV D) × List (Nat × Blk D))
  | [], bk, l => match l with
    | [] => some ([], bk)
    | _ :: _ => none
  | f :: fs, bk, l => match l with
    | [] => none
    | s :: r => match f with
      | true => match s with
        | .own id => match remB bk id with
          | some (.row e xs, bk1) => match rtC fs bk1 r with
            | some (p, bk2) => some (.fsl e xs :: p, bk2)
            | none => none
          | _ => none
        | .nil => match rtC fs bk r with
          | some (p, bk2) => some (.nil :: p, bk2)
          | none => none
        | _ => none
      | false => bif globB s then (match rtC fs bk r with
        | some (p, bk2) => some (s :: p, bk2)
        | none => none) else none
def RtR (w0 : World) (H0 : Hp) (w : World) (H : Hp) (ρ : RM) (fs : List Bool) (us : List Value) (q : List (SV D)) (bk' : List (Nat × Blk D)) (X : List Ent) : Prop :=
  ∃ S L', Mem w0 H0 w H (L' ++ (S ++ X)) ∧ BkR H ρ bk' L' ∧ ∀ (nx : Nat) (ρ0 : RM) (l' : List (SV D)) (b : List (Nat × Blk D)) (m : Nat), (∀ id, nx ≤ id → ρ0 id = none) → ownC fs nx q = some (l', b, m) → ∃ ρ', RM.le ρ0 ρ' ∧ nx ≤ m ∧ (∀ id, m ≤ id → ρ' id = none) ∧ (∀ id, id < nx → ρ' id = ρ0 id) ∧ RvL H ρ' us l' ∧ BkR H ρ' b S
theorem RtR.row {fs : List Bool} {bk' : List (Nat × Blk D)} {X : List Ent} {e : Nat} {xs : List (D e)} {A : Option Addr} {n c : Nat} {z : List Value} {L1 : List Ent} {q1 : List (SV D)} {x : Value} {u : List Value} (hM1 : Mem w0 H0 w H (.row (.slice A n c) e (Dt.sz (D e)) n z :: (L1 ++ X))) (hd : DtL (α := D e) H z xs) (hn : n = xs.length) (hx : x = .slice A n c)
    (h : Mem w0 H0 w H (L1 ++ ([.row (.slice A n c) e (Dt.sz (D e)) n z] ++ X)) → RtR w0 H0 w H ρ fs u q1 bk' ([.row (.slice A n c) e (Dt.sz (D e)) n z] ++ X)) : RtR w0 H0 w H ρ (true :: fs) (x :: u) (.fsl e xs :: q1) bk' X := by
  have hM2 : Mem w0 H0 w H (L1 ++ ([.row (.slice A n c) e (Dt.sz (D e)) n z] ++ X)) := hM1.perm (by
    rw [← List.append_assoc]
    exact (List.perm_append_comm (l₁ := [Ent.row (.slice A n c) e (Dt.sz (D e)) n z]) (l₂ := L1)).append_right X)
  obtain ⟨S, L', a1, a2, a3⟩ := h hM2
  refine ⟨.row (.slice A n c) e (Dt.sz (D e)) n z :: S, L', a1.perm ?_, a2, fun nx ρ0 l' b m hn0 ho => ?_⟩
  · refine List.Perm.append_left L' ?_
    show (S ++ ([Ent.row (.slice A n c) e (Dt.sz (D e)) n z] ++ X)).Perm ([Ent.row (.slice A n c) e (Dt.sz (D e)) n z] ++ S ++ X)
    rw [← List.append_assoc]
    exact List.perm_append_comm.append_right X
  · rw [ownC] at ho
    cases ho1 : ownC fs (nx + 1) q1 with
    | none => simp only [ho1] at ho; cases ho
    | some t =>
      obtain ⟨l1, b1, m1⟩ := t
      simp only [ho1] at ho
      cases ho
      obtain ⟨f1, f2⟩ := fresh_put hn0 (.r A n c)
      obtain ⟨ρ', b2, b3, b4, b4', b5, b6⟩ := a3 (nx + 1) (ρ0.put nx (.r A n c)) _ _ _ f2 ho1
      have e0 : ρ' nx = some (.r A n c) := b2 _ _ (RM.put_same _ _ _)
      exact ⟨ρ', f1.trans b2, by omega, b4, fun id hid => by rw [b4' id (by omega), RM.put_ne _ _ (by omega)], ⟨x, u, rfl, ⟨A, n, c, e0, hx⟩, b5⟩, _, _, rfl, ⟨A, n, c, z, e0, rfl, hd, hn⟩, b6⟩
theorem rtC_ok : ∀ {fs : List Bool} {l p q : List (SV D)} {us : List Value} {bk bk' : List (Nat × Blk D)} {L X : List Ent}, Mem w0 H0 w H (L ++ X) → BkR H ρ bk L → RvL H ρ us l → rtC fs bk l = some (p, bk') → CQL p q → RtR w0 H0 w H ρ fs us q bk' X
  | [], l, p, q, us, bk, bk', L, X, hM, hk, hu, h, hq => by
    cases l with
    | cons _ _ => cases h
    | nil =>
      cases h
      obtain rfl : q = [] := hq
      refine ⟨[], L, hM, hk, fun nx ρ0 l' b m hn ho => ?_⟩
      cases ho
      exact ⟨ρ0, RM.le.refl _, Nat.le_refl _, hn, fun _ _ => rfl, hu, rfl⟩
  | f :: fs, l, p, q, us, bk, bk', L, X, hM, hk, hu, h, hq => by
    cases l with
    | nil => cases h
    | cons s r =>
      obtain ⟨x, u, rfl, h1, h2⟩ := hu
      unfold rtC at h
      cases f with
      | true =>
        simp only at h
        split at h
        · rename_i id
          split at h
          · rename_i e xs bk1 hr
            split at h
            · rename_i p1 bk2 hr1
              cases h
              obtain ⟨q0, q1, rfl, hcq, hq1⟩ := hq
              obtain ⟨S1, L1, g1, ⟨A, n, c, z, g2, rfl, g3, g4⟩, g5⟩ := hk.rem hr
              obtain ⟨A', n', c', g6, g7⟩ := h1
              rw [g2] at g6; cases g6
              have hq0 : q0 = .fsl e xs := by
                rcases hcq with ⟨e', xs', rfl, h | ⟨h, _⟩⟩ | ⟨hsc, _⟩
                · exact h.symm
                · cases h
                · cases hsc
              subst hq0
              exact RtR.row (hM.perm (g1.append_right X)) g3 g4 g7 fun hM2 => rtC_ok hM2 g5 h2 hr1 hq1
            · cases h
          · cases h
        · split at h
          · rename_i p1 bk2 hr1
            cases h
            obtain ⟨q0, q1, rfl, hcq, hq1⟩ := hq
            rcases hcq with ⟨e', xs', rfl, h | ⟨_, rfl⟩⟩ | ⟨hsc, _⟩
            · cases h
            · exact RtR.row (hM.nilRow e' (Dt.sz (D e'))) DtL.nil rfl h1 fun hM2 => rtC_ok hM2 hk h2 hr1 hq1
            · cases hsc
          · cases h
        · cases h
      | false =>
        simp only at h
        have hh := cif h
        clear h
        obtain ⟨hgl, h⟩ := hh
        split at h
        · rename_i p1 bk2 hr1
          cases h
          obtain ⟨q0, q1, rfl, hcq, hq1⟩ := hq
          obtain ⟨S, L', a1, a2, a3⟩ := rtC_ok hM hk h2 hr1 hq1
          refine ⟨S, L', a1, a2, fun nx ρ0 l' b m hn0 ho => ?_⟩
          rw [ownC] at ho
          cases ho1 : ownC fs nx q1 with
          | none => simp only [ho1] at ho; cases ho
          | some t =>
            obtain ⟨l1, b1, m1⟩ := t
            simp only [ho1] at ho
            cases ho
            obtain ⟨ρ', b2, b3, b4, b4', b5, b6⟩ := a3 nx ρ0 _ _ _ hn0 ho1
            exact ⟨ρ', b2, b3, b4, b4', ⟨x, u, rfl, hcq.rv (globB_ok hgl h1), b5⟩, b6⟩
        · cases h
def rtCC : List (List Bool) → List (Nat × Blk D) → List (List (SV D)) → Option (List (List (SV D)))
  | [], _, l => match l with
    | [] => some []
    | _ :: _ => none
  | f :: fs, bk, l => match l with
    | [] => none
    | c :: r => match rtC f bk c with
      | some (p, bk1) => match rtCC fs bk1 r with
        | some q => some (p :: q)
        | none => none
      | none => none
def falseIds : List (List Bool) → List (List (SV D)) → List Nat
  | f :: fs, l :: ls => ownIdsL ((f.zip l).filterMap fun p => bif p.1 then none else some p.2) ++ falseIds fs ls
  | _, _ => []
def cqTup (tb : Tb D) : (ts : List Nat) → TupD D ts → List (List (SV D)) → List (List (SV D)) → Prop
  | [], _, _, q => q = []
  | t :: r, y, p, q => ∃ p1 p2 q1 q2, p = p1 :: p2 ∧ q = q1 :: q2 ∧ toC tb t y.1 = some q1 ∧ CQL p1 q1 ∧ cqTup tb r y.2 p2 q2
theorem ofTup_cq {tb : Tb D} (htb : TbOk tb) : ∀ {ts : List Nat} {p : List (List (SV D))} {y : TupD D ts}, ofTup tb ts p = some y → ∃ q, tupC tb ts y = some q ∧ cqTup tb ts y p q
  | [], [], y, h => ⟨[], rfl, rfl⟩
  | [], _ :: _, _, h => by cases h
  | _ :: _, [], _, h => by cases h
  | t :: r, p1 :: p2, y, h => by
    obtain ⟨h1, h2⟩ := ofTup2 h
    obtain ⟨q1, g1, g2⟩ := ofC_cq htb h1
    obtain ⟨q2, g3, g4⟩ := ofTup_cq htb h2
    refine ⟨q1 :: q2, ?_, p1, p2, q1, q2, rfl, rfl, g1, g2, g4⟩
    rw [tupC]
    simp only [g1, g3]
theorem rtCC_ok {tb : Tb D} : ∀ {ts : List Nat} {fs : List (List Bool)} {l p q : List (List (SV D))} {y : TupD D ts} {us : List (List Value)} {bk : List (Nat × Blk D)} {L X : List Ent}, Mem w0 H0 w H (L ++ X) → BkR H ρ bk L → RvLL H ρ us l → rtCC fs bk l = some p → cqTup tb ts y p q →
    ∃ S, Mem w0 H0 w H (S ++ X) ∧ ∀ (nx : Nat) (ρ0 : RM) (l' : List (List (SV D))) (b : List (Nat × Blk D)) (m : Nat), (∀ id, nx ≤ id → ρ0 id = none) → ownCC fs nx q = some (l', b, m) → ∃ ρ', RM.le ρ0 ρ' ∧ nx ≤ m ∧ (∀ id, m ≤ id → ρ' id = none) ∧ (∀ id, id < nx → ρ' id = ρ0 id) ∧ RvLL H ρ' us l' ∧ BkR H ρ' b S
  | [], fs, l, p, q, y, us, bk, L, X, hM, hk, hu, h, hq => by
    obtain rfl : q = [] := hq
    refine ⟨[], hM.sub (List.sublist_append_right L X), fun nx ρ0 l' b m hn ho => ?_⟩
    cases fs with
    | cons _ _ => cases ho
    | nil =>
      cases ho
      cases l with
      | cons _ _ => cases h
      | nil => exact ⟨ρ0, RM.le.refl _, Nat.le_refl _, hn, fun _ _ => rfl, hu, rfl⟩
  | t :: ts, fs, l, p, q, y, us, bk, L, X, hM, hk, hu, h, ⟨p1, p2, q1, q2, hp, hq, _, hc, hr⟩ => by
    subst hp; subst hq
    cases fs with
    | nil => cases l <;> cases h
    | cons f fs =>
      cases l with
      | nil => cases h
      | cons c l =>
        obtain ⟨u, v, rfl, h1, h2⟩ := hu
        rw [rtCC] at h
        cases ha : rtC f bk c with
        | none => simp only [ha] at h; cases h
        | some a =>
          obtain ⟨a1, bk1⟩ := a
          cases hb : rtCC fs bk1 l with
          | none => simp only [ha, hb] at h; cases h
          | some b =>
            simp only [ha, hb] at h
            cases h
            obtain ⟨S1, L1, g1, g2, g3⟩ := rtC_ok hM hk h1 ha hc
            obtain ⟨S2, k1, k2⟩ := rtCC_ok (ts := ts) g1 g2 h2 hb hr
            refine ⟨S1 ++ S2, k1.perm ?_, fun nx ρ0 l' b m hn ho => ?_⟩
            · rw [← List.append_assoc]
              exact List.perm_append_comm.append_right X
            · rw [ownCC] at ho
              cases ho1 : ownC f nx q1 with
              | none => simp only [ho1] at ho; cases ho
              | some o =>
                obtain ⟨l1, b1, m1⟩ := o
                cases ho2 : ownCC fs m1 q2 with
                | none => simp only [ho1, ho2] at ho; cases ho
                | some o2 =>
                  obtain ⟨l2, b2, m2⟩ := o2
                  simp only [ho1, ho2] at ho
                  cases ho
                  obtain ⟨ρ1, i1, i2, i3, i3', i4, i5⟩ := g3 nx ρ0 _ _ _ hn ho1
                  obtain ⟨ρ2, j1, j2, j3, j3', j4, j5⟩ := k2 m1 ρ1 _ _ _ i3 ho2
                  exact ⟨ρ2, i1.trans j1, by omega, j3, fun id hid => by rw [j3' id (by omega), i3' id hid], ⟨u, v, rfl, RvL.mono (Hp.le.refl _) j1 _ i4, j4⟩, (i5.mono (Hp.le.refl _) j1).append j5⟩
def retF (P : Program) (tb : Tb D) (fn : Func) (rs : List Nat) (own : List (List Bool)) (Φ : TupD D rs → Prop) (st : St D) : Prop := match mapO (rvE P tb st []) fn.results.toList with
  | some vs => match argsC P rs (vs.map fun v => rsD (st.lk []) (resD st.kn v)) with
    | some ls0 => match mapO (rvE P tb (st.frzL (falseIds own ls0)) []) fn.results.toList with
      | some us => match argsC P rs (us.map fun v => rsD ((st.frzL (falseIds own ls0)).lk []) (resD st.kn v)) with
        | some ls => match rtCC own (st.frzL (falseIds own ls0)).bk ls with
          | some ps => match ofTup tb rs ps with
            | some y => Φ y
            | none => False
          | none => False
        | none => False
      | none => False
    | none => False
  | none => False
def topF (E : Env D) (n : Nat) (f : Nat) (ps rs : List Nat) (own : List (List Bool)) (x : TupD D ps) (Φ : TupD D rs → Prop) : Prop := match tupC E.tb ps x with
  | some ls => match packs E.P ps ls with
    | some vs => match E.P.funcs[f]? with
      | some fn => match fn.body with
        | some c => cdP (Nat.ble vs.length fn.ntmps) (runC E (runF E n) fn.ntmps false c [] [] ⟨slotsOf 0 vs, [], [], 0⟩ fun e st' => cdP (isEnd e) (retF E.P E.tb fn rs own Φ st') False) False
        | none => False
      | none => False
    | none => False
  | none => False
theorem Ct.lift (hE : E.Ok) (n : Nat) (c : Ct D) (h : ∀ x Φ, c.W x Φ → topF E n c.f c.ps c.rs c.own x Φ) : c.Ok E.P E.tb E.G := by
  intro x Φ hW H vs hGH hA
  have hF := h x Φ hW
  unfold topF at hF
  split at hF
  · rename_i ls hls
    split at hF
    · rename_i svs hsv
      split at hF
      · rename_i fn hfn
        split at hF
        · rename_i cd hcd
          obtain ⟨hN, hF⟩ := cifP hF
          obtain ⟨cs, g1, g2⟩ := argsR_cells (ρ := fun _ => none) hE.tb hA hls
          have g3 := packs_ok g1 g2 hsv
          refine RetP.of_codeM hfn hcd (by have := Nat.le_of_ble_eq_true hN; simpa [RvL.length g3] using this) fun w hM => ?_
          have hs0 : Sat [] [] w H (mkO [] ++ []) H (fun _ => none) [] (⟨slotsOf 0 svs, [], [], 0⟩ : St D) (sl (enumA 0 vs) fun _ => undef) w := ⟨hM, slotsOf_ok g3, rfl, rfl, (fun _ _ h => nomatch h), fun _ _ => rfl⟩
          refine runC_ok (ms := []) (R := []) hE hGH (runF_ok hE n) cd (fun _ => ⟨rfl, rfl⟩) hs0 hF fun e => ?_
          intro ms' st' σ' w' H' ρ' L' h1 _ h2 h3 h4
          obtain ⟨he, h1⟩ := cifP h1
          refine endM_ok (isEnd_ok he) ms' (h4.mem.perm (perm_mid _ _ _ _)) fun w2 hw2 => ?_
          have h4 := h4.reR hw2
          unfold retF at h1
          split at h1
          · rename_i v1 hv1
            split at h1
            · rename_i ls0 hl0
              split at h1
              · rename_i us hus
                split at h1
                · rename_i ls1 hl1
                  split at h1
                  · rename_i ps hps
                    split at h1
                    · rename_i y hy
                      obtain ⟨H2, L2, k1, k2⟩ := h4.frzL (falseIds c.own ls0)
                      obtain ⟨ux, e1, e2⟩ := results_ok hE.tb k2 hus
                      have hkn := (frzL_sl (falseIds c.own ls0) st').2.1
                      have e3 := mapRs_ok k2 e1
                      rw [hkn] at e3
                      obtain ⟨cs2, e4, e5⟩ := argsC_cells e3 hl1
                      obtain ⟨q, e6, e7⟩ := ofTup_cq hE.tb hy
                      have hM2 := k2.mem
                      obtain ⟨S, i1, i2⟩ := rtCC_ok (X := []) (by simpa using hM2) k2.bk e5 hps e7
                      refine ⟨isEnd_ok he, rfl, tupVal ux, e2, H2, S, by simpa using i1, y, h1, ?_⟩
                      intro nx ρ0 hn0 s b m hres
                      unfold resE at hres
                      rw [e6] at hres
                      simp only at hres
                      split at hres
                      · rename_i ls' b' m' ho
                        split at hres
                        · rename_i vs' hp
                          cases hres
                          obtain ⟨ρ2, j1, j2, j3, j3', j4, j5⟩ := i2 nx ρ0 _ _ _ hn0 ho
                          exact ⟨ρ2, j1, j2, j3, j3', tupVal_ok (packs_ok e4 j4 hp), j5⟩
                        · cases hres
                      · cases hres
                    · exact h1.elim
                  · exact h1.elim
                · exact h1.elim
              · exact h1.elim
            · exact h1.elim
          · exact h1.elim
        · exact hF.elim
      · exact hF.elim
    · exact hF.elim
  · exact hF.elim
end
end
section
section
variable {F : Fence} {n : Nat} {P : Program} {ops : Array Oper} {Q : Exit → Act → World → Prop}
theorem wpList_cons1 {Q1 : Exit → Act → World → Prop} {o : Oper} {l : List Oper} {a : Act} {w : World} (h : wpListIn F n P ops Q1 [o] a w) (hK : ∀ a w, Q1 .normal a w → wpListIn F n P ops Q l a w) (hp : ∀ c a w, ¬ Q1 (.panic c) a w) (hl : ¬ LetsOut Q1) : wpListIn F n P ops Q (o :: l) a w := by
  unfold wpListIn at h ⊢
  split at h
  · rename_i hw
    rw [if_pos hw]
    refine ⟨h.1, ?_⟩
    have h2 := h.2
    generalize (o.semAt F.round a.eval).run P w = res at h2
    cases res with
    | ok nx w' =>
      cases nx with
      | value v => exact hK _ _ h2
      | skip => exact hK _ _ h2
      | defer d => exact hK _ _ h2
      | enter f args =>
        refine ⟨h2.1, h2.2.mono fun e w'' he => ?_⟩
        cases e with
        | returned v => exact hK _ _ he
        | panicked chain => exact absurd he (hp _ _ _)
        | outgrown => exact absurd he hl
      | row row args => exact ⟨h2.1, h2.2.mono fun v w'' he => hK _ _ he⟩
      | round l f tmps assign body =>
        refine ⟨h2.1, h2.2.mono fun e w'' he => ?_⟩
        cases e with
        | returned v => exact hK _ _ he
        | panicked chain => exact absurd he (hp _ _ _)
        | outgrown => exact absurd he hl
      | _ => exact h2
    | halt x w' =>
      cases x with
      | panic v => exact absurd h2 (hp _ _ _)
      | _ => exact h2
  · rename_i hw
    rw [if_neg hw]
    exact ⟨h.1, hK _ _ h.2⟩
end
theorem RW.cons1 {r : Option Nat} {md : Nat} {P : Program} {N : Nat} {ops : Array Oper} {o : Oper} {l : List Oper} {Q : Exit → List Deferred → (Nat → Value) → World → Prop} {Dd : List Deferred} {σ : Nat → Value} {w : World}
    (h : RW r md P N ops [o] (fun e D' σ' w' => e = .normal ∧ RW r md P N ops l Q D' σ' w') Dd σ w) : RW r md P N ops (o :: l) Q Dd σ w := by
  intro a ha
  refine wpList_cons1 (h a ha) (fun a' w' hq => ?_) (fun c a' w' hq => ?_) (fun hq => ?_)
  · obtain ⟨D', σ', h1, _, h2⟩ := hq
    exact h2 a' h1
  · obtain ⟨_, _, _, hn, _⟩ := hq
    cases hn
  · obtain ⟨_, _, _, _, _, hn, _⟩ := hq
    cases hn
def Yl {α : Type} (l : List α) (K : α → List α → Prop) : Prop := match l with
  | [] => False
  | x :: r => K x r
section
variable {D : Nat → Type} [∀ t, Dt (D t)]
def yieldE (st : St D) (op : Op) : Option (List Operand) := match op with
  | .call ⟨.value g, xs, _⟩ => match evO st.sl g with
    | some (.kp 0) => some xs.toList
    | _ => none
  | _ => none
omit [∀ t, Dt (D t)] in
theorem yieldE_ok {st : St D} {op : Op} {xs : List Operand} (h : yieldE st op = some xs) : ∃ g ys tys, op = .call ⟨.value g, ys, tys⟩ ∧ evO st.sl g = some (.kp 0) ∧ xs = ys.toList := by
  unfold yieldE at h
  split at h
  · split at h
    · rename_i hg
      cases h
      exact ⟨_, _, _, rfl, hg, rfl⟩
    · cases h
  · cases h
def yOp (E : Env D) (fr : List (Nat × Blk D)) (ts : List Nat) (o : Oper) (sp : Bool) (st : St D) (rest : List (TupD D ts)) (K : Bool → St D → List (TupD D ts) → Prop) : Prop := match yieldE st o.op with
  | some xs => match sp with
    | true => False
    | false => Yl rest fun x r => match mapO (fun x => (evO st.sl x).map fun v => rsD (st.lk fr) (resD st.kn v)) xs with
      | some vs => match argsC E.P ts vs with
        | some ls => match ofTup E.tb ts ls with
          | some a => a = x ∧ K false (st.put o.dst (.k true)) r ∧ K true (st.put o.dst (.k false)) (x :: r)
          | none => False
        | none => False
      | none => False
  | none => stepD E fr o st fun v e _ _ => cdP e False (K sp (st.put o.dst v) rest)
def runY (E : Env D) (N : Nat) (fr : List (Nat × Blk D)) (ts : List Nat) (ops : Array Oper) : List Oper → Bool → St D → List (TupD D ts) → (Bool → St D → List (TupD D ts) → Prop) → Prop
  | [], sp, st, rest, K => K sp st rest
  | o :: l, sp, st, rest, K => cdP (dstOk o.dst N) (match gdE ops st o.guard with
    | .yes => yOp E fr ts o sp st rest fun sp' st' rest' => runY E N fr ts ops l sp' st' rest' K
    | .no => runY E N fr ts ops l sp (st.put o.dst (.c undef)) rest K
    | .ask t v want => askF v
        (cdP want (yOp E fr ts o sp (st.know (.tmp t) true) rest fun sp' st' rest' => runY E N fr ts ops l sp' st' rest' K) (runY E N fr ts ops l sp ((st.know (.tmp t) true).put o.dst (.c undef)) rest K))
        (cdP want (runY E N fr ts ops l sp ((st.know (.tmp t) false).put o.dst (.c undef)) rest K) (yOp E fr ts o sp (st.know (.tmp t) false) rest fun sp' st' rest' => runY E N fr ts ops l sp' st' rest' K))
    | .bad => False) False
def runI (E : Env D) (N : Nat) (fr : List (Nat × Blk D)) (ts : List Nat) : Code → List Nat → Bool → St D → List (TupD D ts) → (Exit → Bool → St D → List (TupD D ts) → Prop) → Prop
  | .skip, _, sp, st, rest, K => K .normal sp st rest
  | .ret, _, sp, st, rest, K => K .ret sp st rest
  | .exit id, _, sp, st, rest, K => K (.exit id) sp st rest
  | .region _ ops false, _, sp, st, rest, K => runY E N fr ts ops ops.toList sp st rest (K .normal)
  | .cond c a b, pos, sp, st, rest, K => match (evO st.sl c).map (res st.kn) with
    | some (.k true) => runI E N fr ts a (2 :: pos) sp st rest K
    | some (.k false) => runI E N fr ts b (3 :: pos) sp st rest K
    | some s => askF s (runI E N fr ts a (2 :: pos) sp (st.know c true) rest K) (runI E N fr ts b (3 :: pos) sp (st.know c false) rest K)
    | none => False
  | .block id c, pos, sp, st, rest, K => runI E N fr ts c (4 :: pos) sp st rest fun e sp' st' rest' => match e with
    | .exit id' => cdP (Nat.beq id' id) (K .normal sp' st' rest') (K (.exit id') sp' st' rest')
    | e => K e sp' st' rest'
  | .seq a b, pos, sp, st, rest, K => runI E N fr ts a (0 :: pos) sp st rest fun e sp' st' rest' => match e with
    | .normal => runI E N fr ts b (1 :: pos) sp' st' rest' K
    | e => K e sp' st' rest'
  | .loop c, pos, sp, st, rest, K => match sp, findP pos E.plan with
    | false, some pe => match fillE pe.tp st.tag.nx st.tag fr with
      | some s0 => LoopW (fun (q : List (TupD D ts) × TupV D pe.tp.vts) rec => match makeE pe.tp st.tag.nx st.tag.kn q.2 with
        | some st2 => match st2.bk with
          | [] => runI E N fr ts c (5 :: pos) false st2 q.1 fun e sp' st' rest' => match e with
            | .normal => match sp' with
              | false => match fillE pe.tp st.tag.nx st' fr with
                | some s' => rec (rest', s')
                | none => False
              | true => False
            | e => K e sp' st' rest'
          | _ :: _ => False
        | none => False) (rest, s0)
      | none => False
    | _, _ => False
  | _, _, _, _, _, _ => False
structure IS (fr : List (Nat × Blk D)) (H : Hp) (ρ : RM) (st : St D) (σ : Nat → Value) (w : World) : Prop where
  ag : ∀ b o, H b = some o → w.heap[b]? = some o
  sl : SlR H ρ st.sl σ
  fr : BkR H ρ fr []
  kn : KnR H ρ st.kn
  nx : ∀ id, st.nx ≤ id → ρ id = none
  bk : st.bk = []
theorem IS.sat {fr : List (Nat × Blk D)} {H : Hp} {ρ : RM} {st : St D} {σ : Nat → Value} {w : World} (h : IS fr H ρ st σ w) : Sat fr [] w H [] H ρ [] st σ w := ⟨Mem.start h.ag, h.sl, by rw [h.bk]; rfl, h.fr, h.kn, h.nx⟩
def JS {α : Type} (J Jx : Nat → World → Prop) (all : List α) (sp : Bool) (rest : List α) (w : World) : Prop := match sp with
  | false => ∃ k, k ≤ all.length ∧ J k w ∧ rest = all.drop k
  | true => ∃ k, k < all.length ∧ Jx k w
theorem JS.below {α : Type} {J Jx : Nat → World → Prop} (hJ : ∀ k A B, J k A → Below A.heap.size A B → J k B) (hJx : ∀ k A B, Jx k A → Below A.heap.size A B → Jx k B) {all rest : List α} {sp : Bool} {w w' : World} (h : JS J Jx all sp rest w) (hb : Below w.heap.size w w') : JS J Jx all sp rest w' := by
  cases sp with
  | false => obtain ⟨k, h0, h1, h2⟩ := h; exact ⟨k, h0, hJ _ _ _ h1 hb, h2⟩
  | true => obtain ⟨k, h1, h2⟩ := h; exact ⟨k, h1, hJx _ _ _ h2 hb⟩
theorem IS.put {fr : List (Nat × Blk D)} {H : Hp} {ρ : RM} {st : St D} {σ : Nat → Value} {w w' : World} (h : IS fr H ρ st σ w) (hag : ∀ b o, H b = some o → w'.heap[b]? = some o) {x : Value} {v : SV D} (hv : Rv H ρ x v) (d : Option Nat) : IS fr H ρ (st.put d v) (upd σ d x) w' := ⟨hag, h.sl.put hv d, h.fr, h.kn, h.nx, h.bk⟩
theorem IS.know {fr : List (Nat × Blk D)} {H : Hp} {ρ : RM} {st : St D} {σ : Nat → Value} {w : World} (h : IS fr H ρ st σ w) {c : Operand} {b : Bool} (hc : ev σ c = .bool b) : IS fr H ρ (st.know c b) σ w := by
  have hs := h.sat.know hc
  refine ⟨h.ag, hs.sl, h.fr, hs.kn, hs.nx, ?_⟩
  unfold St.know
  split <;> exact h.bk
variable {E : Env D} {N : Nat} {fr : List (Nat × Blk D)} {ts : List Nat} {H : Hp} {lp : Nat} {J Jx : Nat → World → Prop} {all : List (TupD D ts)}
def YOk (P : Program) (ts : List Nat) (H : Hp) (lp : Nat) (J Jx : Nat → World → Prop) (all : List (TupD D ts)) : Prop := ∀ k A0 vs, k < all.length → (∃ y, all[k]? = some y ∧ ArgsR P H ts y vs) → J k A0 → (∀ b o, H b = some o → A0.heap[b]? = some o) → Yield P lp vs A0 fun v B => (∀ b o, H b = some o → B.heap[b]? = some o) ∧ ((v = .bool true ∧ J (k + 1) B) ∨ (v = .bool false ∧ Jx k B))
theorem yOp_ok (hE : E.Ok) (hG : E.G H) (hJ : ∀ k A B, J k A → Below A.heap.size A B → J k B) (hJx : ∀ k A B, Jx k A → Below A.heap.size A B → Jx k B) (hY : YOk E.P ts H lp J Jx all) {r : Option Nat} {md : Nat} {ops : Array Oper} {Q : Exit → List Deferred → (Nat → Value) → World → Prop} {Dd : List Deferred} {K : Bool → St D → List (TupD D ts) → Prop} {ρ : RM} (h0 : ρ 0 = some (.v (.func (.yield lp) #[] #[]))) {o : Oper} {l : List Oper} {sp : Bool} {st : St D} {rest : List (TupD D ts)} {σ : Nat → Value} {w : World} (hs : IS fr H ρ st σ w) (hj : JS J Jx all sp rest w) (h : yOp E fr ts o sp st rest K) (hgd : gdOk ops σ o.guard = true) (hd : dstOk o.dst N = true)
    (hk : ∀ sp' st' rest' σ' w', K sp' st' rest' → IS fr H ρ st' σ' w' → JS J Jx all sp' rest' w' → RW r md E.P N ops l Q Dd σ' w') : RW r md E.P N ops (o :: l) Q Dd σ w := by
  unfold yOp at h
  split at h
  · rename_i xs hy
    split at h
    · exact h.elim
    · cases rest with
      | nil => exact h.elim
      | cons x rr =>
      simp only [Yl] at h
      obtain ⟨k, _, hJk, hrest⟩ := hj
      have hkl : k < all.length := by
        rcases Nat.lt_or_ge k all.length with h1 | h1
        · exact h1
        · rw [List.drop_eq_nil_of_le h1] at hrest; cases hrest
      rw [List.drop_eq_getElem_cons hkl] at hrest
      obtain ⟨rfl, rfl⟩ := List.cons.inj hrest
      split at h
      · rename_i vs hvs
        split at h
        · rename_i ls hls
          split at h
          · rename_i a ha
            obtain ⟨hax, hT, hF⟩ := h
            have hA := argsC_ok hE.tb ts (opVals_ok hs.sat hvs) hls ha
            rw [hax] at hA
            obtain ⟨d, op, ty, ps, af, gd⟩ := o
            obtain ⟨g, ys, tys, hop, hg, rfl⟩ := yieldE_ok (op := op) hy
            subst hop
            have hgv : ρ 0 = some (.v (ev σ g)) := evO_ok hs.sl hg
            rw [h0] at hgv
            have hgv : ev σ g = .func (.yield lp) #[] #[] := by
              have := Option.some.inj hgv
              injection this with this
              exact this.symm
            refine RW.yield hgv rfl (hY k w _ hkl ⟨_, List.getElem?_eq_getElem hkl, hA⟩ hJk hs.ag) hgd hd fun v w' ⟨hag, hv⟩ => ?_
            rcases hv with ⟨rfl, hv⟩ | ⟨rfl, hv⟩
            · exact hk _ _ _ _ _ hT (hs.put hag (v := .k true) rfl d) (show JS J Jx all false _ _ from ⟨k + 1, hkl, hv, rfl⟩)
            · exact hk _ _ _ _ _ hF (hs.put hag (v := .k false) rfl d) (show JS J Jx all true _ _ from ⟨k, hkl, hv⟩)
          · exact h.elim
        · exact h.elim
      · exact h.elim
  · obtain ⟨v, e, nb, hi, h1, h2⟩ := stepD_ok (ops := ops) hE h
    cases e with
    | true => exact h1.elim
    | false =>
      rcases h2 [] none with ⟨_, _, hq⟩ | ⟨hq, _⟩
      · refine RW.cons1 (hq hG (show Sat fr [] w H [] H ρ [] ⟨st.sl, st.bk, st.kn, st.nx⟩ σ w from hs.sat) hgd hd fun x w' hm hx => RW.nil ⟨rfl, ?_⟩)
        have hM := hm [] (Mem.start hs.ag)
        exact hk _ _ _ _ _ h1 (hs.put hM.agree hx o.dst) (hj.below hJ hJx hM.below)
      · cases hq
theorem runY_ok (hE : E.Ok) (hG : E.G H) (hJ : ∀ k A B, J k A → Below A.heap.size A B → J k B) (hJx : ∀ k A B, Jx k A → Below A.heap.size A B → Jx k B) (hY : YOk E.P ts H lp J Jx all) {r : Option Nat} {md : Nat} {ops : Array Oper} {Q : Exit → List Deferred → (Nat → Value) → World → Prop} {Dd : List Deferred} {K : Bool → St D → List (TupD D ts) → Prop} {ρ : RM} (h0 : ρ 0 = some (.v (.func (.yield lp) #[] #[]))) : ∀ {l : List Oper} {sp : Bool} {st : St D} {rest : List (TupD D ts)} {σ : Nat → Value} {w : World}, IS fr H ρ st σ w → JS J Jx all sp rest w → runY E N fr ts ops l sp st rest K → (∀ sp' st' rest' σ' w', K sp' st' rest' → IS fr H ρ st' σ' w' → JS J Jx all sp' rest' w' → Q .normal Dd σ' w') → RW r md E.P N ops l Q Dd σ w
  | [], sp, st, rest, σ, w, hs, hj, h, hk => RW.nil (hk _ _ _ _ _ h hs hj)
  | o :: l, sp, st, rest, σ, w, hs, hj, h, hk => by
    unfold runY at h
    obtain ⟨hd, h⟩ := cifP h
    have step : ∀ {st : St D}, IS fr H ρ st σ w → gdOk ops σ o.guard = true → (yOp E fr ts o sp st rest fun sp' st' rest' => runY E N fr ts ops l sp' st' rest' K) → RW r md E.P N ops (o :: l) Q Dd σ w := fun hs hgt h => yOp_ok hE hG hJ hJx hY h0 hs hj h hgt hd fun sp' st' rest' σ' w' h1 h2 h3 => runY_ok hE hG hJ hJx hY h0 h2 h3 h1 hk
    have pass : ∀ {st : St D}, IS fr H ρ st σ w → gdOk ops σ o.guard = false → runY E N fr ts ops l sp (st.put o.dst (.c undef)) rest K → RW r md E.P N ops (o :: l) Q Dd σ w := fun hs hgf h => by
      obtain ⟨d, op, ty, ps, af, gd⟩ := o
      exact RW.pass hgf hd (runY_ok hE hG hJ hJx hY h0 (hs.put hs.ag (v := .c undef) rfl d) hj h hk)
    have gok : ∀ {j want d} {x : Bool}, o.guard = some (j, want) → (ops[j]?).bind (·.dst) = some d → σ d = .bool x → gdOk ops σ o.guard = (x == want) := fun h1 h2 h3 => by
      unfold gdOk
      rw [h1]
      simp only [h2, h3]
    unfold gdE at h
    cases hgd : o.guard with
    | none =>
      simp only [hgd] at h
      exact step hs (by rw [hgd]; rfl) h
    | some jw =>
      obtain ⟨j, want⟩ := jw
      simp only [hgd] at h
      cases hj' : (ops[j]?).bind (·.dst) with
      | none =>
        simp only [hj'] at h
        refine pass hs ?_ h
        unfold gdOk
        rw [hgd]
        simp only [hj']
      | some d =>
        simp only [hj'] at h
        cases hsl : (getS st.sl d).map (res st.kn) with
        | none => simp only [hsl] at h
        | some s =>
          obtain ⟨v0, hv0, hv1⟩ := Option.map_eq_some_iff.1 hsl
          have hv2 := hs.sat.res (hs.sl _ _ hv0)
          rw [hv1] at hv2
          simp only [hsl] at h
          have ask : ∀ {v : SV D}, Rv H ρ (σ d) v → askF v (cdP want (yOp E fr ts o sp (st.know (.tmp d) true) rest fun sp' st' rest' => runY E N fr ts ops l sp' st' rest' K) (runY E N fr ts ops l sp ((st.know (.tmp d) true).put o.dst (.c undef)) rest K))
              (cdP want (runY E N fr ts ops l sp ((st.know (.tmp d) false).put o.dst (.c undef)) rest K) (yOp E fr ts o sp (st.know (.tmp d) false) rest fun sp' st' rest' => runY E N fr ts ops l sp' st' rest' K)) → RW r md E.P N ops (o :: l) Q Dd σ w := fun hv h => by
            rcases askF_ok hv h with ⟨e, h⟩ | ⟨e, h⟩
            · have hk := hs.know (c := .tmp d) (b := true) e
              have hgg := gok hgd hj' e
              cases want with
              | true => exact step hk hgg h
              | false => exact pass hk hgg h
            · have hk := hs.know (c := .tmp d) (b := false) e
              have hgg := gok hgd hj' e
              cases want with
              | true => exact pass hk hgg h
              | false => exact step hk hgg h
          cases s with
          | k b =>
            simp only at h
            have hgg := gok hgd hj' (show σ d = .bool b from hv2)
            cases hb : b == want with
            | true => rw [hb] at h; exact step hs (hgg.trans hb) h
            | false => rw [hb] at h; exact pass hs (hgg.trans hb) h
          | c v =>
            simp only at h
            cases hb : isBoolV v with
            | true => rw [hb] at h; exact h.elim
            | false =>
              rw [hb] at h
              refine pass hs ?_ h
              unfold gdOk
              rw [hgd]
              simp only [hj', show σ d = v from hv2]
              cases v <;> first | rfl | cases hb
          | b x => exact ask hv2 h
          | p p i => exact ask hv2 h
          | _ => exact h.elim
def GoesI (fr : List (Nat × Blk D)) (H : Hp) (J Jx : Nat → World → Prop) (all : List (TupD D ts)) (ρ : RM) (K : Bool → St D → List (TupD D ts) → Prop) (T : (Nat → Value) → World → Prop) : Prop := ∀ sp' st' rest' σ' w' ρ', K sp' st' rest' → RM.le ρ ρ' → IS fr H ρ' st' σ' w' → JS J Jx all sp' rest' w' → T σ' w'
theorem GoesI.mono {ρ ρ' : RM} {K : Bool → St D → List (TupD D ts) → Prop} {T : (Nat → Value) → World → Prop} (h : GoesI fr H J Jx all ρ K T) (hρ : RM.le ρ ρ') : GoesI fr H J Jx all ρ' K T := fun sp st rest σ w ρ2 hk h1 hs hj => h sp st rest σ w ρ2 hk (hρ.trans h1) hs hj
theorem runI_ok (hE : E.Ok) (hG : E.G H) (hJ : ∀ k A B, J k A → Below A.heap.size A B → J k B) (hJx : ∀ k A B, Jx k A → Below A.heap.size A B → Jx k B) (hY : YOk E.P ts H lp J Jx all) : ∀ (c : Code) {pos : List Nat} {sp : Bool} {st : St D} {rest : List (TupD D ts)} {σ : Nat → Value} {w : World} {ρ : RM} {K : Exit → Bool → St D → List (TupD D ts) → Prop} {Q : Exit → List Deferred → (Nat → Value) → World → Prop} {r : Option Nat} {md : Nat},
    ρ 0 = some (.v (.func (.yield lp) #[] #[])) → IS fr H ρ st σ w → JS J Jx all sp rest w → runI E N fr ts c pos sp st rest K → (∀ e, GoesI fr H J Jx all ρ (K e) fun σ' w' => Q e [] σ' w') → CW r md E.P N c Q [] σ w := by
  intro c
  induction c with
  | skip => intro pos sp st rest σ w ρ K Q r md h0 hs hj h hk; exact CW.skip (hk _ _ _ _ _ _ _ h (RM.le.refl _) hs hj)
  | ret => intro pos sp st rest σ w ρ K Q r md h0 hs hj h hk; exact CW.ret (hk _ _ _ _ _ _ _ h (RM.le.refl _) hs hj)
  | exit id => intro pos sp st rest σ w ρ K Q r md h0 hs hj h hk; exact CW.exit (hk _ _ _ _ _ _ _ h (RM.le.refl _) hs hj)
  | region id ops draw =>
    intro pos sp st rest σ w ρ K Q r md h0 hs hj h hk
    cases draw with
    | false =>
      obtain ⟨l⟩ := ops
      exact CW.region (runY_ok hE hG hJ hJx hY h0 hs hj h fun sp' st' rest' σ' w' h1 h2 h3 => hk _ _ _ _ _ _ _ h1 (RM.le.refl _) h2 h3)
    | true => exact h.elim
  | cond c a b iha ihb =>
    intro pos sp st rest σ w ρ K Q r md h0 hs hj h hk
    unfold runI at h
    cases hc : (evO st.sl c).map (res st.kn) with
    | none => simp only [hc] at h
    | some s =>
      obtain ⟨v0, hv0, hv1⟩ := Option.map_eq_some_iff.1 hc
      have hv2 := hs.sat.res (evO_ok hs.sl hv0)
      rw [hv1] at hv2
      simp only [hc] at h
      have ask : askF s (runI E N fr ts a (2 :: pos) sp (st.know c true) rest K) (runI E N fr ts b (3 :: pos) sp (st.know c false) rest K) → CW r md E.P N (.cond c a b) Q [] σ w := fun h => by
        rcases askF_ok hv2 h with ⟨e, h⟩ | ⟨e, h⟩
        · exact CW.cond_true e (iha h0 (hs.know e) hj h hk)
        · exact CW.cond_false e (ihb h0 (hs.know e) hj h hk)
      cases s with
      | k x =>
        cases x with
        | true => exact CW.cond_true hv2 (iha h0 hs hj h hk)
        | false => exact CW.cond_false hv2 (ihb h0 hs hj h hk)
      | _ => exact ask h
  | block id c ih =>
    intro pos sp st rest σ w ρ K Q r md h0 hs hj h hk
    refine CW.block (ih h0 hs hj h fun e => ?_)
    intro sp' st' rest' σ' w' ρ' h1 h2 h3 h4
    cases e with
    | exit id' =>
      show bif Nat.beq id' id then Q .normal [] σ' w' else Q (.exit id') [] σ' w'
      have h1 : cdP (Nat.beq id' id) (K .normal sp' st' rest') (K (.exit id') sp' st' rest') := h1
      cases hb : Nat.beq id' id with
      | true => rw [hb] at h1; exact hk _ _ _ _ _ _ _ h1 h2 h3 h4
      | false => rw [hb] at h1; exact hk _ _ _ _ _ _ _ h1 h2 h3 h4
    | _ => exact hk _ _ _ _ _ _ _ h1 h2 h3 h4
  | seq a b iha ihb =>
    intro pos sp st rest σ w ρ K Q r md h0 hs hj h hk
    unfold runI at h
    refine CW.seq (iha h0 hs hj h fun e => ?_)
    intro sp' st' rest' σ' w' ρ' h1 h2 h3 h4
    cases e with
    | normal => exact ihb (h2 _ _ h0) h3 h4 h1 fun e => (hk e).mono h2
    | _ => exact hk _ _ _ _ _ _ _ h1 h2 h3 h4
  | loop c ih =>
    intro pos sp st rest σ w ρ K Q r md h0 hs hj h hk
    unfold runI at h
    split at h
    · rename_i pe hpe
      obtain ⟨ρ1, g1, g2⟩ := hs.sat.tag
      split at h
      · rename_i s0 hs0
        obtain ⟨m, hm⟩ := h
        generalize hstep : (fun (q : List (TupD D ts) × TupV D pe.tp.vts) (rec : List (TupD D ts) × TupV D pe.tp.vts → Prop) => _) = step at hm
        obtain ⟨ρ2, L2, st2, e1, e2, e3⟩ := fillE_ok (kn := st.tag.kn) g2.nx (Hp.le.refl _) (RM.le.refl _) g2.kn g2.fr g2 hs0
        refine CW.loop (β := Nat) (fun n σ w => ∃ rest s ρ' st' L', (∀ b o, H b = some o → w.heap[b]? = some o) ∧ RM.le ρ1 ρ' ∧ makeE pe.tp st.tag.nx st.tag.kn s = some st' ∧ SlR H ρ' st'.sl σ ∧ BkR H ρ' st'.bk L' ∧ KnR H ρ' st'.kn ∧ (∀ id, st'.nx ≤ id → ρ' id = none) ∧ JS J Jx all false rest w ∧ LoopN step n (rest, s)) (fun n => n) m ⟨rest, s0, ρ2, st2, L2, hs.ag, e2, e1, e3.sl, e3.bk, e3.kn, e3.nx, hj, hm⟩ ?_
        rintro n σ w ⟨rest, s, ρ', st', L', f0, f1, f2, f3, f4, f5, f6, f7, f8⟩
        cases n with
        | zero => exact f8.elim
        | succ n =>
          have f8 : step (rest, s) (LoopN step n) := f8
          rw [← hstep] at f8
          simp only [f2] at f8
          split at f8
          · rename_i hbk
            refine ih (f1 _ _ (g1 _ _ h0)) ⟨f0, f3, g2.fr.mono (Hp.le.refl _) f1, f5, f6, hbk⟩ f7 f8 fun e => ?_
            intro sp3 st3 rest3 σ3 w3 ρ3 h1 h2 h3 h4
            cases e with
            | normal =>
              show [] = [] ∧ _
              refine ⟨rfl, ?_⟩
              simp only at h1
              cases sp3 with
              | true => exact h1.elim
              | false =>
                simp only at h1
                split at h1
                · rename_i s' hfill
                  obtain ⟨ρ4, L4, st4, i1, i2, i3⟩ := fillE_ok (kn := st.tag.kn) g2.nx (Hp.le.refl _) (f1.trans h2) g2.kn g2.fr h3.sat hfill
                  exact ⟨n, ⟨rest3, s', ρ4, st4, L4, h3.ag, i2, i1, i3.sl, i3.bk, i3.kn, i3.nx, h4, by rw [hstep] at h1; exact h1⟩, Nat.lt_succ_self _⟩
                · exact h1.elim
            | _ => exact hk _ _ _ _ _ _ _ h1 ((g1.trans f1).trans h2) h3 h4
          · exact f8.elim
      · exact h.elim
    · exact h.elim
  | rangeFunc f ps a b _ _ => intro pos sp st rest σ w ρ K Q r md h0 hs hj h hk; exact h.elim
  | scope c _ => intro pos sp st rest σ w ρ K Q r md h0 hs hj h hk; exact h.elim
  | label l => intro pos sp st rest σ w ρ K Q r md h0 hs hj h hk; exact h.elim
  | goto l => intro pos sp st rest σ w ρ K Q r md h0 hs hj h hk; exact h.elim
  | refuse s => intro pos sp st rest σ w ρ K Q r md h0 hs hj h hk; exact h.elim
def ptrsE : Nat → List Nat → List (SV D)
  | _, [] => []
  | n, _ :: r => .ptr n 0 :: ptrsE (n + 1) r
def frE : Nat → List Nat → List (List (SV D)) → List (Nat × Blk D)
  | n, t :: r, c :: m => (n, .fbx t c) :: frE (n + 1) r m
  | _, _, _ => []
theorem caps_open {P : Program} {tb : Tb D} (htb : TbOk tb) : ∀ {cs : List Nat} {x : TupD D cs} {lb : List Value} {ls : List (List (SV D))} {n : Nat} {ρ0 : RM}, CapsR H cs x lb → tupC tb cs x = some ls → (∀ id, n ≤ id → ρ0 id = none) → ∃ ρ, RM.le ρ0 ρ ∧ (∀ id, n + cs.length ≤ id → ρ id = none) ∧ RvL H ρ lb (ptrsE (D := D) n cs) ∧ BkR H ρ (frE n cs ls) []
  | [], _, lb, ls, n, ρ0, h, hl, hn => by
    cases hl
    exact ⟨ρ0, RM.le.refl _, hn, h, rfl⟩
  | t :: r, x, lb, ls, n, ρ0, ⟨b, us, q, e, h1, h2, h3⟩, hl, hn => by
    rw [tupC] at hl
    cases ha : toC tb t x.1 with
    | none => simp only [ha] at hl; cases hl
    | some a =>
      cases hb : tupC tb r x.2 with
      | none => simp only [ha, hb] at hl; cases hl
      | some m =>
        simp only [ha, hb] at hl
        cases hl
        obtain ⟨f1, f2⟩ := fresh_put hn (.b b)
        obtain ⟨ρ, g1, g2, g3, g4⟩ := caps_open (P := P) htb h3 hb f2
        have hp : ρ n = some (.b b) := g1 _ _ (RM.put_same _ _ _)
        refine ⟨ρ, f1.trans g1, fun id hid => g2 id (by rw [List.length_cons] at hid; omega), ⟨_, q, e, ⟨b, hp, rfl⟩, g3⟩, [], [], rfl, ⟨rfl, b, us, hp, h1, toC_ok htb ha h2⟩, g4⟩
def iterF (E : Env D) (f : Nat) (cs ts : List Nat) (x : TupD D cs) (l : List (TupD D ts)) : Prop := match tupC E.tb cs x with
  | some ls => match E.P.funcs[f]? with
    | some fn => match fn.body with
      | some c => match fn.results.toList with
        | [] => cdP (Nat.ble (cs.length + 1) fn.ntmps) (runI E fn.ntmps (frE 1 cs ls) ts c [] false ⟨slotsOf 0 (.kp 0 :: ptrsE 1 cs), [], [], 1 + cs.length⟩ l fun e sp _ rest => cdP (isEnd e) (match sp with
          | true => True
          | false => rest = []) False) False
        | _ :: _ => False
      | none => False
    | none => False
  | none => False
theorem It.lift (hE : E.Ok) (it : It D) (h : ∀ x l, it.W x l → iterF E it.f it.cs it.ts x l) : it.Ok E.P E.G := by
  intro x l hW H lb hG hC lp J Jx W hag hJ hJx hY hJ0
  have hF := h x l hW
  unfold iterF at hF
  split at hF
  · rename_i ls hls
    split at hF
    · rename_i fn hfn
      split at hF
      · rename_i c hc
        split at hF
        · rename_i hres
          obtain ⟨hN, hF⟩ := cifP hF
          obtain ⟨f1, f2⟩ := fresh_put (ρ := fun _ => none) (nx := 0) (fun _ _ => rfl) (.v (.func (.yield lp) #[] #[]))
          obtain ⟨ρ, g1, g2, g3, g4⟩ := caps_open (P := E.P) hE.tb hC hls f2
          have h0 : ρ 0 = some (.v (.func (.yield lp) #[] #[])) := g1 _ _ (RM.put_same _ _ _)
          have hv : RvL H ρ (Value.func (.yield lp) #[] #[] :: lb) (.kp 0 :: ptrsE 1 it.cs) := ⟨_, lb, rfl, h0, g3⟩
          refine calls_of_code hfn hc (by
            have hlen := RvL.length g3
            have hp : ∀ (n : Nat) (cs : List Nat), (ptrsE (D := D) n cs).length = cs.length := fun n cs => by
              induction cs generalizing n with
              | nil => rfl
              | cons _ _ ih => simp [ptrsE, ih]
            have := Nat.le_of_ble_eq_true hN
            simp [hlen, hp]; exact this) ?_
          refine runI_ok (all := l) (J := J) (Jx := Jx) (sp := false) (rest := l) (H := H) (ρ := ρ) hE hG hJ hJx (fun k A0 vs hk hvs hJk hA => hY k A0 vs hk hvs hJk hA) c h0 ⟨hag, slotsOf_ok hv, g4, (fun _ _ h => by cases h), fun id hid => g2 id hid, rfl⟩ ⟨0, Nat.zero_le _, hJ0, rfl⟩ hF fun e => ?_
          intro sp' st' rest' σ' w' ρ' h1 h2 h3 h4
          obtain ⟨he, h1⟩ := cifP h1
          obtain ⟨ux, e1, e2⟩ := results_ok (vs := []) hE.tb h3.sat (by rw [hres]; rfl)
          refine ⟨isEnd_ok he, rfl, tupVal ux, e2, ?_⟩
          cases sp' with
          | true =>
            obtain ⟨k, hk, hx⟩ := h4
            exact .inr ⟨k, hk, hx⟩
          | false =>
            obtain ⟨k, hkn, hk, hr⟩ := h4
            have h1 : rest' = [] := h1
            rw [h1] at hr
            have hkl : l.length ≤ k := List.drop_eq_nil_iff.1 hr.symm
            rw [show k = l.length by omega] at hk
            exact .inl hk
        · exact hF.elim
      · exact hF.elim
    · exact hF.elim
  · exact hF.elim
end
end
structure api_Write where
  Volume : Int
  Start : Int
  Data : List Sec
  deriving DecidableEq
instance dt_api_Write : Dt api_Write where
  default := ⟨0, 0, []⟩
  sz := 3
  rd H cs x := ∃ A0 n0 c0 s0, cs = [.int .i64 (x.Volume), .int .i64 (x.Start), .slice A0 n0 c0] ∧ Fz H A0 n0 c0 x.Data s0
  len := fun ⟨A0, n0, c0, s0, h, h0⟩ => by rw [h]; rfl
  mono := fun ⟨A0, n0, c0, s0, h, h0⟩ hle => ⟨A0, n0, c0, s0, h, h0.mono hle⟩
  one := fun ⟨A0, n0, c0, s0, h, h0⟩ => by rw [h]; exact oneAll ⟨rfl, rfl, rfl, trivial⟩
structure api_HistoryEvent where
  Kind : Int
  Write : Int
  deriving DecidableEq
instance dt_api_HistoryEvent : Dt api_HistoryEvent where
  default := ⟨0, 0⟩
  sz := 2
  rd H cs x := cs = [.int .i64 (x.Kind), .int .i64 (x.Write)]
  len h := by rw [h]; rfl
  mono h _ := h
  one h := by rw [h]; exact oneAll ⟨rfl, rfl, trivial⟩
structure api_History where
  Sizes : List Int
  Writes : List api_Write
  Events : List api_HistoryEvent
  deriving DecidableEq
instance dt_api_History : Dt api_History where
  default := ⟨[], [], []⟩
  sz := 3
  rd H cs x := ∃ A0 n0 c0 s0, ∃ A1 n1 c1 s1, ∃ A2 n2 c2 s2, cs = [.slice A0 n0 c0, .slice A1 n1 c1, .slice A2 n2 c2] ∧ Fz H A0 n0 c0 x.Sizes s0 ∧ Fz H A1 n1 c1 x.Writes s1 ∧ Fz H A2 n2 c2 x.Events s2
  len := fun ⟨A0, n0, c0, s0, A1, n1, c1, s1, A2, n2, c2, s2, h, h0, h1, h2⟩ => by rw [h]; rfl
  mono := fun ⟨A0, n0, c0, s0, A1, n1, c1, s1, A2, n2, c2, s2, h, h0, h1, h2⟩ hle => ⟨A0, n0, c0, s0, A1, n1, c1, s1, A2, n2, c2, s2, h, h0.mono hle, h1.mono hle, h2.mono hle⟩
  one := fun ⟨A0, n0, c0, s0, A1, n1, c1, s1, A2, n2, c2, s2, h, h0, h1, h2⟩ => by rw [h]; exact oneAll ⟨rfl, rfl, rfl, trivial⟩
structure history_timeline where
  issued : List Int
  acked : List Int
  deriving DecidableEq
instance dt_history_timeline : Dt history_timeline where
  default := ⟨[], []⟩
  sz := 2
  rd H cs x := ∃ A0 n0 c0 s0, ∃ A1 n1 c1 s1, cs = [.slice A0 n0 c0, .slice A1 n1 c1] ∧ Fz H A0 n0 c0 x.issued s0 ∧ Fz H A1 n1 c1 x.acked s1
  len := fun ⟨A0, n0, c0, s0, A1, n1, c1, s1, h, h0, h1⟩ => by rw [h]; rfl
  mono := fun ⟨A0, n0, c0, s0, A1, n1, c1, s1, h, h0, h1⟩ hle => ⟨A0, n0, c0, s0, A1, n1, c1, s1, h, h0.mono hle, h1.mono hle⟩
  one := fun ⟨A0, n0, c0, s0, A1, n1, c1, s1, h, h0, h1⟩ => by rw [h]; exact oneAll ⟨rfl, rfl, trivial⟩
structure history_checked where
  History : api_History
  timeline : history_timeline
  deriving DecidableEq
instance dt_history_checked : Dt history_checked where
  default := ⟨default, default⟩
  sz := 5
  rd H cs x := ∃ A0 n0 c0 s0, ∃ A1 n1 c1 s1, ∃ A2 n2 c2 s2, ∃ A3 n3 c3 s3, ∃ A4 n4 c4 s4, cs = [.slice A0 n0 c0, .slice A1 n1 c1, .slice A2 n2 c2, .slice A3 n3 c3, .slice A4 n4 c4] ∧ Fz H A0 n0 c0 x.History.Sizes s0 ∧ Fz H A1 n1 c1 x.History.Writes s1 ∧ Fz H A2 n2 c2 x.History.Events s2 ∧ Fz H A3 n3 c3 x.timeline.issued s3 ∧ Fz H A4 n4 c4 x.timeline.acked s4
  len := fun ⟨A0, n0, c0, s0, A1, n1, c1, s1, A2, n2, c2, s2, A3, n3, c3, s3, A4, n4, c4, s4, h, h0, h1, h2, h3, h4⟩ => by rw [h]; rfl
  mono := fun ⟨A0, n0, c0, s0, A1, n1, c1, s1, A2, n2, c2, s2, A3, n3, c3, s3, A4, n4, c4, s4, h, h0, h1, h2, h3, h4⟩ hle => ⟨A0, n0, c0, s0, A1, n1, c1, s1, A2, n2, c2, s2, A3, n3, c3, s3, A4, n4, c4, s4, h, h0.mono hle, h1.mono hle, h2.mono hle, h3.mono hle, h4.mono hle⟩
  one := fun ⟨A0, n0, c0, s0, A1, n1, c1, s1, A2, n2, c2, s2, A3, n3, c3, s3, A4, n4, c4, s4, h, h0, h1, h2, h3, h4⟩ => by rw [h]; exact oneAll ⟨rfl, rfl, rfl, rfl, rfl, trivial⟩
structure consistency_place where
  volume : Int
  sector : Int
  deriving DecidableEq
instance dt_consistency_place : Dt consistency_place where
  default := ⟨0, 0⟩
  sz := 2
  rd H cs x := cs = [.int .i64 (x.volume), .int .i64 (x.sector)]
  len h := by rw [h]; rfl
  mono h _ := h
  one h := by rw [h]; exact oneAll ⟨rfl, rfl, trivial⟩
structure consistency_content where
  place : consistency_place
  data : Sec
  deriving DecidableEq
instance dt_consistency_content : Dt consistency_content where
  default := ⟨default, sec0⟩
  sz := 10
  rd H cs x := cs = [.int .i64 (x.place.volume), .int .i64 (x.place.sector), u8 x.data.b0, u8 x.data.b1, u8 x.data.b2, u8 x.data.b3, u8 x.data.b4, u8 x.data.b5, u8 x.data.b6, u8 x.data.b7]
  len h := by rw [h]; rfl
  mono h _ := h
  one h := by rw [h]; exact oneAll ⟨rfl, rfl, rfl, rfl, rfl, rfl, rfl, rfl, rfl, rfl, trivial⟩
  ks := some ([some .i64, some .i64, some .u8, some .u8, some .u8, some .u8, some .u8, some .u8, some .u8, some .u8], fun x => [.i .i64 x.place.volume, .i .i64 x.place.sector, .i .u8 ((x.data.b0).toNat : Int), .i .u8 ((x.data.b1).toNat : Int), .i .u8 ((x.data.b2).toNat : Int), .i .u8 ((x.data.b3).toNat : Int), .i .u8 ((x.data.b4).toNat : Int), .i .u8 ((x.data.b5).toNat : Int), .i .u8 ((x.data.b6).toNat : Int), .i .u8 ((x.data.b7).toNat : Int)])
  ksOk := fun _ _ h => by
    cases h
    refine ⟨fun _ _ _ => Iff.rfl, fun _ => rfl, fun a b h => ?_⟩
    obtain ⟨⟨a_0_0, a_0_1⟩, ⟨a_10, a_11, a_12, a_13, a_14, a_15, a_16, a_17⟩⟩ := a
    obtain ⟨⟨b_0_0, b_0_1⟩, ⟨b_10, b_11, b_12, b_13, b_14, b_15, b_16, b_17⟩⟩ := b
    simp only [List.cons.injEq, Sc.i.injEq, true_and, and_true] at h
    obtain ⟨e0, e1, e2, e3, e4, e5, e6, e7, e8, e9⟩ := h
    have e2 := BitVec.eq_of_toNat_eq (Int.ofNat_inj.1 e2)
    have e3 := BitVec.eq_of_toNat_eq (Int.ofNat_inj.1 e3)
    have e4 := BitVec.eq_of_toNat_eq (Int.ofNat_inj.1 e4)
    have e5 := BitVec.eq_of_toNat_eq (Int.ofNat_inj.1 e5)
    have e6 := BitVec.eq_of_toNat_eq (Int.ofNat_inj.1 e6)
    have e7 := BitVec.eq_of_toNat_eq (Int.ofNat_inj.1 e7)
    have e8 := BitVec.eq_of_toNat_eq (Int.ofNat_inj.1 e8)
    have e9 := BitVec.eq_of_toNat_eq (Int.ofNat_inj.1 e9)
    subst e0
    subst e1
    subst e2
    subst e3
    subst e4
    subst e5
    subst e6
    subst e7
    subst e8
    subst e9
    rfl
structure cut_relation where
  n : Int
  never : Int
  issued : List Int
  acked : List Int
  deriving DecidableEq
instance dt_cut_relation : Dt cut_relation where
  default := ⟨0, 0, [], []⟩
  sz := 4
  rd H cs x := ∃ A0 n0 c0 s0, ∃ A1 n1 c1 s1, cs = [.int .i64 (x.n), .int .i64 (x.never), .slice A0 n0 c0, .slice A1 n1 c1] ∧ Fz H A0 n0 c0 x.issued s0 ∧ Fz H A1 n1 c1 x.acked s1
  len := fun ⟨A0, n0, c0, s0, A1, n1, c1, s1, h, h0, h1⟩ => by rw [h]; rfl
  mono := fun ⟨A0, n0, c0, s0, A1, n1, c1, s1, h, h0, h1⟩ hle => ⟨A0, n0, c0, s0, A1, n1, c1, s1, h, h0.mono hle, h1.mono hle⟩
  one := fun ⟨A0, n0, c0, s0, A1, n1, c1, s1, h, h0, h1⟩ => by rw [h]; exact oneAll ⟨rfl, rfl, rfl, rfl, trivial⟩
instance dtUnit : Dt Unit where
  default := ()
  sz := 0
  rd _ cs _ := cs = []
  len h := by rw [h]; rfl
  mono h _ := h
  one h := by rw [h]; intro u hu; cases hu
structure TyR where
  α : Type
  inst : Dt α
def tyOf (t : Nat) : TyR := bif Nat.beq t 4 then ⟨Bool, inferInstance⟩ else bif Nat.beq t 3 then ⟨Int, inferInstance⟩ else bif Nat.beq t 49 then ⟨Sec, inferInstance⟩ else bif Nat.beq t 45 then ⟨api_Write, inferInstance⟩ else bif Nat.beq t 69 then ⟨api_HistoryEvent, inferInstance⟩ else bif Nat.beq t 26 then ⟨api_History, inferInstance⟩ else bif Nat.beq t 43 then ⟨List Sec, inferInstance⟩ else bif Nat.beq t 28 then ⟨List (List Sec), inferInstance⟩ else bif Nat.beq t 5 then ⟨BitVec 8, inferInstance⟩ else bif Nat.beq t 66 then ⟨List (BitVec 8), inferInstance⟩ else bif Nat.beq t 22 then ⟨List Int, inferInstance⟩ else bif Nat.beq t 31 then ⟨Int, inferInstance⟩ else bif Nat.beq t 123 then ⟨history_checked, inferInstance⟩ else bif Nat.beq t 27 then ⟨List (List Sec), inferInstance⟩ else bif Nat.beq t 161 then ⟨Ptr history_checked, inferInstance⟩ else bif Nat.beq t 88 then ⟨consistency_content, inferInstance⟩ else bif Nat.beq t 85 then ⟨consistency_place, inferInstance⟩ else bif Nat.beq t 105 then ⟨List Bool, inferInstance⟩ else bif Nat.beq t 102 then ⟨List (List Bool), inferInstance⟩ else bif Nat.beq t 165 then ⟨BitVec 64, inferInstance⟩ else bif Nat.beq t 171 then ⟨BitVec 64, inferInstance⟩ else bif Nat.beq t 111 then ⟨cut_relation, inferInstance⟩ else bif Nat.beq t 101 then ⟨Ptr cut_relation, inferInstance⟩ else bif Nat.beq t 23 then ⟨List api_Write, inferInstance⟩ else bif Nat.beq t 24 then ⟨List api_HistoryEvent, inferInstance⟩ else bif Nat.beq t 96 then ⟨List Bool, inferInstance⟩ else bif Nat.beq t 117 then ⟨List (List Bool), inferInstance⟩ else ⟨Unit, dtUnit⟩
abbrev DD (t : Nat) : Type := (tyOf t).α
instance dtDD (t : Nat) : Dt (DD t) := (tyOf t).inst
def xI : SV DD → Option Int
  | .i .i64 n => some n
  | _ => none
def xW : SV DD → Option (BitVec 64)
  | .w x => some x
  | _ => none
def xY : SV DD → Option (BitVec 8)
  | .y x => some x
  | _ => none
def xS (e : Nat) : SV DD → Option (List (DD e))
  | .fsl e' xs => castL e' e xs
  | .nil => some []
  | _ => none
theorem xI_cq {a : SV DD} {n : Int} (h : xI a = some n) : CQ a (.i .i64 n) := by
  unfold xI at h
  split at h
  · cases h; exact .inr ⟨rfl, rfl, fun _ _ _ h => h⟩
  · cases h
theorem xW_cq {a : SV DD} {n : BitVec 64} (h : xW a = some n) : CQ a (.w n) := by
  unfold xW at h
  split at h
  · cases h; exact .inr ⟨rfl, rfl, fun _ _ _ h => h⟩
  · cases h
theorem xY_cq {a : SV DD} {n : BitVec 8} (h : xY a = some n) : CQ a (.y n) := by
  unfold xY at h
  split at h
  · cases h; exact .inr ⟨rfl, rfl, fun _ _ _ h => h⟩
  · cases h
theorem xB_cq {a : SV DD} {n : Bool} (h : boolOf a = some n) : CQ a (.b n) := by
  cases a <;> first | (cases h; exact .inr ⟨rfl, rfl, fun _ _ _ h => h⟩) | cases h
theorem xS_cq {e : Nat} {a : SV DD} {n : List (DD e)} (h : xS e a = some n) : CQ a (.fsl e n) := by
  unfold xS at h
  split at h
  · obtain ⟨he, h1⟩ := castL_ok h
    subst he
    subst h1
    exact .inl ⟨_, _, rfl, .inl rfl⟩
  · cases h; exact .inl ⟨_, _, rfl, .inr ⟨rfl, rfl⟩⟩
  · cases h
theorem bindS {α β : Type} {o : Option α} {f : α → Option β} {x : β} (h : o.bind f = some x) : ∃ v, o = some v ∧ f v = some x := Option.bind_eq_some_iff.1 h
def ofc4 : List (SV DD) → Option (DD 4)
  | [a0] => (boolOf a0).bind fun v0 => some v0
  | _ => none
def ce4 : CE DD := ⟨4, fun x => [.b (x)], ofc4, none⟩
theorem ceOk4 : ce4.Ok where
  rdi := @fun H ρ cs x => ⟨fun h => by
    obtain h := (show Dt.rd (α := Bool) H cs x from h)
    subst h
    exact ⟨_, _, rfl, rfl, rfl⟩, fun h => by
    obtain ⟨v0, r0, e0, p0, e⟩ := h
    have e : r0 = [] := e
    subst e
    subst e0
    have p0 : v0 = _ := p0
    subst p0
    exact (show Dt.rd (α := Bool) H _ x from rfl)⟩
  cq := @fun l x h => by
    change ofc4 l = some x at h
    unfold ofc4 at h
    split at h
    · obtain ⟨v0, h0, h⟩ := bindS h
      cases h
      exact ⟨_, _, rfl, xB_cq h0, rfl⟩
    · cases h
  eqc := fun d a b c1 c2 hd h1 h2 => by cases hd
def ofc3 : List (SV DD) → Option (DD 3)
  | [a0] => (xI a0).bind fun v0 => some v0
  | _ => none
def ce3 : CE DD := ⟨3, fun x => [.i .i64 (x)], ofc3, some (inferInstanceAs (DecidableEq Int))⟩
theorem sc3 (a b : Int) : (([.i .i64 (a)] : List Sc) = [.i .i64 (b)]) ↔ a = b := ⟨(Dt.ksOk (α := Int) _ _ rfl).2.2 a b, fun h => by rw [h]⟩
theorem ceOk3 : ce3.Ok where
  rdi := @fun H ρ cs x => ⟨fun h => by
    obtain h := (show Dt.rd (α := Int) H cs x from h)
    subst h
    exact ⟨_, _, rfl, rfl, rfl⟩, fun h => by
    obtain ⟨v0, r0, e0, p0, e⟩ := h
    have e : r0 = [] := e
    subst e
    subst e0
    have p0 : v0 = _ := p0
    subst p0
    exact (show Dt.rd (α := Int) H _ x from rfl)⟩
  cq := @fun l x h => by
    change ofc3 l = some x at h
    unfold ofc3 at h
    split at h
    · obtain ⟨v0, h0, h⟩ := bindS h
      cases h
      exact ⟨_, _, rfl, xI_cq h0, rfl⟩
    · cases h
  eqc := fun d a b c1 c2 hd h1 h2 => by
    cases h1; cases h2
    exact sc3 a b
def ofc49 : List (SV DD) → Option (DD 49)
  | [a0, a1, a2, a3, a4, a5, a6, a7] => (xY a0).bind fun v0 => (xY a1).bind fun v1 => (xY a2).bind fun v2 => (xY a3).bind fun v3 => (xY a4).bind fun v4 => (xY a5).bind fun v5 => (xY a6).bind fun v6 => (xY a7).bind fun v7 => some ⟨v0, v1, v2, v3, v4, v5, v6, v7⟩
  | _ => none
def ce49 : CE DD := ⟨49, fun x => [.y (x.b0), .y (x.b1), .y (x.b2), .y (x.b3), .y (x.b4), .y (x.b5), .y (x.b6), .y (x.b7)], ofc49, some (inferInstanceAs (DecidableEq Sec))⟩
theorem sc49 (a b : Sec) : (([.i .u8 ((a.b0).toNat : Int), .i .u8 ((a.b1).toNat : Int), .i .u8 ((a.b2).toNat : Int), .i .u8 ((a.b3).toNat : Int), .i .u8 ((a.b4).toNat : Int), .i .u8 ((a.b5).toNat : Int), .i .u8 ((a.b6).toNat : Int), .i .u8 ((a.b7).toNat : Int)] : List Sc) = [.i .u8 ((b.b0).toNat : Int), .i .u8 ((b.b1).toNat : Int), .i .u8 ((b.b2).toNat : Int), .i .u8 ((b.b3).toNat : Int), .i .u8 ((b.b4).toNat : Int), .i .u8 ((b.b5).toNat : Int), .i .u8 ((b.b6).toNat : Int), .i .u8 ((b.b7).toNat : Int)]) ↔ a = b := by
  cases a; cases b; simp [← BitVec.toNat_inj]; omega
theorem ceOk49 : ce49.Ok where
  rdi := @fun H ρ cs x => ⟨fun h => by
    obtain h := (show Dt.rd (α := Sec) H cs x from h)
    subst h
    exact ⟨_, _, rfl, rfl, _, _, rfl, rfl, _, _, rfl, rfl, _, _, rfl, rfl, _, _, rfl, rfl, _, _, rfl, rfl, _, _, rfl, rfl, _, _, rfl, rfl, rfl⟩, fun h => by
    obtain ⟨v0, r0, e0, p0, v1, r1, e1, p1, v2, r2, e2, p2, v3, r3, e3, p3, v4, r4, e4, p4, v5, r5, e5, p5, v6, r6, e6, p6, v7, r7, e7, p7, e⟩ := h
    have e : r7 = [] := e
    subst e
    subst e7
    subst e6
    subst e5
    subst e4
    subst e3
    subst e2
    subst e1
    subst e0
    have p0 : v0 = _ := p0
    subst p0
    have p1 : v1 = _ := p1
    subst p1
    have p2 : v2 = _ := p2
    subst p2
    have p3 : v3 = _ := p3
    subst p3
    have p4 : v4 = _ := p4
    subst p4
    have p5 : v5 = _ := p5
    subst p5
    have p6 : v6 = _ := p6
    subst p6
    have p7 : v7 = _ := p7
    subst p7
    exact (show Dt.rd (α := Sec) H _ x from rfl)⟩
  cq := @fun l x h => by
    change ofc49 l = some x at h
    unfold ofc49 at h
    split at h
    · obtain ⟨v0, h0, h⟩ := bindS h
      obtain ⟨v1, h1, h⟩ := bindS h
      obtain ⟨v2, h2, h⟩ := bindS h
      obtain ⟨v3, h3, h⟩ := bindS h
      obtain ⟨v4, h4, h⟩ := bindS h
      obtain ⟨v5, h5, h⟩ := bindS h
      obtain ⟨v6, h6, h⟩ := bindS h
      obtain ⟨v7, h7, h⟩ := bindS h
      cases h
      exact ⟨_, _, rfl, xY_cq h0, _, _, rfl, xY_cq h1, _, _, rfl, xY_cq h2, _, _, rfl, xY_cq h3, _, _, rfl, xY_cq h4, _, _, rfl, xY_cq h5, _, _, rfl, xY_cq h6, _, _, rfl, xY_cq h7, rfl⟩
    · cases h
  eqc := fun d a b c1 c2 hd h1 h2 => by
    cases h1; cases h2
    exact sc49 a b
def ofc45 : List (SV DD) → Option (DD 45)
  | [a0, a1, a2] => (xI a0).bind fun v0 => (xI a1).bind fun v1 => (xS 49 a2).bind fun v2 => some ⟨v0, v1, v2⟩
  | _ => none
def ce45 : CE DD := ⟨45, fun x => [.i .i64 (x.Volume), .i .i64 (x.Start), .fsl 49 (x.Data)], ofc45, none⟩
theorem ceOk45 : ce45.Ok where
  rdi := @fun H ρ cs x => ⟨fun h => by
    obtain ⟨A0, n0, c0, s0, h, h0⟩ := (show Dt.rd (α := api_Write) H cs x from h)
    subst h
    exact ⟨_, _, rfl, rfl, _, _, rfl, rfl, _, _, rfl, ⟨A0, n0, c0, s0, rfl, h0⟩, rfl⟩, fun h => by
    obtain ⟨v0, r0, e0, p0, v1, r1, e1, p1, v2, r2, e2, ⟨A0, n0, c0, s0, p2, h0⟩, e⟩ := h
    have e : r2 = [] := e
    subst e
    subst e2
    subst e1
    subst e0
    have p0 : v0 = _ := p0
    subst p0
    have p1 : v1 = _ := p1
    subst p1
    subst p2
    exact (show Dt.rd (α := api_Write) H _ x from ⟨A0, n0, c0, s0, rfl, h0⟩)⟩
  cq := @fun l x h => by
    change ofc45 l = some x at h
    unfold ofc45 at h
    split at h
    · obtain ⟨v0, h0, h⟩ := bindS h
      obtain ⟨v1, h1, h⟩ := bindS h
      obtain ⟨v2, h2, h⟩ := bindS h
      cases h
      exact ⟨_, _, rfl, xI_cq h0, _, _, rfl, xI_cq h1, _, _, rfl, xS_cq h2, rfl⟩
    · cases h
  eqc := fun d a b c1 c2 hd h1 h2 => by cases hd
def ofc69 : List (SV DD) → Option (DD 69)
  | [a0, a1] => (xI a0).bind fun v0 => (xI a1).bind fun v1 => some ⟨v0, v1⟩
  | _ => none
def ce69 : CE DD := ⟨69, fun x => [.i .i64 (x.Kind), .i .i64 (x.Write)], ofc69, some (inferInstanceAs (DecidableEq api_HistoryEvent))⟩
theorem sc69 (a b : api_HistoryEvent) : (([.i .i64 (a.Kind), .i .i64 (a.Write)] : List Sc) = [.i .i64 (b.Kind), .i .i64 (b.Write)]) ↔ a = b := by
  cases a; cases b; simp
theorem ceOk69 : ce69.Ok where
  rdi := @fun H ρ cs x => ⟨fun h => by
    obtain h := (show Dt.rd (α := api_HistoryEvent) H cs x from h)
    subst h
    exact ⟨_, _, rfl, rfl, _, _, rfl, rfl, rfl⟩, fun h => by
    obtain ⟨v0, r0, e0, p0, v1, r1, e1, p1, e⟩ := h
    have e : r1 = [] := e
    subst e
    subst e1
    subst e0
    have p0 : v0 = _ := p0
    subst p0
    have p1 : v1 = _ := p1
    subst p1
    exact (show Dt.rd (α := api_HistoryEvent) H _ x from rfl)⟩
  cq := @fun l x h => by
    change ofc69 l = some x at h
    unfold ofc69 at h
    split at h
    · obtain ⟨v0, h0, h⟩ := bindS h
      obtain ⟨v1, h1, h⟩ := bindS h
      cases h
      exact ⟨_, _, rfl, xI_cq h0, _, _, rfl, xI_cq h1, rfl⟩
    · cases h
  eqc := fun d a b c1 c2 hd h1 h2 => by
    cases h1; cases h2
    exact sc69 a b
def ofc26 : List (SV DD) → Option (DD 26)
  | [a0, a1, a2] => (xS 3 a0).bind fun v0 => (xS 45 a1).bind fun v1 => (xS 69 a2).bind fun v2 => some ⟨v0, v1, v2⟩
  | _ => none
def ce26 : CE DD := ⟨26, fun x => [.fsl 3 (x.Sizes), .fsl 45 (x.Writes), .fsl 69 (x.Events)], ofc26, none⟩
theorem ceOk26 : ce26.Ok where
  rdi := @fun H ρ cs x => ⟨fun h => by
    obtain ⟨A0, n0, c0, s0, A1, n1, c1, s1, A2, n2, c2, s2, h, h0, h1, h2⟩ := (show Dt.rd (α := api_History) H cs x from h)
    subst h
    exact ⟨_, _, rfl, ⟨A0, n0, c0, s0, rfl, h0⟩, _, _, rfl, ⟨A1, n1, c1, s1, rfl, h1⟩, _, _, rfl, ⟨A2, n2, c2, s2, rfl, h2⟩, rfl⟩, fun h => by
    obtain ⟨v0, r0, e0, ⟨A0, n0, c0, s0, p0, h0⟩, v1, r1, e1, ⟨A1, n1, c1, s1, p1, h1⟩, v2, r2, e2, ⟨A2, n2, c2, s2, p2, h2⟩, e⟩ := h
    have e : r2 = [] := e
    subst e
    subst e2
    subst e1
    subst e0
    subst p0
    subst p1
    subst p2
    exact (show Dt.rd (α := api_History) H _ x from ⟨A0, n0, c0, s0, A1, n1, c1, s1, A2, n2, c2, s2, rfl, h0, h1, h2⟩)⟩
  cq := @fun l x h => by
    change ofc26 l = some x at h
    unfold ofc26 at h
    split at h
    · obtain ⟨v0, h0, h⟩ := bindS h
      obtain ⟨v1, h1, h⟩ := bindS h
      obtain ⟨v2, h2, h⟩ := bindS h
      cases h
      exact ⟨_, _, rfl, xS_cq h0, _, _, rfl, xS_cq h1, _, _, rfl, xS_cq h2, rfl⟩
    · cases h
  eqc := fun d a b c1 c2 hd h1 h2 => by cases hd
def ofc43 : List (SV DD) → Option (DD 43)
  | [a0] => (xS 49 a0).bind fun v0 => some v0
  | _ => none
def ce43 : CE DD := ⟨43, fun x => [.fsl 49 (x)], ofc43, none⟩
theorem ceOk43 : ce43.Ok where
  rdi := @fun H ρ cs x => ⟨fun h => by
    obtain ⟨A0, n0, c0, s0, h, h0⟩ := (show Dt.rd (α := List Sec) H cs x from h)
    subst h
    exact ⟨_, _, rfl, ⟨A0, n0, c0, s0, rfl, h0⟩, rfl⟩, fun h => by
    obtain ⟨v0, r0, e0, ⟨A0, n0, c0, s0, p0, h0⟩, e⟩ := h
    have e : r0 = [] := e
    subst e
    subst e0
    subst p0
    exact (show Dt.rd (α := List Sec) H _ x from ⟨A0, n0, c0, s0, rfl, h0⟩)⟩
  cq := @fun l x h => by
    change ofc43 l = some x at h
    unfold ofc43 at h
    split at h
    · obtain ⟨v0, h0, h⟩ := bindS h
      cases h
      exact ⟨_, _, rfl, xS_cq h0, rfl⟩
    · cases h
  eqc := fun d a b c1 c2 hd h1 h2 => by cases hd
def ofc28 : List (SV DD) → Option (DD 28)
  | [a0] => (xS 43 a0).bind fun v0 => some v0
  | _ => none
def ce28 : CE DD := ⟨28, fun x => [.fsl 43 (x)], ofc28, none⟩
theorem ceOk28 : ce28.Ok where
  rdi := @fun H ρ cs x => ⟨fun h => by
    obtain ⟨A0, n0, c0, s0, h, h0⟩ := (show Dt.rd (α := List (List Sec)) H cs x from h)
    subst h
    exact ⟨_, _, rfl, ⟨A0, n0, c0, s0, rfl, h0⟩, rfl⟩, fun h => by
    obtain ⟨v0, r0, e0, ⟨A0, n0, c0, s0, p0, h0⟩, e⟩ := h
    have e : r0 = [] := e
    subst e
    subst e0
    subst p0
    exact (show Dt.rd (α := List (List Sec)) H _ x from ⟨A0, n0, c0, s0, rfl, h0⟩)⟩
  cq := @fun l x h => by
    change ofc28 l = some x at h
    unfold ofc28 at h
    split at h
    · obtain ⟨v0, h0, h⟩ := bindS h
      cases h
      exact ⟨_, _, rfl, xS_cq h0, rfl⟩
    · cases h
  eqc := fun d a b c1 c2 hd h1 h2 => by cases hd
def ofc5 : List (SV DD) → Option (DD 5)
  | [a0] => (xY a0).bind fun v0 => some v0
  | _ => none
def ce5 : CE DD := ⟨5, fun x => [.y (x)], ofc5, none⟩
theorem ceOk5 : ce5.Ok where
  rdi := @fun H ρ cs x => ⟨fun h => by
    obtain h := (show Dt.rd (α := BitVec 8) H cs x from h)
    subst h
    exact ⟨_, _, rfl, rfl, rfl⟩, fun h => by
    obtain ⟨v0, r0, e0, p0, e⟩ := h
    have e : r0 = [] := e
    subst e
    subst e0
    have p0 : v0 = _ := p0
    subst p0
    exact (show Dt.rd (α := BitVec 8) H _ x from rfl)⟩
  cq := @fun l x h => by
    change ofc5 l = some x at h
    unfold ofc5 at h
    split at h
    · obtain ⟨v0, h0, h⟩ := bindS h
      cases h
      exact ⟨_, _, rfl, xY_cq h0, rfl⟩
    · cases h
  eqc := fun d a b c1 c2 hd h1 h2 => by cases hd
def ofc66 : List (SV DD) → Option (DD 66)
  | [a0] => (xS 5 a0).bind fun v0 => some v0
  | _ => none
def ce66 : CE DD := ⟨66, fun x => [.fsl 5 (x)], ofc66, none⟩
theorem ceOk66 : ce66.Ok where
  rdi := @fun H ρ cs x => ⟨fun h => by
    obtain ⟨A0, n0, c0, s0, h, h0⟩ := (show Dt.rd (α := List (BitVec 8)) H cs x from h)
    subst h
    exact ⟨_, _, rfl, ⟨A0, n0, c0, s0, rfl, h0⟩, rfl⟩, fun h => by
    obtain ⟨v0, r0, e0, ⟨A0, n0, c0, s0, p0, h0⟩, e⟩ := h
    have e : r0 = [] := e
    subst e
    subst e0
    subst p0
    exact (show Dt.rd (α := List (BitVec 8)) H _ x from ⟨A0, n0, c0, s0, rfl, h0⟩)⟩
  cq := @fun l x h => by
    change ofc66 l = some x at h
    unfold ofc66 at h
    split at h
    · obtain ⟨v0, h0, h⟩ := bindS h
      cases h
      exact ⟨_, _, rfl, xS_cq h0, rfl⟩
    · cases h
  eqc := fun d a b c1 c2 hd h1 h2 => by cases hd
def ofc22 : List (SV DD) → Option (DD 22)
  | [a0] => (xS 3 a0).bind fun v0 => some v0
  | _ => none
def ce22 : CE DD := ⟨22, fun x => [.fsl 3 (x)], ofc22, none⟩
theorem ceOk22 : ce22.Ok where
  rdi := @fun H ρ cs x => ⟨fun h => by
    obtain ⟨A0, n0, c0, s0, h, h0⟩ := (show Dt.rd (α := List Int) H cs x from h)
    subst h
    exact ⟨_, _, rfl, ⟨A0, n0, c0, s0, rfl, h0⟩, rfl⟩, fun h => by
    obtain ⟨v0, r0, e0, ⟨A0, n0, c0, s0, p0, h0⟩, e⟩ := h
    have e : r0 = [] := e
    subst e
    subst e0
    subst p0
    exact (show Dt.rd (α := List Int) H _ x from ⟨A0, n0, c0, s0, rfl, h0⟩)⟩
  cq := @fun l x h => by
    change ofc22 l = some x at h
    unfold ofc22 at h
    split at h
    · obtain ⟨v0, h0, h⟩ := bindS h
      cases h
      exact ⟨_, _, rfl, xS_cq h0, rfl⟩
    · cases h
  eqc := fun d a b c1 c2 hd h1 h2 => by cases hd
def ofc31 : List (SV DD) → Option (DD 31)
  | [a0] => (xI a0).bind fun v0 => some v0
  | _ => none
def ce31 : CE DD := ⟨31, fun x => [.i .i64 (x)], ofc31, none⟩
theorem ceOk31 : ce31.Ok where
  rdi := @fun H ρ cs x => ⟨fun h => by
    obtain h := (show Dt.rd (α := Int) H cs x from h)
    subst h
    exact ⟨_, _, rfl, rfl, rfl⟩, fun h => by
    obtain ⟨v0, r0, e0, p0, e⟩ := h
    have e : r0 = [] := e
    subst e
    subst e0
    have p0 : v0 = _ := p0
    subst p0
    exact (show Dt.rd (α := Int) H _ x from rfl)⟩
  cq := @fun l x h => by
    change ofc31 l = some x at h
    unfold ofc31 at h
    split at h
    · obtain ⟨v0, h0, h⟩ := bindS h
      cases h
      exact ⟨_, _, rfl, xI_cq h0, rfl⟩
    · cases h
  eqc := fun d a b c1 c2 hd h1 h2 => by cases hd
def ofc123 : List (SV DD) → Option (DD 123)
  | [a0, a1, a2, a3, a4] => (xS 3 a0).bind fun v0 => (xS 45 a1).bind fun v1 => (xS 69 a2).bind fun v2 => (xS 3 a3).bind fun v3 => (xS 3 a4).bind fun v4 => some ⟨⟨v0, v1, v2⟩, ⟨v3, v4⟩⟩
  | _ => none
def ce123 : CE DD := ⟨123, fun x => [.fsl 3 (x.History.Sizes), .fsl 45 (x.History.Writes), .fsl 69 (x.History.Events), .fsl 3 (x.timeline.issued), .fsl 3 (x.timeline.acked)], ofc123, none⟩
theorem ceOk123 : ce123.Ok where
  rdi := @fun H ρ cs x => ⟨fun h => by
    obtain ⟨A0, n0, c0, s0, A1, n1, c1, s1, A2, n2, c2, s2, A3, n3, c3, s3, A4, n4, c4, s4, h, h0, h1, h2, h3, h4⟩ := (show Dt.rd (α := history_checked) H cs x from h)
    subst h
    exact ⟨_, _, rfl, ⟨A0, n0, c0, s0, rfl, h0⟩, _, _, rfl, ⟨A1, n1, c1, s1, rfl, h1⟩, _, _, rfl, ⟨A2, n2, c2, s2, rfl, h2⟩, _, _, rfl, ⟨A3, n3, c3, s3, rfl, h3⟩, _, _, rfl, ⟨A4, n4, c4, s4, rfl, h4⟩, rfl⟩, fun h => by
    obtain ⟨v0, r0, e0, ⟨A0, n0, c0, s0, p0, h0⟩, v1, r1, e1, ⟨A1, n1, c1, s1, p1, h1⟩, v2, r2, e2, ⟨A2, n2, c2, s2, p2, h2⟩, v3, r3, e3, ⟨A3, n3, c3, s3, p3, h3⟩, v4, r4, e4, ⟨A4, n4, c4, s4, p4, h4⟩, e⟩ := h
    have e : r4 = [] := e
    subst e
    subst e4
    subst e3
    subst e2
    subst e1
    subst e0
    subst p0
    subst p1
    subst p2
    subst p3
    subst p4
    exact (show Dt.rd (α := history_checked) H _ x from ⟨A0, n0, c0, s0, A1, n1, c1, s1, A2, n2, c2, s2, A3, n3, c3, s3, A4, n4, c4, s4, rfl, h0, h1, h2, h3, h4⟩)⟩
  cq := @fun l x h => by
    change ofc123 l = some x at h
    unfold ofc123 at h
    split at h
    · obtain ⟨v0, h0, h⟩ := bindS h
      obtain ⟨v1, h1, h⟩ := bindS h
      obtain ⟨v2, h2, h⟩ := bindS h
      obtain ⟨v3, h3, h⟩ := bindS h
      obtain ⟨v4, h4, h⟩ := bindS h
      cases h
      exact ⟨_, _, rfl, xS_cq h0, _, _, rfl, xS_cq h1, _, _, rfl, xS_cq h2, _, _, rfl, xS_cq h3, _, _, rfl, xS_cq h4, rfl⟩
    · cases h
  eqc := fun d a b c1 c2 hd h1 h2 => by cases hd
def ofc27 : List (SV DD) → Option (DD 27)
  | [a0] => (xS 43 a0).bind fun v0 => some v0
  | _ => none
def ce27 : CE DD := ⟨27, fun x => [.fsl 43 (x)], ofc27, none⟩
theorem ceOk27 : ce27.Ok where
  rdi := @fun H ρ cs x => ⟨fun h => by
    obtain ⟨A0, n0, c0, s0, h, h0⟩ := (show Dt.rd (α := List (List Sec)) H cs x from h)
    subst h
    exact ⟨_, _, rfl, ⟨A0, n0, c0, s0, rfl, h0⟩, rfl⟩, fun h => by
    obtain ⟨v0, r0, e0, ⟨A0, n0, c0, s0, p0, h0⟩, e⟩ := h
    have e : r0 = [] := e
    subst e
    subst e0
    subst p0
    exact (show Dt.rd (α := List (List Sec)) H _ x from ⟨A0, n0, c0, s0, rfl, h0⟩)⟩
  cq := @fun l x h => by
    change ofc27 l = some x at h
    unfold ofc27 at h
    split at h
    · obtain ⟨v0, h0, h⟩ := bindS h
      cases h
      exact ⟨_, _, rfl, xS_cq h0, rfl⟩
    · cases h
  eqc := fun d a b c1 c2 hd h1 h2 => by cases hd
def ofc161 : List (SV DD) → Option (DD 161)
  | [.fel e xs i off] => match castL e 123 xs with
    | some [x] => bif decide (i = 0) && Nat.beq off 0 then some ⟨x⟩ else none
    | _ => none
  | _ => none
def ce161 : CE DD := ⟨161, fun x => [.fel 123 [x.val] 0 0], ofc161, none⟩
theorem ceOk161 : ce161.Ok where
  rdi := @fun H ρ cs x => ⟨fun h => by
    obtain ⟨A, n, c, s, h, h1⟩ := (show Dt.rd (α := Ptr history_checked) H cs x from h)
    exact ⟨_, [], h, ⟨A, n, c, s, rfl, h1, Int.le_refl _, by show (0 : Int) < ((1 : Nat) : Int); decide⟩, rfl⟩, fun h => by
    obtain ⟨v, r, e, ⟨A, n, c, s, h, h1, _⟩, e2⟩ := h
    have e2 : r = [] := e2
    subst e2
    subst e
    subst h
    exact (show Dt.rd (α := Ptr history_checked) H _ x from ⟨A, n, c, s, rfl, h1⟩)⟩
  cq := @fun l x h => by
    change ofc161 l = some x at h
    unfold ofc161 at h
    split at h
    · split at h
      · rename_i e xs i off y hc
        obtain ⟨hb, h⟩ := cif h
        cases h
        obtain ⟨he, h1⟩ := castL_ok hc
        subst he
        subst h1
        rw [Bool.and_eq_true] at hb
        obtain ⟨hb1, hb2⟩ := hb
        have hb1 := of_decide_eq_true hb1
        have hb2 := Nat.eq_of_beq_eq_true hb2
        subst hb1
        subst hb2
        exact ⟨_, _, rfl, .inr ⟨rfl, rfl, fun _ _ _ h => h⟩, rfl⟩
      · cases h
    · cases h
  eqc := fun d a b c1 c2 hd h1 h2 => by cases hd
def ofc88 : List (SV DD) → Option (DD 88)
  | [a0, a1, a2, a3, a4, a5, a6, a7, a8, a9] => (xI a0).bind fun v0 => (xI a1).bind fun v1 => (xY a2).bind fun v2 => (xY a3).bind fun v3 => (xY a4).bind fun v4 => (xY a5).bind fun v5 => (xY a6).bind fun v6 => (xY a7).bind fun v7 => (xY a8).bind fun v8 => (xY a9).bind fun v9 => some ⟨⟨v0, v1⟩, ⟨v2, v3, v4, v5, v6, v7, v8, v9⟩⟩
  | _ => none
def ce88 : CE DD := ⟨88, fun x => [.i .i64 (x.place.volume), .i .i64 (x.place.sector), .y (x.data.b0), .y (x.data.b1), .y (x.data.b2), .y (x.data.b3), .y (x.data.b4), .y (x.data.b5), .y (x.data.b6), .y (x.data.b7)], ofc88, some (inferInstanceAs (DecidableEq consistency_content))⟩
theorem sc88 (a b : consistency_content) : (([.i .i64 (a.place.volume), .i .i64 (a.place.sector), .i .u8 ((a.data.b0).toNat : Int), .i .u8 ((a.data.b1).toNat : Int), .i .u8 ((a.data.b2).toNat : Int), .i .u8 ((a.data.b3).toNat : Int), .i .u8 ((a.data.b4).toNat : Int), .i .u8 ((a.data.b5).toNat : Int), .i .u8 ((a.data.b6).toNat : Int), .i .u8 ((a.data.b7).toNat : Int)] : List Sc) = [.i .i64 (b.place.volume), .i .i64 (b.place.sector), .i .u8 ((b.data.b0).toNat : Int), .i .u8 ((b.data.b1).toNat : Int), .i .u8 ((b.data.b2).toNat : Int), .i .u8 ((b.data.b3).toNat : Int), .i .u8 ((b.data.b4).toNat : Int), .i .u8 ((b.data.b5).toNat : Int), .i .u8 ((b.data.b6).toNat : Int), .i .u8 ((b.data.b7).toNat : Int)]) ↔ a = b := ⟨(Dt.ksOk (α := consistency_content) _ _ rfl).2.2 a b, fun h => by rw [h]⟩
theorem ceOk88 : ce88.Ok where
  rdi := @fun H ρ cs x => ⟨fun h => by
    obtain h := (show Dt.rd (α := consistency_content) H cs x from h)
    subst h
    exact ⟨_, _, rfl, rfl, _, _, rfl, rfl, _, _, rfl, rfl, _, _, rfl, rfl, _, _, rfl, rfl, _, _, rfl, rfl, _, _, rfl, rfl, _, _, rfl, rfl, _, _, rfl, rfl, _, _, rfl, rfl, rfl⟩, fun h => by
    obtain ⟨v0, r0, e0, p0, v1, r1, e1, p1, v2, r2, e2, p2, v3, r3, e3, p3, v4, r4, e4, p4, v5, r5, e5, p5, v6, r6, e6, p6, v7, r7, e7, p7, v8, r8, e8, p8, v9, r9, e9, p9, e⟩ := h
    have e : r9 = [] := e
    subst e
    subst e9
    subst e8
    subst e7
    subst e6
    subst e5
    subst e4
    subst e3
    subst e2
    subst e1
    subst e0
    have p0 : v0 = _ := p0
    subst p0
    have p1 : v1 = _ := p1
    subst p1
    have p2 : v2 = _ := p2
    subst p2
    have p3 : v3 = _ := p3
    subst p3
    have p4 : v4 = _ := p4
    subst p4
    have p5 : v5 = _ := p5
    subst p5
    have p6 : v6 = _ := p6
    subst p6
    have p7 : v7 = _ := p7
    subst p7
    have p8 : v8 = _ := p8
    subst p8
    have p9 : v9 = _ := p9
    subst p9
    exact (show Dt.rd (α := consistency_content) H _ x from rfl)⟩
  cq := @fun l x h => by
    change ofc88 l = some x at h
    unfold ofc88 at h
    split at h
    · obtain ⟨v0, h0, h⟩ := bindS h
      obtain ⟨v1, h1, h⟩ := bindS h
      obtain ⟨v2, h2, h⟩ := bindS h
      obtain ⟨v3, h3, h⟩ := bindS h
      obtain ⟨v4, h4, h⟩ := bindS h
      obtain ⟨v5, h5, h⟩ := bindS h
      obtain ⟨v6, h6, h⟩ := bindS h
      obtain ⟨v7, h7, h⟩ := bindS h
      obtain ⟨v8, h8, h⟩ := bindS h
      obtain ⟨v9, h9, h⟩ := bindS h
      cases h
      exact ⟨_, _, rfl, xI_cq h0, _, _, rfl, xI_cq h1, _, _, rfl, xY_cq h2, _, _, rfl, xY_cq h3, _, _, rfl, xY_cq h4, _, _, rfl, xY_cq h5, _, _, rfl, xY_cq h6, _, _, rfl, xY_cq h7, _, _, rfl, xY_cq h8, _, _, rfl, xY_cq h9, rfl⟩
    · cases h
  eqc := fun d a b c1 c2 hd h1 h2 => by
    cases h1; cases h2
    exact sc88 a b
def ofc85 : List (SV DD) → Option (DD 85)
  | [a0, a1] => (xI a0).bind fun v0 => (xI a1).bind fun v1 => some ⟨v0, v1⟩
  | _ => none
def ce85 : CE DD := ⟨85, fun x => [.i .i64 (x.volume), .i .i64 (x.sector)], ofc85, some (inferInstanceAs (DecidableEq consistency_place))⟩
theorem sc85 (a b : consistency_place) : (([.i .i64 (a.volume), .i .i64 (a.sector)] : List Sc) = [.i .i64 (b.volume), .i .i64 (b.sector)]) ↔ a = b := by
  cases a; cases b; simp
theorem ceOk85 : ce85.Ok where
  rdi := @fun H ρ cs x => ⟨fun h => by
    obtain h := (show Dt.rd (α := consistency_place) H cs x from h)
    subst h
    exact ⟨_, _, rfl, rfl, _, _, rfl, rfl, rfl⟩, fun h => by
    obtain ⟨v0, r0, e0, p0, v1, r1, e1, p1, e⟩ := h
    have e : r1 = [] := e
    subst e
    subst e1
    subst e0
    have p0 : v0 = _ := p0
    subst p0
    have p1 : v1 = _ := p1
    subst p1
    exact (show Dt.rd (α := consistency_place) H _ x from rfl)⟩
  cq := @fun l x h => by
    change ofc85 l = some x at h
    unfold ofc85 at h
    split at h
    · obtain ⟨v0, h0, h⟩ := bindS h
      obtain ⟨v1, h1, h⟩ := bindS h
      cases h
      exact ⟨_, _, rfl, xI_cq h0, _, _, rfl, xI_cq h1, rfl⟩
    · cases h
  eqc := fun d a b c1 c2 hd h1 h2 => by
    cases h1; cases h2
    exact sc85 a b
def ofc105 : List (SV DD) → Option (DD 105)
  | [a0] => (xS 4 a0).bind fun v0 => some v0
  | _ => none
def ce105 : CE DD := ⟨105, fun x => [.fsl 4 (x)], ofc105, none⟩
theorem ceOk105 : ce105.Ok where
  rdi := @fun H ρ cs x => ⟨fun h => by
    obtain ⟨A0, n0, c0, s0, h, h0⟩ := (show Dt.rd (α := List Bool) H cs x from h)
    subst h
    exact ⟨_, _, rfl, ⟨A0, n0, c0, s0, rfl, h0⟩, rfl⟩, fun h => by
    obtain ⟨v0, r0, e0, ⟨A0, n0, c0, s0, p0, h0⟩, e⟩ := h
    have e : r0 = [] := e
    subst e
    subst e0
    subst p0
    exact (show Dt.rd (α := List Bool) H _ x from ⟨A0, n0, c0, s0, rfl, h0⟩)⟩
  cq := @fun l x h => by
    change ofc105 l = some x at h
    unfold ofc105 at h
    split at h
    · obtain ⟨v0, h0, h⟩ := bindS h
      cases h
      exact ⟨_, _, rfl, xS_cq h0, rfl⟩
    · cases h
  eqc := fun d a b c1 c2 hd h1 h2 => by cases hd
def ofc102 : List (SV DD) → Option (DD 102)
  | [a0] => (xS 105 a0).bind fun v0 => some v0
  | _ => none
def ce102 : CE DD := ⟨102, fun x => [.fsl 105 (x)], ofc102, none⟩
theorem ceOk102 : ce102.Ok where
  rdi := @fun H ρ cs x => ⟨fun h => by
    obtain ⟨A0, n0, c0, s0, h, h0⟩ := (show Dt.rd (α := List (List Bool)) H cs x from h)
    subst h
    exact ⟨_, _, rfl, ⟨A0, n0, c0, s0, rfl, h0⟩, rfl⟩, fun h => by
    obtain ⟨v0, r0, e0, ⟨A0, n0, c0, s0, p0, h0⟩, e⟩ := h
    have e : r0 = [] := e
    subst e
    subst e0
    subst p0
    exact (show Dt.rd (α := List (List Bool)) H _ x from ⟨A0, n0, c0, s0, rfl, h0⟩)⟩
  cq := @fun l x h => by
    change ofc102 l = some x at h
    unfold ofc102 at h
    split at h
    · obtain ⟨v0, h0, h⟩ := bindS h
      cases h
      exact ⟨_, _, rfl, xS_cq h0, rfl⟩
    · cases h
  eqc := fun d a b c1 c2 hd h1 h2 => by cases hd
def ofc165 : List (SV DD) → Option (DD 165)
  | [a0] => (xW a0).bind fun v0 => some v0
  | _ => none
def ce165 : CE DD := ⟨165, fun x => [.w (x)], ofc165, none⟩
theorem ceOk165 : ce165.Ok where
  rdi := @fun H ρ cs x => ⟨fun h => by
    obtain h := (show Dt.rd (α := BitVec 64) H cs x from h)
    subst h
    exact ⟨_, _, rfl, rfl, rfl⟩, fun h => by
    obtain ⟨v0, r0, e0, p0, e⟩ := h
    have e : r0 = [] := e
    subst e
    subst e0
    have p0 : v0 = _ := p0
    subst p0
    exact (show Dt.rd (α := BitVec 64) H _ x from rfl)⟩
  cq := @fun l x h => by
    change ofc165 l = some x at h
    unfold ofc165 at h
    split at h
    · obtain ⟨v0, h0, h⟩ := bindS h
      cases h
      exact ⟨_, _, rfl, xW_cq h0, rfl⟩
    · cases h
  eqc := fun d a b c1 c2 hd h1 h2 => by cases hd
def ofc171 : List (SV DD) → Option (DD 171)
  | [a0] => (xW a0).bind fun v0 => some v0
  | _ => none
def ce171 : CE DD := ⟨171, fun x => [.w (x)], ofc171, none⟩
theorem ceOk171 : ce171.Ok where
  rdi := @fun H ρ cs x => ⟨fun h => by
    obtain h := (show Dt.rd (α := BitVec 64) H cs x from h)
    subst h
    exact ⟨_, _, rfl, rfl, rfl⟩, fun h => by
    obtain ⟨v0, r0, e0, p0, e⟩ := h
    have e : r0 = [] := e
    subst e
    subst e0
    have p0 : v0 = _ := p0
    subst p0
    exact (show Dt.rd (α := BitVec 64) H _ x from rfl)⟩
  cq := @fun l x h => by
    change ofc171 l = some x at h
    unfold ofc171 at h
    split at h
    · obtain ⟨v0, h0, h⟩ := bindS h
      cases h
      exact ⟨_, _, rfl, xW_cq h0, rfl⟩
    · cases h
  eqc := fun d a b c1 c2 hd h1 h2 => by cases hd
def ofc111 : List (SV DD) → Option (DD 111)
  | [a0, a1, a2, a3] => (xI a0).bind fun v0 => (xI a1).bind fun v1 => (xS 3 a2).bind fun v2 => (xS 3 a3).bind fun v3 => some ⟨v0, v1, v2, v3⟩
  | _ => none
def ce111 : CE DD := ⟨111, fun x => [.i .i64 (x.n), .i .i64 (x.never), .fsl 3 (x.issued), .fsl 3 (x.acked)], ofc111, none⟩
theorem ceOk111 : ce111.Ok where
  rdi := @fun H ρ cs x => ⟨fun h => by
    obtain ⟨A0, n0, c0, s0, A1, n1, c1, s1, h, h0, h1⟩ := (show Dt.rd (α := cut_relation) H cs x from h)
    subst h
    exact ⟨_, _, rfl, rfl, _, _, rfl, rfl, _, _, rfl, ⟨A0, n0, c0, s0, rfl, h0⟩, _, _, rfl, ⟨A1, n1, c1, s1, rfl, h1⟩, rfl⟩, fun h => by
    obtain ⟨v0, r0, e0, p0, v1, r1, e1, p1, v2, r2, e2, ⟨A0, n0, c0, s0, p2, h0⟩, v3, r3, e3, ⟨A1, n1, c1, s1, p3, h1⟩, e⟩ := h
    have e : r3 = [] := e
    subst e
    subst e3
    subst e2
    subst e1
    subst e0
    have p0 : v0 = _ := p0
    subst p0
    have p1 : v1 = _ := p1
    subst p1
    subst p2
    subst p3
    exact (show Dt.rd (α := cut_relation) H _ x from ⟨A0, n0, c0, s0, A1, n1, c1, s1, rfl, h0, h1⟩)⟩
  cq := @fun l x h => by
    change ofc111 l = some x at h
    unfold ofc111 at h
    split at h
    · obtain ⟨v0, h0, h⟩ := bindS h
      obtain ⟨v1, h1, h⟩ := bindS h
      obtain ⟨v2, h2, h⟩ := bindS h
      obtain ⟨v3, h3, h⟩ := bindS h
      cases h
      exact ⟨_, _, rfl, xI_cq h0, _, _, rfl, xI_cq h1, _, _, rfl, xS_cq h2, _, _, rfl, xS_cq h3, rfl⟩
    · cases h
  eqc := fun d a b c1 c2 hd h1 h2 => by cases hd
def ofc101 : List (SV DD) → Option (DD 101)
  | [.fel e xs i off] => match castL e 111 xs with
    | some [x] => bif decide (i = 0) && Nat.beq off 0 then some ⟨x⟩ else none
    | _ => none
  | _ => none
def ce101 : CE DD := ⟨101, fun x => [.fel 111 [x.val] 0 0], ofc101, none⟩
theorem ceOk101 : ce101.Ok where
  rdi := @fun H ρ cs x => ⟨fun h => by
    obtain ⟨A, n, c, s, h, h1⟩ := (show Dt.rd (α := Ptr cut_relation) H cs x from h)
    exact ⟨_, [], h, ⟨A, n, c, s, rfl, h1, Int.le_refl _, by show (0 : Int) < ((1 : Nat) : Int); decide⟩, rfl⟩, fun h => by
    obtain ⟨v, r, e, ⟨A, n, c, s, h, h1, _⟩, e2⟩ := h
    have e2 : r = [] := e2
    subst e2
    subst e
    subst h
    exact (show Dt.rd (α := Ptr cut_relation) H _ x from ⟨A, n, c, s, rfl, h1⟩)⟩
  cq := @fun l x h => by
    change ofc101 l = some x at h
    unfold ofc101 at h
    split at h
    · split at h
      · rename_i e xs i off y hc
        obtain ⟨hb, h⟩ := cif h
        cases h
        obtain ⟨he, h1⟩ := castL_ok hc
        subst he
        subst h1
        rw [Bool.and_eq_true] at hb
        obtain ⟨hb1, hb2⟩ := hb
        have hb1 := of_decide_eq_true hb1
        have hb2 := Nat.eq_of_beq_eq_true hb2
        subst hb1
        subst hb2
        exact ⟨_, _, rfl, .inr ⟨rfl, rfl, fun _ _ _ h => h⟩, rfl⟩
      · cases h
    · cases h
  eqc := fun d a b c1 c2 hd h1 h2 => by cases hd
def ofc23 : List (SV DD) → Option (DD 23)
  | [a0] => (xS 45 a0).bind fun v0 => some v0
  | _ => none
def ce23 : CE DD := ⟨23, fun x => [.fsl 45 (x)], ofc23, none⟩
theorem ceOk23 : ce23.Ok where
  rdi := @fun H ρ cs x => ⟨fun h => by
    obtain ⟨A0, n0, c0, s0, h, h0⟩ := (show Dt.rd (α := List api_Write) H cs x from h)
    subst h
    exact ⟨_, _, rfl, ⟨A0, n0, c0, s0, rfl, h0⟩, rfl⟩, fun h => by
    obtain ⟨v0, r0, e0, ⟨A0, n0, c0, s0, p0, h0⟩, e⟩ := h
    have e : r0 = [] := e
    subst e
    subst e0
    subst p0
    exact (show Dt.rd (α := List api_Write) H _ x from ⟨A0, n0, c0, s0, rfl, h0⟩)⟩
  cq := @fun l x h => by
    change ofc23 l = some x at h
    unfold ofc23 at h
    split at h
    · obtain ⟨v0, h0, h⟩ := bindS h
      cases h
      exact ⟨_, _, rfl, xS_cq h0, rfl⟩
    · cases h
  eqc := fun d a b c1 c2 hd h1 h2 => by cases hd
def ofc24 : List (SV DD) → Option (DD 24)
  | [a0] => (xS 69 a0).bind fun v0 => some v0
  | _ => none
def ce24 : CE DD := ⟨24, fun x => [.fsl 69 (x)], ofc24, none⟩
theorem ceOk24 : ce24.Ok where
  rdi := @fun H ρ cs x => ⟨fun h => by
    obtain ⟨A0, n0, c0, s0, h, h0⟩ := (show Dt.rd (α := List api_HistoryEvent) H cs x from h)
    subst h
    exact ⟨_, _, rfl, ⟨A0, n0, c0, s0, rfl, h0⟩, rfl⟩, fun h => by
    obtain ⟨v0, r0, e0, ⟨A0, n0, c0, s0, p0, h0⟩, e⟩ := h
    have e : r0 = [] := e
    subst e
    subst e0
    subst p0
    exact (show Dt.rd (α := List api_HistoryEvent) H _ x from ⟨A0, n0, c0, s0, rfl, h0⟩)⟩
  cq := @fun l x h => by
    change ofc24 l = some x at h
    unfold ofc24 at h
    split at h
    · obtain ⟨v0, h0, h⟩ := bindS h
      cases h
      exact ⟨_, _, rfl, xS_cq h0, rfl⟩
    · cases h
  eqc := fun d a b c1 c2 hd h1 h2 => by cases hd
def ofc96 : List (SV DD) → Option (DD 96)
  | [a0] => (xS 4 a0).bind fun v0 => some v0
  | _ => none
def ce96 : CE DD := ⟨96, fun x => [.fsl 4 (x)], ofc96, none⟩
theorem ceOk96 : ce96.Ok where
  rdi := @fun H ρ cs x => ⟨fun h => by
    obtain ⟨A0, n0, c0, s0, h, h0⟩ := (show Dt.rd (α := List Bool) H cs x from h)
    subst h
    exact ⟨_, _, rfl, ⟨A0, n0, c0, s0, rfl, h0⟩, rfl⟩, fun h => by
    obtain ⟨v0, r0, e0, ⟨A0, n0, c0, s0, p0, h0⟩, e⟩ := h
    have e : r0 = [] := e
    subst e
    subst e0
    subst p0
    exact (show Dt.rd (α := List Bool) H _ x from ⟨A0, n0, c0, s0, rfl, h0⟩)⟩
  cq := @fun l x h => by
    change ofc96 l = some x at h
    unfold ofc96 at h
    split at h
    · obtain ⟨v0, h0, h⟩ := bindS h
      cases h
      exact ⟨_, _, rfl, xS_cq h0, rfl⟩
    · cases h
  eqc := fun d a b c1 c2 hd h1 h2 => by cases hd
def ofc117 : List (SV DD) → Option (DD 117)
  | [a0] => (xS 96 a0).bind fun v0 => some v0
  | _ => none
def ce117 : CE DD := ⟨117, fun x => [.fsl 96 (x)], ofc117, none⟩
theorem ceOk117 : ce117.Ok where
  rdi := @fun H ρ cs x => ⟨fun h => by
    obtain ⟨A0, n0, c0, s0, h, h0⟩ := (show Dt.rd (α := List (List Bool)) H cs x from h)
    subst h
    exact ⟨_, _, rfl, ⟨A0, n0, c0, s0, rfl, h0⟩, rfl⟩, fun h => by
    obtain ⟨v0, r0, e0, ⟨A0, n0, c0, s0, p0, h0⟩, e⟩ := h
    have e : r0 = [] := e
    subst e
    subst e0
    subst p0
    exact (show Dt.rd (α := List (List Bool)) H _ x from ⟨A0, n0, c0, s0, rfl, h0⟩)⟩
  cq := @fun l x h => by
    change ofc117 l = some x at h
    unfold ofc117 at h
    split at h
    · obtain ⟨v0, h0, h⟩ := bindS h
      cases h
      exact ⟨_, _, rfl, xS_cq h0, rfl⟩
    · cases h
  eqc := fun d a b c1 c2 hd h1 h2 => by cases hd
def tab : Tb DD := [ce4, ce3, ce49, ce45, ce69, ce26, ce43, ce28, ce5, ce66, ce22, ce31, ce123, ce27, ce161, ce88, ce85, ce105, ce102, ce165, ce171, ce111, ce101, ce23, ce24, ce96, ce117]
theorem tabOk : TbOk tab := ⟨ceOk4, ceOk3, ceOk49, ceOk45, ceOk69, ceOk26, ceOk43, ceOk28, ceOk5, ceOk66, ceOk22, ceOk31, ceOk123, ceOk27, ceOk161, ceOk88, ceOk85, ceOk105, ceOk102, ceOk165, ceOk171, ceOk111, ceOk101, ceOk23, ceOk24, ceOk96, ceOk117, trivial⟩
theorem rd3 : ReadsD Tryz.prog 3 (Int) := ReadsD.int Tryz.underlying3 (by kernel_rfl)
theorem rd22 : ReadsD Tryz.prog 22 (List Int) := ReadsD.slice Tryz.underlying22 (by kernel_rfl) rd3 (by decide)
theorem rd49 : ReadsD Tryz.prog 49 (Sec) := ReadsD.sec Tryz.underlying49 Tryz.underlying5 (by kernel_rfl) (by kernel_rfl)
theorem rd43 : ReadsD Tryz.prog 43 (List Sec) := ReadsD.slice Tryz.underlying43 (by kernel_rfl) rd49 (by decide)
instance rg_api_Write : Rg api_Write := ⟨fun x => Rg.rg x.Volume ∧ Rg.rg x.Start ∧ Rg.rg x.Data⟩
theorem rd45 : ReadsD Tryz.prog 45 (api_Write) := (@Reads.struct Tryz.prog 45 _ (Int × Int × List Sec × Unit) (@datProd _ _ (datD (Int)) (@datProd _ _ (datD (Int)) (@datProd _ _ (datD (List Sec)) datUnit))) Tryz.underlying45 (by kernel_rfl) (@Fields.cons _ _ _ _ _ _ (datD (Int)) _ rfl rd3 (@Fields.cons _ _ _ _ _ _ (datD (Int)) _ rfl rd3 (@Fields.cons _ _ _ _ _ _ (datD (List Sec)) _ rfl rd43 (.nil _))))).map rfl fun {H cs a} h => by
  obtain ⟨a0, a1, a2, _⟩ := a
  obtain ⟨_, _, rfl, ⟨rfl, r0⟩, _, _, rfl, ⟨rfl, r1⟩, _, _, rfl, ⟨⟨A3, n3, c3, s3, rfl, hF3⟩, r2⟩, hz⟩ := h
  cases hz
  exact ⟨⟨a0, a1, a2⟩, ⟨A3, n3, c3, s3, rfl, hF3⟩, r0, r1, r2⟩
theorem rd23 : ReadsD Tryz.prog 23 (List api_Write) := ReadsD.slice Tryz.underlying23 (by kernel_rfl) rd45 (by decide)
instance rg_api_HistoryEvent : Rg api_HistoryEvent := ⟨fun x => Rg.rg x.Kind ∧ Rg.rg x.Write⟩
theorem rd69 : ReadsD Tryz.prog 69 (api_HistoryEvent) := (@Reads.struct Tryz.prog 69 _ (Int × Int × Unit) (@datProd _ _ (datD (Int)) (@datProd _ _ (datD (Int)) datUnit)) Tryz.underlying69 (by kernel_rfl) (@Fields.cons _ _ _ _ _ _ (datD (Int)) _ rfl rd3 (@Fields.cons _ _ _ _ _ _ (datD (Int)) _ rfl rd3 (.nil _)))).map rfl fun {H cs a} h => by
  obtain ⟨a0, a1, _⟩ := a
  obtain ⟨_, _, rfl, ⟨rfl, r0⟩, _, _, rfl, ⟨rfl, r1⟩, hz⟩ := h
  cases hz
  exact ⟨⟨a0, a1⟩, rfl, r0, r1⟩
theorem rd24 : ReadsD Tryz.prog 24 (List api_HistoryEvent) := ReadsD.slice Tryz.underlying24 (by kernel_rfl) rd69 (by decide)
instance rg_api_History : Rg api_History := ⟨fun x => Rg.rg x.Sizes ∧ Rg.rg x.Writes ∧ Rg.rg x.Events⟩
theorem rd26 : ReadsD Tryz.prog 26 (api_History) := (@Reads.struct Tryz.prog 26 _ (List Int × List api_Write × List api_HistoryEvent × Unit) (@datProd _ _ (datD (List Int)) (@datProd _ _ (datD (List api_Write)) (@datProd _ _ (datD (List api_HistoryEvent)) datUnit))) Tryz.underlying26 (by kernel_rfl) (@Fields.cons _ _ _ _ _ _ (datD (List Int)) _ rfl rd22 (@Fields.cons _ _ _ _ _ _ (datD (List api_Write)) _ rfl rd23 (@Fields.cons _ _ _ _ _ _ (datD (List api_HistoryEvent)) _ rfl rd24 (.nil _))))).map rfl fun {H cs a} h => by
  obtain ⟨a0, a1, a2, _⟩ := a
  obtain ⟨_, _, rfl, ⟨⟨A7, n7, c7, s7, rfl, hF7⟩, r0⟩, _, _, rfl, ⟨⟨A9, n9, c9, s9, rfl, hF9⟩, r1⟩, _, _, rfl, ⟨⟨A11, n11, c11, s11, rfl, hF11⟩, r2⟩, hz⟩ := h
  cases hz
  exact ⟨⟨a0, a1, a2⟩, ⟨A7, n7, c7, s7, A9, n9, c9, s9, A11, n11, c11, s11, rfl, hF7, hF9, hF11⟩, r0, r1, r2⟩
theorem rd28 : ReadsD Tryz.prog 28 (List (List Sec)) := ReadsD.slice Tryz.underlying28 (by kernel_rfl) rd43 (by decide)
end Go.Proofs.YtjjodmgmidbamaaGreat
namespace Go.Proofs.YtjjodmgmidbamaaGreat
open Go.RowKit Go.ChangeShapes Go.WideShapes Go.ChangeAt
theorem Tryz.own : ownKnob Tryz.prog.godebug = none := by kernel_rfl
theorem Tryz.laidOut : laidOutB Tryz.prog = true := by kernel_rfl
theorem lawRes (y : TupD DD [4]) (hy : y.1 = true) {H : Hp} {v : Value} {L : List Ent} (hr : ResR Tryz.prog tab [4] [[false]] y H v L) : ∃ z, z = true ∧ v = .bool z ∧ L = [] := by
  obtain ⟨ρ, _, _, _, _, h1, h2⟩ := hr 0 (fun _ => none) (fun _ _ => rfl) _ _ _ (show resE Tryz.prog tab _ _ y 0 = some (.b y.1, [], 0) by kernel_rfl)
  exact ⟨y.1, hy, h1, h2⟩
theorem pkw26 (v : Value) (cs : List Value) : PkR Tryz.prog 26 v cs = (v = .agg cs.toArray) := by kernel_rfl
theorem pkw28 (v : Value) (cs : List Value) : PkR Tryz.prog 28 v cs = (cs = [v]) := by kernel_rfl
end Go.Proofs.YtjjodmgmidbamaaGreat
namespace Go.Proofs.YtjjodmgmidbamaaGreat
open Go.RowKit
def ref15_Few_L2 (x0 : api_History) (Φ : Bool → Prop) : (Int) → ((Int) → Prop) → Prop
  | v2, rec2 =>
    (v2 < (x0.Writes.length : Int) →
      inX v2 x0.Writes.length ∧
      (30 < (((ix x0.Writes v2).Data).length : Int) →
        Φ false) ∧
      (¬ (30 < (((ix x0.Writes v2).Data).length : Int)) →
        inI (v2 + 1) ∧
        rec2 (v2 + 1))) ∧
    (¬ (v2 < (x0.Writes.length : Int)) →
      Φ true)
def ref15_Few_L1 (x0 : api_History) (Φ : Bool → Prop) : (Int) → ((Int) → Prop) → Prop
  | v1, rec1 =>
    (v1 < (x0.Sizes.length : Int) →
      inX v1 x0.Sizes.length ∧
      (24 < (ix x0.Sizes v1) →
        Φ false) ∧
      (¬ (24 < (ix x0.Sizes v1)) →
        inI (v1 + 1) ∧
        rec1 (v1 + 1))) ∧
    (¬ (v1 < (x0.Sizes.length : Int)) →
      LoopW (ref15_Few_L2 x0 Φ) 0)
def ref15_Few_W (x0 : api_History) (Φ : Bool → Prop) : Prop :=
  (9 < (x0.Sizes.length : Int) →
    Φ false) ∧
  (¬ (9 < (x0.Sizes.length : Int)) →
    (40 < (x0.Writes.length : Int) →
      Φ false) ∧
    (¬ (40 < (x0.Writes.length : Int)) →
      (90 < (x0.Events.length : Int) →
        Φ false) ∧
      (¬ (90 < (x0.Events.length : Int)) →
        LoopW (ref15_Few_L1 x0 Φ) 0)))
def ref07_Few_L1 (x0 : List (List Sec)) (Φ : Bool → Prop) : (Int) → ((Int) → Prop) → Prop
  | v1, rec1 =>
    (v1 < (x0.length : Int) →
      inX v1 x0.length ∧
      (24 < ((ix x0 v1).length : Int) →
        Φ false) ∧
      (¬ (24 < ((ix x0 v1).length : Int)) →
        inI (v1 + 1) ∧
        rec1 (v1 + 1))) ∧
    (¬ (v1 < (x0.length : Int)) →
      Φ true)
def ref07_Few_W (x0 : List (List Sec)) (Φ : Bool → Prop) : Prop :=
  (9 < (x0.length : Int) →
    Φ false) ∧
  (¬ (9 < (x0.length : Int)) →
    LoopW (ref07_Few_L1 x0 Φ) 0)
def law18_few_W (x0 : api_History) (x1 : List (List Sec)) (Φ : Bool → Prop) : Prop :=
  ref15_Few_W x0 fun v1 =>
    (v1 = true →
      ref07_Few_W x1 fun v2 =>
        Φ v2) ∧
    (¬ (v1 = true) →
      Φ false)
def law18_example_1_L1 (x0 : List (BitVec 8)) (Φ : List Sec → Prop) : (Int × List Sec) → ((Int × List Sec) → Prop) → Prop
  | (v1, v2), rec1 =>
    (v1 < (x0.length : Int) →
      inX v1 x0.length ∧
      lenOk (v2 ++ ([(Sec.mk (ix x0 v1) (0#8) (0#8) (0#8) (0#8) (0#8) (0#8) (0#8))] : List Sec)).length 8 ∧
      inI (v1 + 1) ∧
      rec1 ((v1 + 1), (v2 ++ ([(Sec.mk (ix x0 v1) (0#8) (0#8) (0#8) (0#8) (0#8) (0#8) (0#8))] : List Sec)))) ∧
    (¬ (v1 < (x0.length : Int)) →
      Φ v2)
def law18_example_1_W (x0 : List (BitVec 8)) (Φ : List Sec → Prop) : Prop :=
  LoopW (law18_example_1_L1 x0 Φ) (0, ([] : List Sec))
def law18_example_2_W (x0 : Int) (x1 : Int) (Φ : api_HistoryEvent → Prop) : Prop :=
  Φ (api_HistoryEvent.mk x0 x1)
def law18_example_W (Φ : api_History → Prop) : Prop :=
  law18_example_1_W ([1#8] : List (BitVec 8)) fun v1 =>
    law18_example_1_W ([2#8] : List (BitVec 8)) fun v2 =>
      law18_example_1_W ([3#8, 4#8] : List (BitVec 8)) fun v3 =>
        law18_example_2_W 0 0 fun v4 =>
          law18_example_2_W 1 0 fun v5 =>
            law18_example_2_W 0 1 fun v6 =>
              law18_example_2_W 1 1 fun v7 =>
                law18_example_2_W 0 2 fun v8 =>
                  Φ (api_History.mk ([3] : List Int) ([(api_Write.mk 0 0 v1), (api_Write.mk 0 1 v2), (api_Write.mk 0 0 v3)] : List api_Write) ([v4, v5, v6, v7, v8] : List api_HistoryEvent))
def law18_of_W (x0 : BitVec 8) (x1 : BitVec 8) (x2 : BitVec 8) (Φ : List (List Sec) → Prop) : Prop :=
  Φ ([([(Sec.mk x0 (0#8) (0#8) (0#8) (0#8) (0#8) (0#8) (0#8)), (Sec.mk x1 (0#8) (0#8) (0#8) (0#8) (0#8) (0#8) (0#8)), (Sec.mk x2 (0#8) (0#8) (0#8) (0#8) (0#8) (0#8) (0#8))] : List Sec)] : List (List Sec))
def image_checkSizes_1_W (x0 : Int) (Φ : Bool → Prop) : Prop :=
  (x0 < 1 →
    Φ true) ∧
  (¬ (x0 < 1) →
    Φ (decide (4096 < x0)))
def image_checkSizes_L1 (x0 : List Int) (Φ : Int → Prop) : (Int) → ((Int) → Prop) → Prop
  | v1, rec1 =>
    (v1 < (x0.length : Int) →
      inX v1 x0.length ∧
      image_checkSizes_1_W (ix x0 v1) fun v2 =>
        (v2 = true →
          (0 ≤ v1 →
            Φ 2) ∧
          (¬ (0 ≤ v1) →
            Φ 0)) ∧
        (¬ (v2 = true) →
          inI (v1 + 1) ∧
          rec1 (v1 + 1))) ∧
    (¬ (v1 < (x0.length : Int)) →
      (0 ≤ ((-1) : Int) →
        Φ 2) ∧
      (¬ (0 ≤ ((-1) : Int)) →
        Φ 0))
def image_checkSizes_W (x0 : List Int) (Φ : Int → Prop) : Prop :=
  ((x0.length : Int) < 1 →
    Φ 6) ∧
  (¬ ((x0.length : Int) < 1) →
    (8 < (x0.length : Int) →
      Φ 6) ∧
    (¬ (8 < (x0.length : Int)) →
      LoopW (image_checkSizes_L1 x0 Φ) 0))
def image_New_1_W (x0 : Int) (Φ : List Sec → Prop) : Prop :=
  0 ≤ x0 ∧
  lenOk x0.toNat 8 ∧
  Φ (List.replicate x0.toNat (sec0 : Sec))
def image_New_L1 (x0 : List Int) (Φ : List (List Sec) × Int → Prop) : (Int × List (List Sec)) → ((Int × List (List Sec)) → Prop) → Prop
  | (v2, v3), rec1 =>
    (v2 < (x0.length : Int) →
      inX v2 x0.length ∧
      image_New_1_W (ix x0 v2) fun v4 =>
        lenOk (v3 ++ ([v4] : List (List Sec))).length 24 ∧
        inI (v2 + 1) ∧
        rec1 ((v2 + 1), (v3 ++ ([v4] : List (List Sec))))) ∧
    (¬ (v2 < (x0.length : Int)) →
      Φ (v3, 0))
def image_New_W (x0 : List Int) (Φ : List (List Sec) × Int → Prop) : Prop :=
  image_checkSizes_W x0 fun v1 =>
    (v1 ≠ 0 →
      Φ (([] : List (List Sec)), v1)) ∧
    (¬ (v1 ≠ 0) →
      0 ≤ (x0.length : Int) ∧
      lenOk (x0.length : Int).toNat 24 ∧
      LoopW (image_New_L1 x0 Φ) (0, ([] : List (List Sec))))
def image_sizes_1_W (x0 : List Sec) (Φ : Int → Prop) : Prop :=
  Φ (x0.length : Int)
def image_sizes_L1 (x0 : List (List Sec)) (Φ : List Int → Prop) : (Int × List Int) → ((Int × List Int) → Prop) → Prop
  | (v1, v2), rec1 =>
    (v1 < (x0.length : Int) →
      inX v1 x0.length ∧
      image_sizes_1_W (ix x0 v1) fun v3 =>
        lenOk (v2 ++ ([v3] : List Int)).length 8 ∧
        inI (v1 + 1) ∧
        rec1 ((v1 + 1), (v2 ++ ([v3] : List Int)))) ∧
    (¬ (v1 < (x0.length : Int)) →
      Φ v2)
def image_sizes_W (x0 : List (List Sec)) (Φ : List Int → Prop) : Prop :=
  0 ≤ (x0.length : Int) ∧
  lenOk (x0.length : Int).toNat 8 ∧
  LoopW (image_sizes_L1 x0 Φ) (0, ([] : List Int))
def image_Check_W (x0 : List (List Sec)) (Φ : Int → Prop) : Prop :=
  image_sizes_W x0 fun v1 =>
    image_checkSizes_W v1 fun v2 =>
      Φ v2
def image_fits_J1 (x0 : List (List Sec)) (x1 : api_Write) (Φ : Int → Prop) : Bool → Prop
  | v1 =>
    (v1 = true →
      Φ 7) ∧
    (¬ (v1 = true) →
      ((x1.Data.length : Int) = 0 →
        Φ 1) ∧
      (¬ ((x1.Data.length : Int) = 0) →
        (x1.Start < 0 →
          Φ 2) ∧
        (¬ (x1.Start < 0) →
          inX x1.Volume x0.length ∧
          inI (((ix x0 x1.Volume).length : Int) - (x1.Data.length : Int)) ∧
          ((((ix x0 x1.Volume).length : Int) - (x1.Data.length : Int)) < x1.Start →
            Φ 2) ∧
          (¬ ((((ix x0 x1.Volume).length : Int) - (x1.Data.length : Int)) < x1.Start) →
            Φ 0))))
def image_fits_W (x0 : List (List Sec)) (x1 : api_Write) (Φ : Int → Prop) : Prop :=
  Join (image_fits_J1 x0 x1 Φ) fun J1 =>
    (x1.Volume < 0 →
      J1 true) ∧
    (¬ (x1.Volume < 0) →
      J1 (decide ((x0.length : Int) ≤ x1.Volume)))
def image_Fits_W (x0 : List (List Sec)) (x1 : api_Write) (Φ : Int → Prop) : Prop :=
  image_Check_W x0 fun v1 =>
    (v1 ≠ 0 →
      Φ v1) ∧
    (¬ (v1 ≠ 0) →
      image_fits_W x0 x1 fun v2 =>
        Φ v2)
def history_check_J3 (v4 : Int) (rec2 : (Int × List Int × List Int) → Prop) (Φ : history_checked × Int → Prop) : Int × List Int × List Int → Prop
  | (v7, v8, v9) =>
    (v7 ≠ 0 →
      Φ ((history_checked.mk (api_History.mk ([] : List Int) ([] : List api_Write) ([] : List api_HistoryEvent)) (history_timeline.mk ([] : List Int) ([] : List Int))), v7)) ∧
    (¬ (v7 ≠ 0) →
      inI (v4 + 1) ∧
      rec2 ((v4 + 1), v8, v9))
def history_check_L2 (x0 : api_History) (Φ : history_checked × Int → Prop) : (Int × List Int × List Int) → ((Int × List Int × List Int) → Prop) → Prop
  | (v4, v5, v6), rec2 =>
    (v4 < (x0.Events.length : Int) →
      inX v4 x0.Events.length ∧
      Join (history_check_J3 v4 rec2 Φ) fun J3 =>
        (((ix x0.Events v4).Kind) = 0 →
          (((ix x0.Events v4).Write) ≠ (v5.length : Int) →
            J3 (3, v5, v6)) ∧
          (¬ (((ix x0.Events v4).Write) ≠ (v5.length : Int)) →
            ((x0.Writes.length : Int) ≤ ((ix x0.Events v4).Write) →
              J3 (3, v5, v6)) ∧
            (¬ ((x0.Writes.length : Int) ≤ ((ix x0.Events v4).Write)) →
              lenOk (v5 ++ ([v4] : List Int)).length 8 ∧
              lenOk (v6 ++ ([(-1)] : List Int)).length 8 ∧
              J3 (0, (v5 ++ ([v4] : List Int)), (v6 ++ ([(-1)] : List Int)))))) ∧
        (¬ (((ix x0.Events v4).Kind) = 0) →
          (((ix x0.Events v4).Kind) = 1 →
            (((ix x0.Events v4).Write) < 0 →
              J3 (7, v5, v6)) ∧
            (¬ (((ix x0.Events v4).Write) < 0) →
              ((v5.length : Int) ≤ ((ix x0.Events v4).Write) →
                J3 (7, v5, v6)) ∧
              (¬ ((v5.length : Int) ≤ ((ix x0.Events v4).Write)) →
                inX ((ix x0.Events v4).Write) v6.length ∧
                (0 ≤ (ix v6 ((ix x0.Events v4).Write)) →
                  J3 (8, v5, v6)) ∧
                (¬ (0 ≤ (ix v6 ((ix x0.Events v4).Write))) →
                  inX ((ix x0.Events v4).Write) v6.length ∧
                  J3 (0, v5, (put v6 ((ix x0.Events v4).Write) v4)))))) ∧
          (¬ (((ix x0.Events v4).Kind) = 1) →
            J3 (3, v5, v6)))) ∧
    (¬ (v4 < (x0.Events.length : Int)) →
      ((v5.length : Int) < (x0.Writes.length : Int) →
        Φ ((history_checked.mk (api_History.mk ([] : List Int) ([] : List api_Write) ([] : List api_HistoryEvent)) (history_timeline.mk ([] : List Int) ([] : List Int))), 3)) ∧
      (¬ ((v5.length : Int) < (x0.Writes.length : Int)) →
        Φ ((history_checked.mk x0 (history_timeline.mk v5 v6)), 0)))
def history_check_L1 (x0 : api_History) (v1 : List (List Sec) × Int) (Φ : history_checked × Int → Prop) : (Int) → ((Int) → Prop) → Prop
  | v2, rec1 =>
    (v2 < (x0.Writes.length : Int) →
      inX v2 x0.Writes.length ∧
      image_Fits_W v1.1 (ix x0.Writes v2) fun v3 =>
        (v3 ≠ 0 →
          Φ ((history_checked.mk (api_History.mk ([] : List Int) ([] : List api_Write) ([] : List api_HistoryEvent)) (history_timeline.mk ([] : List Int) ([] : List Int))), v3)) ∧
        (¬ (v3 ≠ 0) →
          inI (v2 + 1) ∧
          rec1 (v2 + 1))) ∧
    (¬ (v2 < (x0.Writes.length : Int)) →
      LoopW (history_check_L2 x0 Φ) (0, ([] : List Int), ([] : List Int)))
def history_check_W (x0 : api_History) (Φ : history_checked × Int → Prop) : Prop :=
  image_New_W x0.Sizes fun v1 =>
    (v1.2 ≠ 0 →
      Φ ((history_checked.mk (api_History.mk ([] : List Int) ([] : List api_Write) ([] : List api_HistoryEvent)) (history_timeline.mk ([] : List Int) ([] : List Int))), v1.2)) ∧
    (¬ (v1.2 ≠ 0) →
      (4096 < (x0.Writes.length : Int) →
        Φ ((history_checked.mk (api_History.mk ([] : List Int) ([] : List api_Write) ([] : List api_HistoryEvent)) (history_timeline.mk ([] : List Int) ([] : List Int))), 6)) ∧
      (¬ (4096 < (x0.Writes.length : Int)) →
        LoopW (history_check_L1 x0 v1 Φ) 0))
def history_Check_W (x0 : api_History) (Φ : Int → Prop) : Prop :=
  history_check_W x0 fun v1 =>
    Φ v1.2
def consistency_newJudge_1_W (x0 : List Sec) (x1 : Int) (Φ : Bool → Prop) : Prop :=
  Φ (decide ((x0.length : Int) = x1))
def consistency_single_W (x0 : consistency_place) (x1 : Sec) (Φ : api_Write → Prop) : Prop :=
  Φ (api_Write.mk x0.volume x0.sector ([x1] : List Sec))
def math_bits_Mul64_W (x0 : BitVec 64) (x1 : BitVec 64) (Φ : BitVec 64 × BitVec 64 → Prop) : Prop :=
  Φ (((((x0 >>> ((32#64).toNat : Int).toNat) * (x1 >>> ((32#64).toNat : Int).toNat)) + ((((x0 >>> ((32#64).toNat : Int).toNat) * (x1 &&& (4294967295#64))) + (((x0 &&& (4294967295#64)) * (x1 &&& (4294967295#64))) >>> ((32#64).toNat : Int).toNat)) >>> ((32#64).toNat : Int).toNat)) + ((((((x0 >>> ((32#64).toNat : Int).toNat) * (x1 &&& (4294967295#64))) + (((x0 &&& (4294967295#64)) * (x1 &&& (4294967295#64))) >>> ((32#64).toNat : Int).toNat)) &&& (4294967295#64)) + ((x0 &&& (4294967295#64)) * (x1 >>> ((32#64).toNat : Int).toNat))) >>> ((32#64).toNat : Int).toNat)), (x0 * x1))
def math_bits_Mul_W (x0 : BitVec 64) (x1 : BitVec 64) (Φ : BitVec 64 × BitVec 64 → Prop) : Prop :=
  math_bits_Mul64_W x0 x1 fun v1 =>
    Φ (v1.1, v1.2)
def slices_Repeat_int_int_L2 (Φ : List Int → Prop) : (Int × List Int) → ((Int × List Int) → Prop) → Prop
  | (v3, v4), rec2 =>
    (v3 < (v4.length : Int) →
      inS v3 (v4.length : Int) v4.length ∧
      inS 0 v3 v4.length ∧
      inI (v3 + ((min (sub v4 0 v3).length (v4.length - (v3 : Int).toNat) : Nat) : Int)) ∧
      rec2 ((v3 + ((min (sub v4 0 v3).length (v4.length - (v3 : Int).toNat) : Nat) : Int)), (paste v4 v3 (sub v4 0 v3)))) ∧
    (¬ (v3 < (v4.length : Int)) →
      Φ v4)
def slices_Repeat_int_int_J1 (x0 : List Int) (v1 : BitVec 64 × BitVec 64) (Φ : List Int → Prop) : Bool → Prop
  | v2 =>
    (v2 = true →
      False) ∧
    (¬ (v2 = true) →
      0 ≤ v1.2.toInt ∧
      lenOk v1.2.toInt.toNat 8 ∧
      LoopW (slices_Repeat_int_int_L2 Φ) (((min x0.length ((List.replicate v1.2.toInt.toNat (0 : Int)).length - (0 : Int).toNat) : Nat) : Int), (paste (List.replicate v1.2.toInt.toNat (0 : Int)) 0 x0)))
def slices_Repeat_int_int_W (x0 : List Int) (x1 : Int) (Φ : List Int → Prop) : Prop :=
  (x1 < 0 →
    False) ∧
  (¬ (x1 < 0) →
    math_bits_Mul_W (BitVec.ofInt 64 (x0.length : Int)) (BitVec.ofInt 64 x1) fun v1 =>
      Join (slices_Repeat_int_int_J1 x0 v1 Φ) fun J1 =>
        ((0#64) < v1.1 →
          J1 true) ∧
        (¬ ((0#64) < v1.1) →
          J1 (decide ((9223372036854775807#64) < v1.2))))
def cut_relation_mark_J2 (x1 : List Int) (v1 : Int) (v2 : List Bool) (rec1 : (Int × List Bool) → Prop) (Φ : List Bool × Bool → Prop) : Bool → Prop
  | v3 =>
    (v3 = true →
      Φ (([] : List Bool), false)) ∧
    (¬ (v3 = true) →
      inX (ix x1 v1) v2.length ∧
      inI (v1 + 1) ∧
      rec1 ((v1 + 1), (put v2 (ix x1 v1) true)))
def cut_relation_mark_L1 (x0 : Ptr cut_relation) (x1 : List Int) (Φ : List Bool × Bool → Prop) : (Int × List Bool) → ((Int × List Bool) → Prop) → Prop
  | (v1, v2), rec1 =>
    (v1 < (x1.length : Int) →
      inX v1 x1.length ∧
      Join (cut_relation_mark_J2 x1 v1 v2 rec1 Φ) fun J2 =>
        ((ix x1 v1) < 0 →
          J2 true) ∧
        (¬ ((ix x1 v1) < 0) →
          (x0.val.n ≤ (ix x1 v1) →
            J2 true) ∧
          (¬ (x0.val.n ≤ (ix x1 v1)) →
            (0 < v1 →
              inI (v1 - 1) ∧
              inX (v1 - 1) x1.length ∧
              J2 (decide ((ix x1 v1) ≤ (ix x1 (v1 - 1))))) ∧
            (¬ (0 < v1) →
              J2 false)))) ∧
    (¬ (v1 < (x1.length : Int)) →
      Φ (v2, true))
def cut_relation_mark_W (x0 : Ptr cut_relation) (x1 : List Int) (Φ : List Bool × Bool → Prop) : Prop :=
  0 ≤ x0.val.n ∧
  lenOk x0.val.n.toNat 1 ∧
  LoopW (cut_relation_mark_L1 x0 x1 Φ) (0, (List.replicate x0.val.n.toNat (false : Bool)))
def slices_Clone_cut_marks_bool_W (x0 : List Bool) (Φ : List Bool → Prop) : Prop :=
  (x0 = [] →
    Φ ([] : List Bool)) ∧
  (
    lenOk (([] : List Bool) ++ x0).length 1 ∧
    Φ (([] : List Bool) ++ x0))
def cut_marks_members_1_L1 (x0 : List Bool) : (List (Int × Unit) × Int) → ((List (Int × Unit) × Int) → Prop) → Prop
  | (l1, v1), rec1 =>
    (v1 < (x0.length : Int) →
      inX v1 x0.length ∧
      ((ix x0 v1) = true →
        Yl l1 fun v2 r3 => (v1, ()) = v2 ∧ (
          inI (v1 + 1) ∧
          rec1 (r3, (v1 + 1))) ∧ (
          True)) ∧
      (¬ ((ix x0 v1) = true) →
        inI (v1 + 1) ∧
        rec1 (l1, (v1 + 1)))) ∧
    (¬ (v1 < (x0.length : Int)) →
      l1 = [])
def cut_marks_members_1_I (x0 : List Bool) (l : List (Int × Unit)) : Prop :=
  LoopW (cut_marks_members_1_L1 x0) (l, 0)
def cut_relation_before_W (x0 : Ptr cut_relation) (x1 : Int) (x2 : Int) (Φ : Bool → Prop) : Prop :=
  inX x1 x0.val.acked.length ∧
  inX x2 x0.val.issued.length ∧
  Φ (decide ((ix x0.val.acked x1) < (ix x0.val.issued x2)))
def cut_marks_list_L1 (Φ : List Int → Prop) : (List (Int × Unit) × List Int) → ((List (Int × Unit) × List Int) → Prop) → Prop
  | (lst, v1), rec1 =>
    match lst with
    | [] =>
      Φ v1
    | v2 :: r3 =>
      lenOk (v1 ++ ([v2.1] : List Int)).length 8 ∧
      rec1 (r3, (v1 ++ ([v2.1] : List Int)))
def cut_marks_list_W (x0 : List Bool) (Φ : List Int → Prop) : Prop :=
  ∃ l4 : List (Int × Unit), cut_marks_members_1_I x0 l4 ∧
  LoopW (cut_marks_list_L1 Φ) (l4, ([] : List Int))
def cut_Least_L1 (x1 : List Int) (Φ : List Int × Int → Prop) : (Unit) → ((Unit) → Prop) → Prop
  | _, _ =>
    (0 < (([x1] : List (List Int)).length : Int) →
      inX 0 ([x1] : List (List Int)).length ∧
      False) ∧
    (¬ (0 < (([x1] : List (List Int)).length : Int)) →
      ((0 : Int) ≠ 0 →
        Φ (([] : List Int), 0)) ∧
      (¬ ((0 : Int) ≠ 0) →
        False))
def cut_Least_L5 (x0 : api_History) (v5 : List Int) (v6 : List Int) (rec4 : (List (Int × Unit) × List Bool) → Prop) (v12 : Int × Unit) (r13 : List (Int × Unit)) (_ : List Int × Int → Prop) : (Int × List Bool) → ((Int × List Bool) → Prop) → Prop
  | (v14, v15), rec5 =>
    (v14 < (x0.Writes.length : Int) →
      inX v14 v15.length ∧
      ((ix v15 v14) = true →
        inX v14 v15.length ∧
        inI (v14 + 1) ∧
        rec5 ((v14 + 1), (put v15 v14 true))) ∧
      (¬ ((ix v15 v14) = true) →
        ∃ v16 : Bool × Unit, cut_relation_before_W (Ptr.mk (cut_relation.mk (x0.Writes.length : Int) (x0.Events.length : Int) v5 v6)) v14 v12.1 (fun z => (z, ()) = v16) ∧
        inX v14 v15.length ∧
        inI (v14 + 1) ∧
        rec5 ((v14 + 1), (put v15 v14 v16.1)))) ∧
    (¬ (v14 < (x0.Writes.length : Int)) →
      rec4 (r13, v15))
def cut_Least_L4 (x0 : api_History) (v5 : List Int) (v6 : List Int) (Φ : List Int × Int → Prop) : (List (Int × Unit) × List Bool) → ((List (Int × Unit) × List Bool) → Prop) → Prop
  | (lst, v11), rec4 =>
    match lst with
    | [] =>
      cut_marks_list_W v11 fun v17 =>
        Φ (v17, 0)
    | v12 :: r13 =>
      LoopW (cut_Least_L5 x0 v5 v6 rec4 v12 r13 Φ) (0, v11)
def cut_Least_L3 (x0 : api_History) (x1 : List Int) (v5 : List Int) (v6 : List Int) (Φ : List Int × Int → Prop) : (Int × List (List Bool)) → ((Int × List (List Bool)) → Prop) → Prop
  | (v7, v8), rec3 =>
    (v7 < (([x1] : List (List Int)).length : Int) →
      inX v7 ([x1] : List (List Int)).length ∧
      cut_relation_mark_W (Ptr.mk (cut_relation.mk (x0.Writes.length : Int) (x0.Events.length : Int) v5 v6)) (ix ([x1] : List (List Int)) v7) fun v9 =>
        (¬ (v9.2 = true) →
          ((2 : Int) ≠ 0 →
            Φ (([] : List Int), 2)) ∧
          (¬ ((2 : Int) ≠ 0) →
            False)) ∧
        (¬ (¬ (v9.2 = true)) →
          lenOk (v8 ++ ([v9.1] : List (List Bool))).length 24 ∧
          inI (v7 + 1) ∧
          rec3 ((v7 + 1), (v8 ++ ([v9.1] : List (List Bool)))))) ∧
    (¬ (v7 < (([x1] : List (List Int)).length : Int)) →
      ((0 : Int) ≠ 0 →
        Φ (([] : List Int), 0)) ∧
      (¬ ((0 : Int) ≠ 0) →
        inX 0 v8.length ∧
        slices_Clone_cut_marks_bool_W (ix v8 0) fun v10 =>
          inX 0 v8.length ∧
          ∃ l18 : List (Int × Unit), cut_marks_members_1_I (ix v8 0) l18 ∧
          LoopW (cut_Least_L4 x0 v5 v6 Φ) (l18, v10)))
def cut_Least_L2 (x0 : api_History) (x1 : List Int) (Φ : List Int × Int → Prop) : (Int × List Int × List Int) → ((Int × List Int × List Int) → Prop) → Prop
  | (v4, v5, v6), rec2 =>
    (v4 < (x0.Events.length : Int) →
      inX v4 x0.Events.length ∧
      (((ix x0.Events v4).Kind) = 0 →
        inX ((ix x0.Events v4).Write) v5.length ∧
        inI (v4 + 1) ∧
        rec2 ((v4 + 1), (put v5 ((ix x0.Events v4).Write) v4), v6)) ∧
      (¬ (((ix x0.Events v4).Kind) = 0) →
        inX ((ix x0.Events v4).Write) v6.length ∧
        inI (v4 + 1) ∧
        rec2 ((v4 + 1), v5, (put v6 ((ix x0.Events v4).Write) v4)))) ∧
    (¬ (v4 < (x0.Events.length : Int)) →
      ((0 : Int) ≠ 0 →
        ((0 : Int) ≠ 0 →
          Φ (([] : List Int), 0)) ∧
        (¬ ((0 : Int) ≠ 0) →
          False)) ∧
      (¬ ((0 : Int) ≠ 0) →
        LoopW (cut_Least_L3 x0 x1 v5 v6 Φ) (0, ([] : List (List Bool)))))
def cut_Least_W (x0 : api_History) (x1 : List Int) (Φ : List Int × Int → Prop) : Prop :=
  history_Check_W x0 fun v1 =>
    (v1 ≠ 0 →
      (v1 ≠ 0 →
        (v1 ≠ 0 →
          Φ (([] : List Int), v1)) ∧
        (¬ (v1 ≠ 0) →
          False)) ∧
      (¬ (v1 ≠ 0) →
        LoopW (cut_Least_L1 x1 Φ) ())) ∧
    (¬ (v1 ≠ 0) →
      ∃ v2 : List Int × Unit, slices_Repeat_int_int_W ([(x0.Events.length : Int)] : List Int) (x0.Writes.length : Int) (fun z => (z, ()) = v2) ∧
      ∃ v3 : List Int × Unit, slices_Repeat_int_int_W ([(x0.Events.length : Int)] : List Int) (x0.Writes.length : Int) (fun z => (z, ()) = v3) ∧
      LoopW (cut_Least_L2 x0 x1 Φ) (0, v2.1, v3.1))
def history_checked_isSet_L1 (x0 : history_checked) (x1 : List Int) (Φ : Bool → Prop) : (Int) → ((Int) → Prop) → Prop
  | v1, rec1 =>
    (v1 < (x1.length : Int) →
      inX v1 x1.length ∧
      ((ix x1 v1) < 0 →
        Φ false) ∧
      (¬ ((ix x1 v1) < 0) →
        ((x0.History.Writes.length : Int) ≤ (ix x1 v1) →
          Φ false) ∧
        (¬ ((x0.History.Writes.length : Int) ≤ (ix x1 v1)) →
          (0 < v1 →
            inI (v1 - 1) ∧
            inX (v1 - 1) x1.length ∧
            ((ix x1 v1) ≤ (ix x1 (v1 - 1)) →
              Φ false) ∧
            (¬ ((ix x1 v1) ≤ (ix x1 (v1 - 1))) →
              inI (v1 + 1) ∧
              rec1 (v1 + 1))) ∧
          (¬ (0 < v1) →
            inI (v1 + 1) ∧
            rec1 (v1 + 1))))) ∧
    (¬ (v1 < (x1.length : Int)) →
      Φ true)
def history_checked_isSet_W (x0 : history_checked) (x1 : List Int) (Φ : Bool → Prop) : Prop :=
  LoopW (history_checked_isSet_L1 x0 x1 Φ) 0
def history_checked_members_1_L1 (x0 : List Int) (x1 : history_checked) : (List (Int × api_Write × Unit) × Int) → ((List (Int × api_Write × Unit) × Int) → Prop) → Prop
  | (l1, v1), rec1 =>
    (v1 < (x0.length : Int) →
      inX v1 x0.length ∧
      inX (ix x0 v1) x1.History.Writes.length ∧
      Yl l1 fun v2 r3 => ((ix x0 v1), (ix x1.History.Writes (ix x0 v1)), ()) = v2 ∧ (
        inI (v1 + 1) ∧
        rec1 (r3, (v1 + 1))) ∧ (
        True)) ∧
    (¬ (v1 < (x0.length : Int)) →
      l1 = [])
def history_checked_members_1_I (x0 : List Int) (x1 : history_checked) (l : List (Int × api_Write × Unit)) : Prop :=
  LoopW (history_checked_members_1_L1 x0 x1) (l, 0)
def slices_Clone_api_Sector_api_Sector_W (x0 : List Sec) (Φ : List Sec → Prop) : Prop :=
  (x0 = [] →
    Φ ([] : List Sec)) ∧
  (
    lenOk (([] : List Sec) ++ x0).length 8 ∧
    Φ (([] : List Sec) ++ x0))
def image_mappedE_L1 (x0 : List (List Sec)) (Φ : List (List Sec) → Prop) : (List (List Sec) × Int) → ((List (List Sec) × Int) → Prop) → Prop
 | (v12, v20), rec1 =>
  (v20 < (x0.length : Int) →
   inX v20 x0.length ∧
   slices_Clone_api_Sector_api_Sector_W (ix x0 v20) fun v27 =>
    lenOk (v12 ++ [v27]).length 24 ∧
    inI (v20 + 1) ∧
    rec1 ((v12 ++ [v27]), v20 + 1)) ∧
  (¬ (v20 < (x0.length : Int)) →
   Φ v12)
def image_mappedE_W (x0 : List (List Sec)) (Φ : List (List Sec) → Prop) : Prop :=
 0 ≤ (x0.length : Int) ∧
 lenOk (x0.length : Int).toNat 24 ∧
 LoopW (image_mappedE_L1 x0 Φ) (([] : List (List Sec)), 0)
def image_copiedE_W (x0 : List (List Sec)) (Φ : List (List Sec) → Prop) : Prop :=
 image_mappedE_W x0 fun v2 =>
  Φ v2
def image_Apply_L1 (x1 : List api_Write) (Φ : List (List Sec) × Int × Int → Prop) : (List (List Sec) × Int) → ((List (List Sec) × Int) → Prop) → Prop
 | (v16, v24), rec1 =>
  (v24 < (x1.length : Int) →
   inX v24 x1.length ∧
   image_fits_W v16 (ix x1 v24) fun v38 =>
    (v38 ≠ 0 →
     Φ (([] : List (List Sec)), v24, v38)) ∧
    (¬ (v38 ≠ 0) →
     inX ((ix x1 v24).Volume) v16.length ∧
     inS ((ix x1 v24).Start) ((ix v16 ((ix x1 v24).Volume)).length : Int) (ix v16 ((ix x1 v24).Volume)).length ∧
     inI (v24 + 1) ∧
     rec1 ((put v16 ((ix x1 v24).Volume) (paste (ix v16 ((ix x1 v24).Volume)) ((ix x1 v24).Start) ((ix x1 v24).Data))), v24 + 1))) ∧
  (¬ (v24 < (x1.length : Int)) →
   Φ (v16, 0, 0))
def image_Apply_W (x0 : List (List Sec)) (x1 : List api_Write) (Φ : List (List Sec) × Int × Int → Prop) : Prop :=
 image_Check_W x0 fun v3 =>
  (v3 ≠ 0 →
   Φ (([] : List (List Sec)), 0, v3)) ∧
  (¬ (v3 ≠ 0) →
   image_copiedE_W x0 fun v7 =>
    LoopW (image_Apply_L1 x1 Φ) (v7, 0))
def history_Image_L1 (v3 : List (List Sec) × Int) (Φ : List (List Sec) × Int → Prop) : (List (Int × api_Write × Unit) × List api_Write) → ((List (Int × api_Write × Unit) × List api_Write) → Prop) → Prop
  | (lst, v4), rec1 =>
    match lst with
    | [] =>
      image_Apply_W v3.1 v4 fun v7 =>
        Φ (v7.1, v7.2.2)
    | v5 :: r6 =>
      lenOk (v4 ++ ([v5.2.1] : List api_Write)).length 40 ∧
      rec1 (r6, (v4 ++ ([v5.2.1] : List api_Write)))
def history_Image_W (x0 : api_History) (x1 : List Int) (Φ : List (List Sec) × Int → Prop) : Prop :=
  history_check_W x0 fun v1 =>
    (v1.2 ≠ 0 →
      Φ (([] : List (List Sec)), v1.2)) ∧
    (¬ (v1.2 ≠ 0) →
      history_checked_isSet_W v1.1 x1 fun v2 =>
        (¬ (v2 = true) →
          Φ (([] : List (List Sec)), 2)) ∧
        (¬ (¬ (v2 = true)) →
          image_New_W x0.Sizes fun v3 =>
            ∃ l8 : List (Int × api_Write × Unit), history_checked_members_1_I x1 v1.1 l8 ∧
            LoopW (history_Image_L1 v3 Φ) (l8, ([] : List api_Write))))
def consistency_Find_J3 (v4 : Int) (rec2 : (Int × (List (consistency_content × Int))) → Prop) (Φ : List Int × Bool × Int → Prop) : Bool × (List (consistency_content × Int)) → Prop
  | (v6, v7) =>
    (¬ (v6 = true) →
      ((1 : Int) ≠ 0 →
        Φ (([] : List Int), false, 1)) ∧
      (¬ ((1 : Int) ≠ 0) →
        False)) ∧
    (¬ (¬ (v6 = true)) →
      inI (v4 + 1) ∧
      rec2 ((v4 + 1), v7))
def consistency_Find_L4 (x0 : api_History) (v4 : Int) (rec2 : (Int × (List (consistency_content × Int))) → Prop) (Φ : List Int × Bool × Int → Prop) : (Int × (List (consistency_content × Int))) → ((Int × (List (consistency_content × Int))) → Prop) → Prop
  | (v8, v9), rec4 =>
    (v8 < (((ix x0.Writes v4).Data).length : Int) →
      inX v8 ((ix x0.Writes v4).Data).length ∧
      inI (((ix x0.Writes v4).Start) + v8) ∧
      (¬ ((mhas v9 (consistency_content.mk (consistency_place.mk ((ix x0.Writes v4).Volume) (((ix x0.Writes v4).Start) + v8)) (ix ((ix x0.Writes v4).Data) v8))) = true) →
        (¬ ((ix ((ix x0.Writes v4).Data) v8) ≠ sec0) →
          consistency_Find_J3 v4 rec2 Φ (false, (mput v9 (consistency_content.mk (consistency_place.mk ((ix x0.Writes v4).Volume) (((ix x0.Writes v4).Start) + v8)) (ix ((ix x0.Writes v4).Data) v8)) v4))) ∧
        (¬ (¬ ((ix ((ix x0.Writes v4).Data) v8) ≠ sec0)) →
          inI (v8 + 1) ∧
          rec4 ((v8 + 1), (mput v9 (consistency_content.mk (consistency_place.mk ((ix x0.Writes v4).Volume) (((ix x0.Writes v4).Start) + v8)) (ix ((ix x0.Writes v4).Data) v8)) v4)))) ∧
      (¬ (¬ ((mhas v9 (consistency_content.mk (consistency_place.mk ((ix x0.Writes v4).Volume) (((ix x0.Writes v4).Start) + v8)) (ix ((ix x0.Writes v4).Data) v8))) = true)) →
        consistency_Find_J3 v4 rec2 Φ (false, (mput v9 (consistency_content.mk (consistency_place.mk ((ix x0.Writes v4).Volume) (((ix x0.Writes v4).Start) + v8)) (ix ((ix x0.Writes v4).Data) v8)) v4)))) ∧
    (¬ (v8 < (((ix x0.Writes v4).Data).length : Int)) →
      consistency_Find_J3 v4 rec2 Φ (true, v9))
def consistency_Find_J6 (v10 : Int) (v11 : List Int) (Φ : List Int × Bool × Int → Prop) : Bool → Prop
  | v13 =>
    (v13 = true →
      Φ (([] : List Int), false, v10)) ∧
    (¬ (v13 = true) →
      Φ (v11, true, 0))
def consistency_Find_J5 (Φ : List Int × Bool × Int → Prop) : Int × List Int × Bool → Prop
  | (v10, v11, v12) =>
    Join (consistency_Find_J6 v10 v11 Φ) fun J6 =>
      (v10 ≠ 0 →
        J6 true) ∧
      (¬ (v10 ≠ 0) →
        J6 v12)
def consistency_Find_J9 (v21 : List Int × Int) (Φ : List Int × Bool × Int → Prop) : Bool × Int × Int × List Sec → Prop
  | (v23, _, _, _) =>
    consistency_Find_J5 Φ (0, v21.1, v23)
def consistency_Find_L11 (x1 : List (List Sec)) (v14 : Bool) (v15 : Int) (v16 : Int) (v18 : List Sec) (v21 : List Int × Int) (v22 : List (List Sec) × Int) (v27 : Int) (rec10 : (Int) → Prop) (Φ : List Int × Bool × Int → Prop) : (Int) → ((Int) → Prop) → Prop
  | v28, rec11 =>
    (v28 < ((ix v22.1 v27).length : Int) →
      inX v28 (ix v22.1 v27).length ∧
      inX v27 x1.length ∧
      inX v28 (ix x1 v27).length ∧
      ((ix (ix v22.1 v27) v28) ≠ (ix (ix x1 v27) v28) →
        consistency_single_W (consistency_place.mk v27 v28) (ix (ix v22.1 v27) v28) fun v29 =>
          consistency_Find_J9 v21 Φ (true, v29.Volume, v29.Start, v29.Data)) ∧
      (¬ ((ix (ix v22.1 v27) v28) ≠ (ix (ix x1 v27) v28)) →
        (¬ (¬ (v14 = true)) →
          consistency_Find_J9 v21 Φ (v14, v15, v16, v18)) ∧
        (¬ (¬ (¬ (v14 = true))) →
          inI (v28 + 1) ∧
          rec11 (v28 + 1)))) ∧
    (¬ (v28 < ((ix v22.1 v27).length : Int)) →
      inI (v27 + 1) ∧
      rec10 (v27 + 1))
def consistency_Find_L10 (x1 : List (List Sec)) (v14 : Bool) (v15 : Int) (v16 : Int) (v18 : List Sec) (v21 : List Int × Int) (v22 : List (List Sec) × Int) (Φ : List Int × Bool × Int → Prop) : (Int) → ((Int) → Prop) → Prop
  | v27, rec10 =>
    (v27 < (v22.1.length : Int) →
      inX v27 v22.1.length ∧
      LoopW (consistency_Find_L11 x1 v14 v15 v16 v18 v21 v22 v27 rec10 Φ) 0) ∧
    (¬ (v27 < (v22.1.length : Int)) →
      consistency_Find_J9 v21 Φ (v14, v15, v16, v18))
def consistency_Find_L8 (x0 : api_History) (x1 : List (List Sec)) (v14 : Bool) (v15 : Int) (v16 : Int) (v17 : List (Int × Bool)) (v18 : List Sec) (Φ : List Int × Bool × Int → Prop) : (Int × List Int) → ((Int × List Int) → Prop) → Prop
  | (v19, v20), rec8 =>
    (v19 < (x0.Writes.length : Int) →
      ((mget v17 v19 false) = true →
        lenOk (v20 ++ ([v19] : List Int)).length 8 ∧
        inI (v19 + 1) ∧
        rec8 ((v19 + 1), (v20 ++ ([v19] : List Int)))) ∧
      (¬ ((mget v17 v19 false) = true) →
        inI (v19 + 1) ∧
        rec8 ((v19 + 1), v20))) ∧
    (¬ (v19 < (x0.Writes.length : Int)) →
      cut_Least_W x0 v20 fun v21 =>
        (v21.2 ≠ 0 →
          consistency_Find_J5 Φ (v21.2, ([] : List Int), false)) ∧
        (¬ (v21.2 ≠ 0) →
          history_Image_W x0 v21.1 fun v22 =>
            (v22.2 ≠ 0 →
              consistency_Find_J5 Φ (v22.2, ([] : List Int), false)) ∧
            (¬ (v22.2 ≠ 0) →
              LoopW (consistency_Find_L10 x1 v14 v15 v16 v18 v21 v22 Φ) 0)))
def consistency_Find_J7 (x0 : api_History) (x1 : List (List Sec)) (Φ : List Int × Bool × Int → Prop) : Bool × Int × Int × (List (Int × Bool)) × List Sec → Prop
  | (v14, v15, v16, v17, v18) =>
    (v14 = true →
      consistency_Find_J5 Φ (0, ([] : List Int), true)) ∧
    (¬ (v14 = true) →
      LoopW (consistency_Find_L8 x0 x1 v14 v15 v16 v17 v18 Φ) (0, ([] : List Int)))
def consistency_Find_L13 (x0 : api_History) (x1 : List (List Sec)) (v5 : List (consistency_content × Int)) (v30 : Int) (rec12 : (Int × (List (Int × Bool))) → Prop) (Φ : List Int × Bool × Int → Prop) : (Int × (List (Int × Bool))) → ((Int × (List (Int × Bool))) → Prop) → Prop
  | (v32, v33), rec13 =>
    (v32 < ((ix x1 v30).length : Int) →
      inX v32 (ix x1 v30).length ∧
      ((ix (ix x1 v30) v32) = sec0 →
        inI (v32 + 1) ∧
        rec13 ((v32 + 1), v33)) ∧
      (¬ ((ix (ix x1 v30) v32) = sec0) →
        (¬ ((mhas v5 (consistency_content.mk (consistency_place.mk v30 v32) (ix (ix x1 v30) v32))) = true) →
          consistency_single_W (consistency_place.mk v30 v32) (ix (ix x1 v30) v32) fun v34 =>
            consistency_Find_J7 x0 x1 Φ (true, v34.Volume, v34.Start, v33, v34.Data)) ∧
        (¬ (¬ ((mhas v5 (consistency_content.mk (consistency_place.mk v30 v32) (ix (ix x1 v30) v32))) = true)) →
          inI (v32 + 1) ∧
          rec13 ((v32 + 1), (mput v33 (mget v5 (consistency_content.mk (consistency_place.mk v30 v32) (ix (ix x1 v30) v32)) 0) true))))) ∧
    (¬ (v32 < ((ix x1 v30).length : Int)) →
      inI (v30 + 1) ∧
      rec12 ((v30 + 1), v33))
def consistency_Find_L12 (x0 : api_History) (x1 : List (List Sec)) (v5 : List (consistency_content × Int)) (Φ : List Int × Bool × Int → Prop) : (Int × (List (Int × Bool))) → ((Int × (List (Int × Bool))) → Prop) → Prop
  | (v30, v31), rec12 =>
    (v30 < (x1.length : Int) →
      inX v30 x1.length ∧
      LoopW (consistency_Find_L13 x0 x1 v5 v30 rec12 Φ) (0, v31)) ∧
    (¬ (v30 < (x1.length : Int)) →
      consistency_Find_J7 x0 x1 Φ (false, 0, 0, v31, ([] : List Sec)))
def consistency_Find_L2 (x0 : api_History) (x1 : List (List Sec)) (Φ : List Int × Bool × Int → Prop) : (Int × (List (consistency_content × Int))) → ((Int × (List (consistency_content × Int))) → Prop) → Prop
  | (v4, v5), rec2 =>
    (v4 < (x0.Writes.length : Int) →
      inX v4 x0.Writes.length ∧
      LoopW (consistency_Find_L4 x0 v4 rec2 Φ) (0, v5)) ∧
    (¬ (v4 < (x0.Writes.length : Int)) →
      ((0 : Int) ≠ 0 →
        Φ (([] : List Int), false, 0)) ∧
      (¬ ((0 : Int) ≠ 0) →
        LoopW (consistency_Find_L12 x0 x1 v5 Φ) (0, ([] : List (Int × Bool)))))
def consistency_Find_J1 (x0 : api_History) (x1 : List (List Sec)) (Φ : List Int × Bool × Int → Prop) : Bool → Prop
  | v3 =>
    (v3 = true →
      ((22 : Int) ≠ 0 →
        Φ (([] : List Int), false, 22)) ∧
      (¬ ((22 : Int) ≠ 0) →
        False)) ∧
    (¬ (v3 = true) →
      LoopW (consistency_Find_L2 x0 x1 Φ) (0, ([] : List (consistency_content × Int))))
def consistency_Find_L14 (x0 : api_History) (x1 : List (List Sec)) (Φ : List Int × Bool × Int → Prop) : (Int) → ((Int) → Prop) → Prop
  | v35, rec14 =>
    (v35 < (x1.length : Int) →
      inX v35 x1.length ∧
      inX v35 x0.Sizes.length ∧
      consistency_newJudge_1_W (ix x1 v35) (ix x0.Sizes v35) fun v36 =>
        (¬ (v36 = true) →
          consistency_Find_J1 x0 x1 Φ true) ∧
        (¬ (¬ (v36 = true)) →
          inI (v35 + 1) ∧
          rec14 (v35 + 1))) ∧
    (¬ (v35 < (x1.length : Int)) →
      consistency_Find_J1 x0 x1 Φ false)
def consistency_Find_W (x0 : api_History) (x1 : List (List Sec)) (Φ : List Int × Bool × Int → Prop) : Prop :=
  history_Check_W x0 fun v1 =>
    (v1 ≠ 0 →
      (v1 ≠ 0 →
        Φ (([] : List Int), false, v1)) ∧
      (¬ (v1 ≠ 0) →
        False)) ∧
    (¬ (v1 ≠ 0) →
      image_Check_W x1 fun v2 =>
        (v2 ≠ 0 →
          (v2 ≠ 0 →
            Φ (([] : List Int), false, v2)) ∧
          (¬ (v2 ≠ 0) →
            False)) ∧
        (¬ (v2 ≠ 0) →
          ((x1.length : Int) ≠ (x0.Sizes.length : Int) →
            consistency_Find_J1 x0 x1 Φ true) ∧
          (¬ ((x1.length : Int) ≠ (x0.Sizes.length : Int)) →
            LoopW (consistency_Find_L14 x0 x1 Φ) 0)))
def cut_Greatest_L1 (x1 : List Int) (Φ : List Int × Int → Prop) : (Unit) → ((Unit) → Prop) → Prop
  | _, _ =>
    (0 < (([x1] : List (List Int)).length : Int) →
      inX 0 ([x1] : List (List Int)).length ∧
      False) ∧
    (¬ (0 < (([x1] : List (List Int)).length : Int)) →
      ((0 : Int) ≠ 0 →
        Φ (([] : List Int), 0)) ∧
      (¬ ((0 : Int) ≠ 0) →
        False))
def cut_Greatest_L5 (x0 : api_History) (v5 : List Int) (v6 : List Int) (v8 : List (List Bool)) (rec4 : (List (Int × Unit) × List Bool) → Prop) (v12 : Int × Unit) (r13 : List (Int × Unit)) (_ : List Int × Int → Prop) : (Int × List Bool) → ((Int × List Bool) → Prop) → Prop
  | (v14, v15), rec5 =>
    (v14 < (x0.Writes.length : Int) →
      inX v12.1 v15.length ∧
      ((ix v15 v12.1) = true →
        inX 0 v8.length ∧
        inX v14 (ix v8 0).length ∧
        ((ix (ix v8 0) v14) = true →
          inX v12.1 v15.length ∧
          inI (v14 + 1) ∧
          rec5 ((v14 + 1), (put v15 v12.1 true))) ∧
        (¬ ((ix (ix v8 0) v14) = true) →
          ∃ v16 : Bool × Unit, cut_relation_before_W (Ptr.mk (cut_relation.mk (x0.Writes.length : Int) (x0.Events.length : Int) v5 v6)) v14 v12.1 (fun z => (z, ()) = v16) ∧
          inX v12.1 v15.length ∧
          inI (v14 + 1) ∧
          rec5 ((v14 + 1), (put v15 v12.1 (decide (¬ (v16.1 = true))))))) ∧
      (¬ ((ix v15 v12.1) = true) →
        inX v12.1 v15.length ∧
        inI (v14 + 1) ∧
        rec5 ((v14 + 1), (put v15 v12.1 false)))) ∧
    (¬ (v14 < (x0.Writes.length : Int)) →
      rec4 (r13, v15))
def cut_Greatest_L4 (x0 : api_History) (v5 : List Int) (v6 : List Int) (v8 : List (List Bool)) (Φ : List Int × Int → Prop) : (List (Int × Unit) × List Bool) → ((List (Int × Unit) × List Bool) → Prop) → Prop
  | (lst, v11), rec4 =>
    match lst with
    | [] =>
      cut_marks_list_W v11 fun v17 =>
        Φ (v17, 0)
    | v12 :: r13 =>
      LoopW (cut_Greatest_L5 x0 v5 v6 v8 rec4 v12 r13 Φ) (0, v11)
def cut_Greatest_L3 (x0 : api_History) (x1 : List Int) (v5 : List Int) (v6 : List Int) (Φ : List Int × Int → Prop) : (Int × List (List Bool)) → ((Int × List (List Bool)) → Prop) → Prop
  | (v7, v8), rec3 =>
    (v7 < (([x1] : List (List Int)).length : Int) →
      inX v7 ([x1] : List (List Int)).length ∧
      cut_relation_mark_W (Ptr.mk (cut_relation.mk (x0.Writes.length : Int) (x0.Events.length : Int) v5 v6)) (ix ([x1] : List (List Int)) v7) fun v9 =>
        (¬ (v9.2 = true) →
          ((2 : Int) ≠ 0 →
            Φ (([] : List Int), 2)) ∧
          (¬ ((2 : Int) ≠ 0) →
            False)) ∧
        (¬ (¬ (v9.2 = true)) →
          lenOk (v8 ++ ([v9.1] : List (List Bool))).length 24 ∧
          inI (v7 + 1) ∧
          rec3 ((v7 + 1), (v8 ++ ([v9.1] : List (List Bool)))))) ∧
    (¬ (v7 < (([x1] : List (List Int)).length : Int)) →
      ((0 : Int) ≠ 0 →
        Φ (([] : List Int), 0)) ∧
      (¬ ((0 : Int) ≠ 0) →
        inX 0 v8.length ∧
        slices_Clone_cut_marks_bool_W (ix v8 0) fun v10 =>
          inX 0 v8.length ∧
          ∃ l18 : List (Int × Unit), cut_marks_members_1_I (ix v8 0) l18 ∧
          LoopW (cut_Greatest_L4 x0 v5 v6 v8 Φ) (l18, v10)))
def cut_Greatest_L2 (x0 : api_History) (x1 : List Int) (Φ : List Int × Int → Prop) : (Int × List Int × List Int) → ((Int × List Int × List Int) → Prop) → Prop
  | (v4, v5, v6), rec2 =>
    (v4 < (x0.Events.length : Int) →
      inX v4 x0.Events.length ∧
      (((ix x0.Events v4).Kind) = 0 →
        inX ((ix x0.Events v4).Write) v5.length ∧
        inI (v4 + 1) ∧
        rec2 ((v4 + 1), (put v5 ((ix x0.Events v4).Write) v4), v6)) ∧
      (¬ (((ix x0.Events v4).Kind) = 0) →
        inX ((ix x0.Events v4).Write) v6.length ∧
        inI (v4 + 1) ∧
        rec2 ((v4 + 1), v5, (put v6 ((ix x0.Events v4).Write) v4)))) ∧
    (¬ (v4 < (x0.Events.length : Int)) →
      ((0 : Int) ≠ 0 →
        ((0 : Int) ≠ 0 →
          Φ (([] : List Int), 0)) ∧
        (¬ ((0 : Int) ≠ 0) →
          False)) ∧
      (¬ ((0 : Int) ≠ 0) →
        LoopW (cut_Greatest_L3 x0 x1 v5 v6 Φ) (0, ([] : List (List Bool)))))
def cut_Greatest_W (x0 : api_History) (x1 : List Int) (Φ : List Int × Int → Prop) : Prop :=
  history_Check_W x0 fun v1 =>
    (v1 ≠ 0 →
      (v1 ≠ 0 →
        (v1 ≠ 0 →
          Φ (([] : List Int), v1)) ∧
        (¬ (v1 ≠ 0) →
          False)) ∧
      (¬ (v1 ≠ 0) →
        LoopW (cut_Greatest_L1 x1 Φ) ())) ∧
    (¬ (v1 ≠ 0) →
      ∃ v2 : List Int × Unit, slices_Repeat_int_int_W ([(x0.Events.length : Int)] : List Int) (x0.Writes.length : Int) (fun z => (z, ()) = v2) ∧
      ∃ v3 : List Int × Unit, slices_Repeat_int_int_W ([(x0.Events.length : Int)] : List Int) (x0.Writes.length : Int) (fun z => (z, ()) = v3) ∧
      LoopW (cut_Greatest_L2 x0 x1 Φ) (0, v2.1, v3.1))
def consistency_Newest_J3 (v4 : Int) (rec2 : (Int × (List (consistency_content × Int))) → Prop) (Φ : List Int × Bool × Int → Prop) : Bool × (List (consistency_content × Int)) → Prop
  | (v6, v7) =>
    (¬ (v6 = true) →
      ((1 : Int) ≠ 0 →
        Φ (([] : List Int), false, 1)) ∧
      (¬ ((1 : Int) ≠ 0) →
        False)) ∧
    (¬ (¬ (v6 = true)) →
      inI (v4 + 1) ∧
      rec2 ((v4 + 1), v7))
def consistency_Newest_L4 (x0 : api_History) (v4 : Int) (rec2 : (Int × (List (consistency_content × Int))) → Prop) (Φ : List Int × Bool × Int → Prop) : (Int × (List (consistency_content × Int))) → ((Int × (List (consistency_content × Int))) → Prop) → Prop
  | (v8, v9), rec4 =>
    (v8 < (((ix x0.Writes v4).Data).length : Int) →
      inX v8 ((ix x0.Writes v4).Data).length ∧
      inI (((ix x0.Writes v4).Start) + v8) ∧
      (¬ ((mhas v9 (consistency_content.mk (consistency_place.mk ((ix x0.Writes v4).Volume) (((ix x0.Writes v4).Start) + v8)) (ix ((ix x0.Writes v4).Data) v8))) = true) →
        (¬ ((ix ((ix x0.Writes v4).Data) v8) ≠ sec0) →
          consistency_Newest_J3 v4 rec2 Φ (false, (mput v9 (consistency_content.mk (consistency_place.mk ((ix x0.Writes v4).Volume) (((ix x0.Writes v4).Start) + v8)) (ix ((ix x0.Writes v4).Data) v8)) v4))) ∧
        (¬ (¬ ((ix ((ix x0.Writes v4).Data) v8) ≠ sec0)) →
          inI (v8 + 1) ∧
          rec4 ((v8 + 1), (mput v9 (consistency_content.mk (consistency_place.mk ((ix x0.Writes v4).Volume) (((ix x0.Writes v4).Start) + v8)) (ix ((ix x0.Writes v4).Data) v8)) v4)))) ∧
      (¬ (¬ ((mhas v9 (consistency_content.mk (consistency_place.mk ((ix x0.Writes v4).Volume) (((ix x0.Writes v4).Start) + v8)) (ix ((ix x0.Writes v4).Data) v8))) = true)) →
        consistency_Newest_J3 v4 rec2 Φ (false, (mput v9 (consistency_content.mk (consistency_place.mk ((ix x0.Writes v4).Volume) (((ix x0.Writes v4).Start) + v8)) (ix ((ix x0.Writes v4).Data) v8)) v4)))) ∧
    (¬ (v8 < (((ix x0.Writes v4).Data).length : Int)) →
      consistency_Newest_J3 v4 rec2 Φ (true, v9))
def consistency_Newest_J8 (v13 : Int) (v14 : List Int) (rec7 : (Int × List Int) → Prop) (_ : List Int × Bool × Int → Prop) : Bool → Prop
  | v15 =>
    (v15 = true →
      lenOk (v14 ++ ([v13] : List Int)).length 8 ∧
      inI (v13 + 1) ∧
      rec7 ((v13 + 1), (v14 ++ ([v13] : List Int)))) ∧
    (¬ (v15 = true) →
      inI (v13 + 1) ∧
      rec7 ((v13 + 1), v14))
def consistency_Newest_L9 (x0 : api_History) (x1 : List (List Sec)) (v5 : List (consistency_content × Int)) (v13 : Int) (v14 : List Int) (rec7 : (Int × List Int) → Prop) (Φ : List Int × Bool × Int → Prop) : (Int) → ((Int) → Prop) → Prop
  | v16, rec9 =>
    (v16 < (((ix x0.Writes v13).Data).length : Int) →
      inX v16 ((ix x0.Writes v13).Data).length ∧
      inI (((ix x0.Writes v13).Start) + v16) ∧
      inX ((ix x0.Writes v13).Volume) x1.length ∧
      inX (((ix x0.Writes v13).Start) + v16) (ix x1 ((ix x0.Writes v13).Volume)).length ∧
      ((mhas v5 (consistency_content.mk (consistency_place.mk ((ix x0.Writes v13).Volume) (((ix x0.Writes v13).Start) + v16)) (ix (ix x1 ((ix x0.Writes v13).Volume)) (((ix x0.Writes v13).Start) + v16)))) = true →
        (¬ (v13 ≤ (mget v5 (consistency_content.mk (consistency_place.mk ((ix x0.Writes v13).Volume) (((ix x0.Writes v13).Start) + v16)) (ix (ix x1 ((ix x0.Writes v13).Volume)) (((ix x0.Writes v13).Start) + v16))) 0)) →
          consistency_Newest_J8 v13 v14 rec7 Φ false) ∧
        (¬ (¬ (v13 ≤ (mget v5 (consistency_content.mk (consistency_place.mk ((ix x0.Writes v13).Volume) (((ix x0.Writes v13).Start) + v16)) (ix (ix x1 ((ix x0.Writes v13).Volume)) (((ix x0.Writes v13).Start) + v16))) 0))) →
          inI (v16 + 1) ∧
          rec9 (v16 + 1))) ∧
      (¬ ((mhas v5 (consistency_content.mk (consistency_place.mk ((ix x0.Writes v13).Volume) (((ix x0.Writes v13).Start) + v16)) (ix (ix x1 ((ix x0.Writes v13).Volume)) (((ix x0.Writes v13).Start) + v16)))) = true) →
        consistency_Newest_J8 v13 v14 rec7 Φ false)) ∧
    (¬ (v16 < (((ix x0.Writes v13).Data).length : Int)) →
      consistency_Newest_J8 v13 v14 rec7 Φ true)
def consistency_Newest_L7 (x0 : api_History) (x1 : List (List Sec)) (v5 : List (consistency_content × Int)) (Φ : List Int × Bool × Int → Prop) : (Int × List Int) → ((Int × List Int) → Prop) → Prop
  | (v13, v14), rec7 =>
    (v13 < (x0.Writes.length : Int) →
      inX v13 x0.Writes.length ∧
      LoopW (consistency_Newest_L9 x0 x1 v5 v13 v14 rec7 Φ) 0) ∧
    (¬ (v13 < (x0.Writes.length : Int)) →
      cut_Greatest_W x0 v14 fun v17 =>
        Φ (v17.1, decide (v17.2 = 0), v17.2))
def consistency_Newest_J6 (x0 : api_History) (x1 : List (List Sec)) (v5 : List (consistency_content × Int)) (v11 : Int) (Φ : List Int × Bool × Int → Prop) : Bool → Prop
  | v12 =>
    (v12 = true →
      Φ (([] : List Int), false, v11)) ∧
    (¬ (v12 = true) →
      LoopW (consistency_Newest_L7 x0 x1 v5 Φ) (0, ([] : List Int)))
def consistency_Newest_J5 (x0 : api_History) (x1 : List (List Sec)) (v5 : List (consistency_content × Int)) (Φ : List Int × Bool × Int → Prop) : Bool × Int → Prop
  | (v10, v11) =>
    Join (consistency_Newest_J6 x0 x1 v5 v11 Φ) fun J6 =>
      (v11 ≠ 0 →
        J6 true) ∧
      (¬ (v11 ≠ 0) →
        J6 v10)
def consistency_Newest_J12 (x0 : api_History) (x1 : List (List Sec)) (v5 : List (consistency_content × Int)) (Φ : List Int × Bool × Int → Prop) : Bool × Int × Int × List Sec → Prop
  | (v27, _, _, _) =>
    consistency_Newest_J5 x0 x1 v5 Φ (v27, 0)
def consistency_Newest_L14 (x0 : api_History) (x1 : List (List Sec)) (v5 : List (consistency_content × Int)) (v18 : Bool) (v19 : Int) (v20 : Int) (v22 : List Sec) (v26 : List (List Sec) × Int) (v31 : Int) (rec13 : (Int) → Prop) (Φ : List Int × Bool × Int → Prop) : (Int) → ((Int) → Prop) → Prop
  | v32, rec14 =>
    (v32 < ((ix v26.1 v31).length : Int) →
      inX v32 (ix v26.1 v31).length ∧
      inX v31 x1.length ∧
      inX v32 (ix x1 v31).length ∧
      ((ix (ix v26.1 v31) v32) ≠ (ix (ix x1 v31) v32) →
        consistency_single_W (consistency_place.mk v31 v32) (ix (ix v26.1 v31) v32) fun v33 =>
          consistency_Newest_J12 x0 x1 v5 Φ (true, v33.Volume, v33.Start, v33.Data)) ∧
      (¬ ((ix (ix v26.1 v31) v32) ≠ (ix (ix x1 v31) v32)) →
        (¬ (¬ (v18 = true)) →
          consistency_Newest_J12 x0 x1 v5 Φ (v18, v19, v20, v22)) ∧
        (¬ (¬ (¬ (v18 = true))) →
          inI (v32 + 1) ∧
          rec14 (v32 + 1)))) ∧
    (¬ (v32 < ((ix v26.1 v31).length : Int)) →
      inI (v31 + 1) ∧
      rec13 (v31 + 1))
def consistency_Newest_L13 (x0 : api_History) (x1 : List (List Sec)) (v5 : List (consistency_content × Int)) (v18 : Bool) (v19 : Int) (v20 : Int) (v22 : List Sec) (v26 : List (List Sec) × Int) (Φ : List Int × Bool × Int → Prop) : (Int) → ((Int) → Prop) → Prop
  | v31, rec13 =>
    (v31 < (v26.1.length : Int) →
      inX v31 v26.1.length ∧
      LoopW (consistency_Newest_L14 x0 x1 v5 v18 v19 v20 v22 v26 v31 rec13 Φ) 0) ∧
    (¬ (v31 < (v26.1.length : Int)) →
      consistency_Newest_J12 x0 x1 v5 Φ (v18, v19, v20, v22))
def consistency_Newest_L11 (x0 : api_History) (x1 : List (List Sec)) (v5 : List (consistency_content × Int)) (v18 : Bool) (v19 : Int) (v20 : Int) (v21 : List (Int × Bool)) (v22 : List Sec) (Φ : List Int × Bool × Int → Prop) : (Int × List Int) → ((Int × List Int) → Prop) → Prop
  | (v23, v24), rec11 =>
    (v23 < (x0.Writes.length : Int) →
      ((mget v21 v23 false) = true →
        lenOk (v24 ++ ([v23] : List Int)).length 8 ∧
        inI (v23 + 1) ∧
        rec11 ((v23 + 1), (v24 ++ ([v23] : List Int)))) ∧
      (¬ ((mget v21 v23 false) = true) →
        inI (v23 + 1) ∧
        rec11 ((v23 + 1), v24))) ∧
    (¬ (v23 < (x0.Writes.length : Int)) →
      cut_Least_W x0 v24 fun v25 =>
        (v25.2 ≠ 0 →
          consistency_Newest_J5 x0 x1 v5 Φ (false, v25.2)) ∧
        (¬ (v25.2 ≠ 0) →
          history_Image_W x0 v25.1 fun v26 =>
            (v26.2 ≠ 0 →
              consistency_Newest_J5 x0 x1 v5 Φ (false, v26.2)) ∧
            (¬ (v26.2 ≠ 0) →
              LoopW (consistency_Newest_L13 x0 x1 v5 v18 v19 v20 v22 v26 Φ) 0)))
def consistency_Newest_J10 (x0 : api_History) (x1 : List (List Sec)) (v5 : List (consistency_content × Int)) (Φ : List Int × Bool × Int → Prop) : Bool × Int × Int × (List (Int × Bool)) × List Sec → Prop
  | (v18, v19, v20, v21, v22) =>
    (v18 = true →
      consistency_Newest_J5 x0 x1 v5 Φ (true, 0)) ∧
    (¬ (v18 = true) →
      LoopW (consistency_Newest_L11 x0 x1 v5 v18 v19 v20 v21 v22 Φ) (0, ([] : List Int)))
def consistency_Newest_L16 (x0 : api_History) (x1 : List (List Sec)) (v5 : List (consistency_content × Int)) (v34 : Int) (rec15 : (Int × (List (Int × Bool))) → Prop) (Φ : List Int × Bool × Int → Prop) : (Int × (List (Int × Bool))) → ((Int × (List (Int × Bool))) → Prop) → Prop
  | (v36, v37), rec16 =>
    (v36 < ((ix x1 v34).length : Int) →
      inX v36 (ix x1 v34).length ∧
      ((ix (ix x1 v34) v36) = sec0 →
        inI (v36 + 1) ∧
        rec16 ((v36 + 1), v37)) ∧
      (¬ ((ix (ix x1 v34) v36) = sec0) →
        (¬ ((mhas v5 (consistency_content.mk (consistency_place.mk v34 v36) (ix (ix x1 v34) v36))) = true) →
          consistency_single_W (consistency_place.mk v34 v36) (ix (ix x1 v34) v36) fun v38 =>
            consistency_Newest_J10 x0 x1 v5 Φ (true, v38.Volume, v38.Start, v37, v38.Data)) ∧
        (¬ (¬ ((mhas v5 (consistency_content.mk (consistency_place.mk v34 v36) (ix (ix x1 v34) v36))) = true)) →
          inI (v36 + 1) ∧
          rec16 ((v36 + 1), (mput v37 (mget v5 (consistency_content.mk (consistency_place.mk v34 v36) (ix (ix x1 v34) v36)) 0) true))))) ∧
    (¬ (v36 < ((ix x1 v34).length : Int)) →
      inI (v34 + 1) ∧
      rec15 ((v34 + 1), v37))
def consistency_Newest_L15 (x0 : api_History) (x1 : List (List Sec)) (v5 : List (consistency_content × Int)) (Φ : List Int × Bool × Int → Prop) : (Int × (List (Int × Bool))) → ((Int × (List (Int × Bool))) → Prop) → Prop
  | (v34, v35), rec15 =>
    (v34 < (x1.length : Int) →
      inX v34 x1.length ∧
      LoopW (consistency_Newest_L16 x0 x1 v5 v34 rec15 Φ) (0, v35)) ∧
    (¬ (v34 < (x1.length : Int)) →
      consistency_Newest_J10 x0 x1 v5 Φ (false, 0, 0, v35, ([] : List Sec)))
def consistency_Newest_L2 (x0 : api_History) (x1 : List (List Sec)) (Φ : List Int × Bool × Int → Prop) : (Int × (List (consistency_content × Int))) → ((Int × (List (consistency_content × Int))) → Prop) → Prop
  | (v4, v5), rec2 =>
    (v4 < (x0.Writes.length : Int) →
      inX v4 x0.Writes.length ∧
      LoopW (consistency_Newest_L4 x0 v4 rec2 Φ) (0, v5)) ∧
    (¬ (v4 < (x0.Writes.length : Int)) →
      ((0 : Int) ≠ 0 →
        Φ (([] : List Int), false, 0)) ∧
      (¬ ((0 : Int) ≠ 0) →
        LoopW (consistency_Newest_L15 x0 x1 v5 Φ) (0, ([] : List (Int × Bool)))))
def consistency_Newest_J1 (x0 : api_History) (x1 : List (List Sec)) (Φ : List Int × Bool × Int → Prop) : Bool → Prop
  | v3 =>
    (v3 = true →
      ((22 : Int) ≠ 0 →
        Φ (([] : List Int), false, 22)) ∧
      (¬ ((22 : Int) ≠ 0) →
        False)) ∧
    (¬ (v3 = true) →
      LoopW (consistency_Newest_L2 x0 x1 Φ) (0, ([] : List (consistency_content × Int))))
def consistency_Newest_L17 (x0 : api_History) (x1 : List (List Sec)) (Φ : List Int × Bool × Int → Prop) : (Int) → ((Int) → Prop) → Prop
  | v39, rec17 =>
    (v39 < (x1.length : Int) →
      inX v39 x1.length ∧
      inX v39 x0.Sizes.length ∧
      consistency_newJudge_1_W (ix x1 v39) (ix x0.Sizes v39) fun v40 =>
        (¬ (v40 = true) →
          consistency_Newest_J1 x0 x1 Φ true) ∧
        (¬ (¬ (v40 = true)) →
          inI (v39 + 1) ∧
          rec17 (v39 + 1))) ∧
    (¬ (v39 < (x1.length : Int)) →
      consistency_Newest_J1 x0 x1 Φ false)
def consistency_Newest_W (x0 : api_History) (x1 : List (List Sec)) (Φ : List Int × Bool × Int → Prop) : Prop :=
  history_Check_W x0 fun v1 =>
    (v1 ≠ 0 →
      (v1 ≠ 0 →
        Φ (([] : List Int), false, v1)) ∧
      (¬ (v1 ≠ 0) →
        False)) ∧
    (¬ (v1 ≠ 0) →
      image_Check_W x1 fun v2 =>
        (v2 ≠ 0 →
          (v2 ≠ 0 →
            Φ (([] : List Int), false, v2)) ∧
          (¬ (v2 ≠ 0) →
            False)) ∧
        (¬ (v2 ≠ 0) →
          ((x1.length : Int) ≠ (x0.Sizes.length : Int) →
            consistency_Newest_J1 x0 x1 Φ true) ∧
          (¬ ((x1.length : Int) ≠ (x0.Sizes.length : Int)) →
            LoopW (consistency_Newest_L17 x0 x1 Φ) 0)))
def ref15_First_L1 (x0 : Int) (Φ : List Int → Prop) : (Int × List Int) → ((Int × List Int) → Prop) → Prop
  | (v1, v2), rec1 =>
    (v1 < x0 →
      lenOk (v2 ++ ([v1] : List Int)).length 8 ∧
      inI (v1 + 1) ∧
      rec1 ((v1 + 1), (v2 ++ ([v1] : List Int)))) ∧
    (¬ (v1 < x0) →
      Φ v2)
def ref15_First_W (x0 : Int) (Φ : List Int → Prop) : Prop :=
  LoopW (ref15_First_L1 x0 Φ) (0, ([] : List Int))
def slices_Equal_int_int_L1 (x0 : List Int) (x1 : List Int) (Φ : Bool → Prop) : (Int) → ((Int) → Prop) → Prop
  | v1, rec1 =>
    (v1 < (x0.length : Int) →
      inX v1 x0.length ∧
      inX v1 x1.length ∧
      ((ix x0 v1) ≠ (ix x1 v1) →
        Φ false) ∧
      (¬ ((ix x0 v1) ≠ (ix x1 v1)) →
        inI (v1 + 1) ∧
        rec1 (v1 + 1))) ∧
    (¬ (v1 < (x0.length : Int)) →
      Φ true)
def slices_Equal_int_int_W (x0 : List Int) (x1 : List Int) (Φ : Bool → Prop) : Prop :=
  ((x0.length : Int) ≠ (x1.length : Int) →
    Φ false) ∧
  (¬ ((x0.length : Int) ≠ (x1.length : Int)) →
    LoopW (slices_Equal_int_int_L1 x0 x1 Φ) 0)
def consistency_Conflict_J3 (v4 : Int) (rec2 : (Int × (List (consistency_content × Int))) → Prop) (Φ : api_Write × Bool × Int → Prop) : Bool × (List (consistency_content × Int)) → Prop
  | (v6, v7) =>
    (¬ (v6 = true) →
      ((1 : Int) ≠ 0 →
        Φ ((api_Write.mk 0 0 ([] : List Sec)), false, 1)) ∧
      (¬ ((1 : Int) ≠ 0) →
        False)) ∧
    (¬ (¬ (v6 = true)) →
      inI (v4 + 1) ∧
      rec2 ((v4 + 1), v7))
def consistency_Conflict_L4 (x0 : api_History) (v4 : Int) (rec2 : (Int × (List (consistency_content × Int))) → Prop) (Φ : api_Write × Bool × Int → Prop) : (Int × (List (consistency_content × Int))) → ((Int × (List (consistency_content × Int))) → Prop) → Prop
  | (v8, v9), rec4 =>
    (v8 < (((ix x0.Writes v4).Data).length : Int) →
      inX v8 ((ix x0.Writes v4).Data).length ∧
      inI (((ix x0.Writes v4).Start) + v8) ∧
      (¬ ((mhas v9 (consistency_content.mk (consistency_place.mk ((ix x0.Writes v4).Volume) (((ix x0.Writes v4).Start) + v8)) (ix ((ix x0.Writes v4).Data) v8))) = true) →
        (¬ ((ix ((ix x0.Writes v4).Data) v8) ≠ sec0) →
          consistency_Conflict_J3 v4 rec2 Φ (false, (mput v9 (consistency_content.mk (consistency_place.mk ((ix x0.Writes v4).Volume) (((ix x0.Writes v4).Start) + v8)) (ix ((ix x0.Writes v4).Data) v8)) v4))) ∧
        (¬ (¬ ((ix ((ix x0.Writes v4).Data) v8) ≠ sec0)) →
          inI (v8 + 1) ∧
          rec4 ((v8 + 1), (mput v9 (consistency_content.mk (consistency_place.mk ((ix x0.Writes v4).Volume) (((ix x0.Writes v4).Start) + v8)) (ix ((ix x0.Writes v4).Data) v8)) v4)))) ∧
      (¬ (¬ ((mhas v9 (consistency_content.mk (consistency_place.mk ((ix x0.Writes v4).Volume) (((ix x0.Writes v4).Start) + v8)) (ix ((ix x0.Writes v4).Data) v8))) = true)) →
        consistency_Conflict_J3 v4 rec2 Φ (false, (mput v9 (consistency_content.mk (consistency_place.mk ((ix x0.Writes v4).Volume) (((ix x0.Writes v4).Start) + v8)) (ix ((ix x0.Writes v4).Data) v8)) v4)))) ∧
    (¬ (v8 < (((ix x0.Writes v4).Data).length : Int)) →
      consistency_Conflict_J3 v4 rec2 Φ (true, v9))
def consistency_Conflict_J7 (Φ : api_Write × Bool × Int → Prop) : Bool × Int × Int × List Sec → Prop
  | (v19, v20, v21, v22) =>
    Φ ((api_Write.mk v20 v21 v22), v19, 0)
def consistency_Conflict_L9 (x1 : List (List Sec)) (v10 : Bool) (v11 : Int) (v12 : Int) (v14 : List Sec) (v18 : List (List Sec) × Int) (v23 : Int) (rec8 : (Int) → Prop) (Φ : api_Write × Bool × Int → Prop) : (Int) → ((Int) → Prop) → Prop
  | v24, rec9 =>
    (v24 < ((ix v18.1 v23).length : Int) →
      inX v24 (ix v18.1 v23).length ∧
      inX v23 x1.length ∧
      inX v24 (ix x1 v23).length ∧
      ((ix (ix v18.1 v23) v24) ≠ (ix (ix x1 v23) v24) →
        consistency_single_W (consistency_place.mk v23 v24) (ix (ix v18.1 v23) v24) fun v25 =>
          consistency_Conflict_J7 Φ (true, v25.Volume, v25.Start, v25.Data)) ∧
      (¬ ((ix (ix v18.1 v23) v24) ≠ (ix (ix x1 v23) v24)) →
        (¬ (¬ (v10 = true)) →
          consistency_Conflict_J7 Φ (v10, v11, v12, v14)) ∧
        (¬ (¬ (¬ (v10 = true))) →
          inI (v24 + 1) ∧
          rec9 (v24 + 1)))) ∧
    (¬ (v24 < ((ix v18.1 v23).length : Int)) →
      inI (v23 + 1) ∧
      rec8 (v23 + 1))
def consistency_Conflict_L8 (x1 : List (List Sec)) (v10 : Bool) (v11 : Int) (v12 : Int) (v14 : List Sec) (v18 : List (List Sec) × Int) (Φ : api_Write × Bool × Int → Prop) : (Int) → ((Int) → Prop) → Prop
  | v23, rec8 =>
    (v23 < (v18.1.length : Int) →
      inX v23 v18.1.length ∧
      LoopW (consistency_Conflict_L9 x1 v10 v11 v12 v14 v18 v23 rec8 Φ) 0) ∧
    (¬ (v23 < (v18.1.length : Int)) →
      consistency_Conflict_J7 Φ (v10, v11, v12, v14))
def consistency_Conflict_L6 (x0 : api_History) (x1 : List (List Sec)) (v10 : Bool) (v11 : Int) (v12 : Int) (v13 : List (Int × Bool)) (v14 : List Sec) (Φ : api_Write × Bool × Int → Prop) : (Int × List Int) → ((Int × List Int) → Prop) → Prop
  | (v15, v16), rec6 =>
    (v15 < (x0.Writes.length : Int) →
      ((mget v13 v15 false) = true →
        lenOk (v16 ++ ([v15] : List Int)).length 8 ∧
        inI (v15 + 1) ∧
        rec6 ((v15 + 1), (v16 ++ ([v15] : List Int)))) ∧
      (¬ ((mget v13 v15 false) = true) →
        inI (v15 + 1) ∧
        rec6 ((v15 + 1), v16))) ∧
    (¬ (v15 < (x0.Writes.length : Int)) →
      cut_Least_W x0 v16 fun v17 =>
        (v17.2 ≠ 0 →
          Φ ((api_Write.mk 0 0 ([] : List Sec)), false, v17.2)) ∧
        (¬ (v17.2 ≠ 0) →
          history_Image_W x0 v17.1 fun v18 =>
            (v18.2 ≠ 0 →
              Φ ((api_Write.mk 0 0 ([] : List Sec)), false, v18.2)) ∧
            (¬ (v18.2 ≠ 0) →
              LoopW (consistency_Conflict_L8 x1 v10 v11 v12 v14 v18 Φ) 0)))
def consistency_Conflict_J5 (x0 : api_History) (x1 : List (List Sec)) (Φ : api_Write × Bool × Int → Prop) : Bool × Int × Int × (List (Int × Bool)) × List Sec → Prop
  | (v10, v11, v12, v13, v14) =>
    (v10 = true →
      Φ ((api_Write.mk v11 v12 v14), true, 0)) ∧
    (¬ (v10 = true) →
      LoopW (consistency_Conflict_L6 x0 x1 v10 v11 v12 v13 v14 Φ) (0, ([] : List Int)))
def consistency_Conflict_L11 (x0 : api_History) (x1 : List (List Sec)) (v5 : List (consistency_content × Int)) (v26 : Int) (rec10 : (Int × (List (Int × Bool))) → Prop) (Φ : api_Write × Bool × Int → Prop) : (Int × (List (Int × Bool))) → ((Int × (List (Int × Bool))) → Prop) → Prop
  | (v28, v29), rec11 =>
    (v28 < ((ix x1 v26).length : Int) →
      inX v28 (ix x1 v26).length ∧
      ((ix (ix x1 v26) v28) = sec0 →
        inI (v28 + 1) ∧
        rec11 ((v28 + 1), v29)) ∧
      (¬ ((ix (ix x1 v26) v28) = sec0) →
        (¬ ((mhas v5 (consistency_content.mk (consistency_place.mk v26 v28) (ix (ix x1 v26) v28))) = true) →
          consistency_single_W (consistency_place.mk v26 v28) (ix (ix x1 v26) v28) fun v30 =>
            consistency_Conflict_J5 x0 x1 Φ (true, v30.Volume, v30.Start, v29, v30.Data)) ∧
        (¬ (¬ ((mhas v5 (consistency_content.mk (consistency_place.mk v26 v28) (ix (ix x1 v26) v28))) = true)) →
          inI (v28 + 1) ∧
          rec11 ((v28 + 1), (mput v29 (mget v5 (consistency_content.mk (consistency_place.mk v26 v28) (ix (ix x1 v26) v28)) 0) true))))) ∧
    (¬ (v28 < ((ix x1 v26).length : Int)) →
      inI (v26 + 1) ∧
      rec10 ((v26 + 1), v29))
def consistency_Conflict_L10 (x0 : api_History) (x1 : List (List Sec)) (v5 : List (consistency_content × Int)) (Φ : api_Write × Bool × Int → Prop) : (Int × (List (Int × Bool))) → ((Int × (List (Int × Bool))) → Prop) → Prop
  | (v26, v27), rec10 =>
    (v26 < (x1.length : Int) →
      inX v26 x1.length ∧
      LoopW (consistency_Conflict_L11 x0 x1 v5 v26 rec10 Φ) (0, v27)) ∧
    (¬ (v26 < (x1.length : Int)) →
      consistency_Conflict_J5 x0 x1 Φ (false, 0, 0, v27, ([] : List Sec)))
def consistency_Conflict_L2 (x0 : api_History) (x1 : List (List Sec)) (Φ : api_Write × Bool × Int → Prop) : (Int × (List (consistency_content × Int))) → ((Int × (List (consistency_content × Int))) → Prop) → Prop
  | (v4, v5), rec2 =>
    (v4 < (x0.Writes.length : Int) →
      inX v4 x0.Writes.length ∧
      LoopW (consistency_Conflict_L4 x0 v4 rec2 Φ) (0, v5)) ∧
    (¬ (v4 < (x0.Writes.length : Int)) →
      ((0 : Int) ≠ 0 →
        Φ ((api_Write.mk 0 0 ([] : List Sec)), false, 0)) ∧
      (¬ ((0 : Int) ≠ 0) →
        LoopW (consistency_Conflict_L10 x0 x1 v5 Φ) (0, ([] : List (Int × Bool)))))
def consistency_Conflict_J1 (x0 : api_History) (x1 : List (List Sec)) (Φ : api_Write × Bool × Int → Prop) : Bool → Prop
  | v3 =>
    (v3 = true →
      ((22 : Int) ≠ 0 →
        Φ ((api_Write.mk 0 0 ([] : List Sec)), false, 22)) ∧
      (¬ ((22 : Int) ≠ 0) →
        False)) ∧
    (¬ (v3 = true) →
      LoopW (consistency_Conflict_L2 x0 x1 Φ) (0, ([] : List (consistency_content × Int))))
def consistency_Conflict_L12 (x0 : api_History) (x1 : List (List Sec)) (Φ : api_Write × Bool × Int → Prop) : (Int) → ((Int) → Prop) → Prop
  | v31, rec12 =>
    (v31 < (x1.length : Int) →
      inX v31 x1.length ∧
      inX v31 x0.Sizes.length ∧
      consistency_newJudge_1_W (ix x1 v31) (ix x0.Sizes v31) fun v32 =>
        (¬ (v32 = true) →
          consistency_Conflict_J1 x0 x1 Φ true) ∧
        (¬ (¬ (v32 = true)) →
          inI (v31 + 1) ∧
          rec12 (v31 + 1))) ∧
    (¬ (v31 < (x1.length : Int)) →
      consistency_Conflict_J1 x0 x1 Φ false)
def consistency_Conflict_W (x0 : api_History) (x1 : List (List Sec)) (Φ : api_Write × Bool × Int → Prop) : Prop :=
  history_Check_W x0 fun v1 =>
    (v1 ≠ 0 →
      (v1 ≠ 0 →
        Φ ((api_Write.mk 0 0 ([] : List Sec)), false, v1)) ∧
      (¬ (v1 ≠ 0) →
        False)) ∧
    (¬ (v1 ≠ 0) →
      image_Check_W x1 fun v2 =>
        (v2 ≠ 0 →
          (v2 ≠ 0 →
            Φ ((api_Write.mk 0 0 ([] : List Sec)), false, v2)) ∧
          (¬ (v2 ≠ 0) →
            False)) ∧
        (¬ (v2 ≠ 0) →
          ((x1.length : Int) ≠ (x0.Sizes.length : Int) →
            consistency_Conflict_J1 x0 x1 Φ true) ∧
          (¬ ((x1.length : Int) ≠ (x0.Sizes.length : Int)) →
            LoopW (consistency_Conflict_L12 x0 x1 Φ) 0)))
def consistency_Distinct_J2 (v2 : Int) (rec1 : (Int × (List (consistency_content × Int))) → Prop) (Φ : Bool → Prop) : Bool × (List (consistency_content × Int)) → Prop
  | (v4, v5) =>
    (¬ (v4 = true) →
      Φ false) ∧
    (¬ (¬ (v4 = true)) →
      inI (v2 + 1) ∧
      rec1 ((v2 + 1), v5))
def consistency_Distinct_L3 (x0 : api_History) (v2 : Int) (rec1 : (Int × (List (consistency_content × Int))) → Prop) (Φ : Bool → Prop) : (Int × (List (consistency_content × Int))) → ((Int × (List (consistency_content × Int))) → Prop) → Prop
  | (v6, v7), rec3 =>
    (v6 < (((ix x0.Writes v2).Data).length : Int) →
      inX v6 ((ix x0.Writes v2).Data).length ∧
      inI (((ix x0.Writes v2).Start) + v6) ∧
      (¬ ((mhas v7 (consistency_content.mk (consistency_place.mk ((ix x0.Writes v2).Volume) (((ix x0.Writes v2).Start) + v6)) (ix ((ix x0.Writes v2).Data) v6))) = true) →
        (¬ ((ix ((ix x0.Writes v2).Data) v6) ≠ sec0) →
          consistency_Distinct_J2 v2 rec1 Φ (false, (mput v7 (consistency_content.mk (consistency_place.mk ((ix x0.Writes v2).Volume) (((ix x0.Writes v2).Start) + v6)) (ix ((ix x0.Writes v2).Data) v6)) v2))) ∧
        (¬ (¬ ((ix ((ix x0.Writes v2).Data) v6) ≠ sec0)) →
          inI (v6 + 1) ∧
          rec3 ((v6 + 1), (mput v7 (consistency_content.mk (consistency_place.mk ((ix x0.Writes v2).Volume) (((ix x0.Writes v2).Start) + v6)) (ix ((ix x0.Writes v2).Data) v6)) v2)))) ∧
      (¬ (¬ ((mhas v7 (consistency_content.mk (consistency_place.mk ((ix x0.Writes v2).Volume) (((ix x0.Writes v2).Start) + v6)) (ix ((ix x0.Writes v2).Data) v6))) = true)) →
        consistency_Distinct_J2 v2 rec1 Φ (false, (mput v7 (consistency_content.mk (consistency_place.mk ((ix x0.Writes v2).Volume) (((ix x0.Writes v2).Start) + v6)) (ix ((ix x0.Writes v2).Data) v6)) v2)))) ∧
    (¬ (v6 < (((ix x0.Writes v2).Data).length : Int)) →
      consistency_Distinct_J2 v2 rec1 Φ (true, v7))
def consistency_Distinct_L1 (x0 : api_History) (Φ : Bool → Prop) : (Int × (List (consistency_content × Int))) → ((Int × (List (consistency_content × Int))) → Prop) → Prop
  | (v2, v3), rec1 =>
    (v2 < (x0.Writes.length : Int) →
      inX v2 x0.Writes.length ∧
      LoopW (consistency_Distinct_L3 x0 v2 rec1 Φ) (0, v3)) ∧
    (¬ (v2 < (x0.Writes.length : Int)) →
      Φ true)
def consistency_Distinct_W (x0 : api_History) (Φ : Bool → Prop) : Prop :=
  history_Check_W x0 fun v1 =>
    (v1 ≠ 0 →
      Φ false) ∧
    (¬ (v1 ≠ 0) →
      LoopW (consistency_Distinct_L1 x0 Φ) (0, ([] : List (consistency_content × Int))))
def law18_awake_1_W (x0 : Int) (x1 : BitVec 8) (Φ : List api_Write → Prop) : Prop :=
  Φ ([(api_Write.mk 0 x0 ([(Sec.mk x1 (0#8) (0#8) (0#8) (0#8) (0#8) (0#8) (0#8))] : List Sec))] : List api_Write)
def ref03_SameSectors_L1 (x0 : List Sec) (x1 : List Sec) (Φ : Bool → Prop) : (Int) → ((Int) → Prop) → Prop
  | v1, rec1 =>
    (v1 < (x0.length : Int) →
      inX v1 x0.length ∧
      inX v1 x1.length ∧
      ((ix x0 v1) ≠ (ix x1 v1) →
        Φ false) ∧
      (¬ ((ix x0 v1) ≠ (ix x1 v1)) →
        inI (v1 + 1) ∧
        rec1 (v1 + 1))) ∧
    (¬ (v1 < (x0.length : Int)) →
      Φ true)
def ref03_SameSectors_W (x0 : List Sec) (x1 : List Sec) (Φ : Bool → Prop) : Prop :=
  ((x0.length : Int) ≠ (x1.length : Int) →
    Φ false) ∧
  (¬ ((x0.length : Int) ≠ (x1.length : Int)) →
    LoopW (ref03_SameSectors_L1 x0 x1 Φ) 0)
def ref03_SameWrites_L1 (x0 : List api_Write) (x1 : List api_Write) (Φ : Bool → Prop) : (Int) → ((Int) → Prop) → Prop
  | v1, rec1 =>
    (v1 < (x0.length : Int) →
      inX v1 x0.length ∧
      inX v1 x1.length ∧
      (((ix x0 v1).Volume) ≠ ((ix x1 v1).Volume) →
        Φ false) ∧
      (¬ (((ix x0 v1).Volume) ≠ ((ix x1 v1).Volume)) →
        inX v1 x0.length ∧
        inX v1 x1.length ∧
        (((ix x0 v1).Start) ≠ ((ix x1 v1).Start) →
          Φ false) ∧
        (¬ (((ix x0 v1).Start) ≠ ((ix x1 v1).Start)) →
          inX v1 x0.length ∧
          inX v1 x1.length ∧
          ∃ v2 : Bool × Unit, ref03_SameSectors_W ((ix x0 v1).Data) ((ix x1 v1).Data) (fun z => (z, ()) = v2) ∧
          (¬ (v2.1 = true) →
            Φ false) ∧
          (¬ (¬ (v2.1 = true)) →
            inI (v1 + 1) ∧
            rec1 (v1 + 1))))) ∧
    (¬ (v1 < (x0.length : Int)) →
      Φ true)
def ref03_SameWrites_W (x0 : List api_Write) (x1 : List api_Write) (Φ : Bool → Prop) : Prop :=
  ((x0.length : Int) ≠ (x1.length : Int) →
    Φ false) ∧
  (¬ ((x0.length : Int) ≠ (x1.length : Int)) →
    LoopW (ref03_SameWrites_L1 x0 x1 Φ) 0)
def law18_awake_J1 (v1 : api_History) (Φ : Bool → Prop) : Unit → Prop
  | _ =>
    ∃ v2 : List (List Sec) × Unit, law18_of_W (0#8) (2#8) (0#8) (fun z => (z, ()) = v2) ∧
    ∃ v3 : List Int × Bool × Int × Unit, consistency_Find_W v1 v2.1 (fun z => (z.1, z.2.1, z.2.2, ()) = v3) ∧
    ∃ v4 : List (List Sec) × Unit, law18_of_W (0#8) (2#8) (0#8) (fun z => (z, ()) = v4) ∧
    ∃ v5 : api_Write × Bool × Int × Unit, consistency_Conflict_W v1 v4.1 (fun z => (z.1, z.2.1, z.2.2, ()) = v5) ∧
    ∃ v6 : List (List Sec) × Unit, law18_of_W (1#8) (5#8) (0#8) (fun z => (z, ()) = v6) ∧
    ∃ v7 : api_Write × Bool × Int × Unit, consistency_Conflict_W v1 v6.1 (fun z => (z.1, z.2.1, z.2.2, ()) = v7) ∧
    ∃ v8 : List (List Sec) × Unit, law18_of_W (3#8) (2#8) (0#8) (fun z => (z, ()) = v8) ∧
    ∃ v9 : api_Write × Bool × Int × Unit, consistency_Conflict_W v1 v8.1 (fun z => (z.1, z.2.1, z.2.2, ()) = v9) ∧
    (v3.2.1 = true →
      Φ false) ∧
    (¬ (v3.2.1 = true) →
      inI (v3.2.2.1 + v5.2.2.1) ∧
      inI ((v3.2.2.1 + v5.2.2.1) + v7.2.2.1) ∧
      inI (((v3.2.2.1 + v5.2.2.1) + v7.2.2.1) + v9.2.2.1) ∧
      ((((v3.2.2.1 + v5.2.2.1) + v7.2.2.1) + v9.2.2.1) ≠ 0 →
        Φ false) ∧
      (¬ ((((v3.2.2.1 + v5.2.2.1) + v7.2.2.1) + v9.2.2.1) ≠ 0) →
        (¬ (v5.2.1 = true) →
          Φ false) ∧
        (¬ (¬ (v5.2.1 = true)) →
          (¬ (v7.2.1 = true) →
            Φ false) ∧
          (¬ (¬ (v7.2.1 = true)) →
            (¬ (v9.2.1 = true) →
              Φ false) ∧
            (¬ (¬ (v9.2.1 = true)) →
              consistency_Distinct_W v1 fun v10 =>
                (¬ (v10 = true) →
                  Φ false) ∧
                (¬ (¬ (v10 = true)) →
                  ∃ v11 : List api_Write × Unit, law18_awake_1_W 0 (1#8) (fun z => (z, ()) = v11) ∧
                  ∃ v12 : Bool × Unit, ref03_SameWrites_W ([v5.1] : List api_Write) v11.1 (fun z => (z, ()) = v12) ∧
                  (v12.1 = true →
                    ∃ v13 : List api_Write × Unit, law18_awake_1_W 1 (5#8) (fun z => (z, ()) = v13) ∧
                    ∃ v14 : Bool × Unit, ref03_SameWrites_W ([v7.1] : List api_Write) v13.1 (fun z => (z, ()) = v14) ∧
                    (v14.1 = true →
                      ∃ v15 : List api_Write × Unit, law18_awake_1_W 1 (4#8) (fun z => (z, ()) = v15) ∧
                      ∃ v16 : Bool × Unit, ref03_SameWrites_W ([v9.1] : List api_Write) v15.1 (fun z => (z, ()) = v16) ∧
                      Φ v16.1) ∧
                    (¬ (v14.1 = true) →
                      Φ false)) ∧
                  (¬ (v12.1 = true) →
                    Φ false)))))))
def law18_awake_J3 (v1 : api_History) (v17 : List (List Sec)) (v18 : List (List Sec)) (v19 : List (List Sec)) (v20 : List (List Sec)) (v21 : Int) (rec2 : (Int) → Prop) (Φ : Bool → Prop) : Unit → Prop
  | _ =>
    inX v21 ([v17, v18, v19, v20] : List (List (List Sec))).length ∧
    consistency_Find_W v1 (ix ([v17, v18, v19, v20] : List (List (List Sec))) v21) fun v22 =>
      consistency_Newest_W v1 (ix ([v17, v18, v19, v20] : List (List (List Sec))) v21) fun v23 =>
        (v22.2.2 ≠ 0 →
          Φ false) ∧
        (¬ (v22.2.2 ≠ 0) →
          (v23.2.2 ≠ 0 →
            Φ false) ∧
          (¬ (v23.2.2 ≠ 0) →
            (¬ (v22.2.1 = true) →
              Φ false) ∧
            (¬ (¬ (v22.2.1 = true)) →
              (¬ (v23.2.1 = true) →
                Φ false) ∧
              (¬ (¬ (v23.2.1 = true)) →
                ref15_First_W v21 fun v24 =>
                  slices_Equal_int_int_W v22.1 v24 fun v25 =>
                    (¬ (v25 = true) →
                      Φ false) ∧
                    (¬ (¬ (v25 = true)) →
                      ref15_First_W v21 fun v26 =>
                        slices_Equal_int_int_W v23.1 v26 fun v27 =>
                          (¬ (v27 = true) →
                            Φ false) ∧
                          (¬ (¬ (v27 = true)) →
                            inI (v21 + 1) ∧
                            rec2 (v21 + 1)))))))
def law18_awake_L2 (v1 : api_History) (v17 : List (List Sec)) (v18 : List (List Sec)) (v19 : List (List Sec)) (v20 : List (List Sec)) (Φ : Bool → Prop) : (Int) → ((Int) → Prop) → Prop
  | v21, rec2 =>
    Join (law18_awake_J3 v1 v17 v18 v19 v20 v21 rec2 Φ) fun J3 =>
      (v21 < (([v17, v18, v19, v20] : List (List (List Sec))).length : Int) →
        J3 ()) ∧
      (¬ (v21 < (([v17, v18, v19, v20] : List (List (List Sec))).length : Int)) →
        law18_awake_J1 v1 Φ ())
def law18_awake_W (Φ : Bool → Prop) : Prop :=
  law18_example_W fun v1 =>
    law18_of_W (0#8) (0#8) (0#8) fun v17 =>
      law18_of_W (1#8) (0#8) (0#8) fun v18 =>
        law18_of_W (1#8) (2#8) (0#8) fun v19 =>
          law18_of_W (3#8) (4#8) (0#8) fun v20 =>
            LoopW (law18_awake_L2 v1 v17 v18 v19 v20 Φ) 0
def ref07_Sizes_L1 (x0 : List Int) (Φ : Int → Prop) : (Int) → ((Int) → Prop) → Prop
  | v1, rec1 =>
    (v1 < (x0.length : Int) →
      inX v1 x0.length ∧
      ((ix x0 v1) < 1 →
        Φ 2) ∧
      (¬ ((ix x0 v1) < 1) →
        inX v1 x0.length ∧
        (4096 < (ix x0 v1) →
          Φ 2) ∧
        (¬ (4096 < (ix x0 v1)) →
          inI (v1 + 1) ∧
          rec1 (v1 + 1)))) ∧
    (¬ (v1 < (x0.length : Int)) →
      Φ 0)
def ref07_Sizes_W (x0 : List Int) (Φ : Int → Prop) : Prop :=
  ((x0.length : Int) < 1 →
    Φ 6) ∧
  (¬ ((x0.length : Int) < 1) →
    (8 < (x0.length : Int) →
      Φ 6) ∧
    (¬ (8 < (x0.length : Int)) →
      LoopW (ref07_Sizes_L1 x0 Φ) 0))
def ref07_FitsSizes_W (x0 : List Int) (x1 : api_Write) (Φ : Int → Prop) : Prop :=
  (x1.Volume < 0 →
    Φ 7) ∧
  (¬ (x1.Volume < 0) →
    ((x0.length : Int) ≤ x1.Volume →
      Φ 7) ∧
    (¬ ((x0.length : Int) ≤ x1.Volume) →
      ((x1.Data.length : Int) = 0 →
        Φ 1) ∧
      (¬ ((x1.Data.length : Int) = 0) →
        (x1.Start < 0 →
          Φ 2) ∧
        (¬ (x1.Start < 0) →
          inX x1.Volume x0.length ∧
          ((ix x0 x1.Volume) ≤ x1.Start →
            Φ 2) ∧
          (¬ ((ix x0 x1.Volume) ≤ x1.Start) →
            inX x1.Volume x0.length ∧
            inI ((ix x0 x1.Volume) - x1.Start) ∧
            (((ix x0 x1.Volume) - x1.Start) < (x1.Data.length : Int) →
              Φ 2) ∧
            (¬ (((ix x0 x1.Volume) - x1.Start) < (x1.Data.length : Int)) →
              Φ 0))))))
def ref15_issue_W (x0 : Int) (Φ : api_HistoryEvent → Prop) : Prop :=
  Φ (api_HistoryEvent.mk 0 x0)
def ref15_At_L1 (x0 : List api_HistoryEvent) (x1 : api_HistoryEvent) (Φ : Int → Prop) : (Int) → ((Int) → Prop) → Prop
  | v1, rec1 =>
    (v1 < (x0.length : Int) →
      inX v1 x0.length ∧
      ((ix x0 v1) = x1 →
        Φ v1) ∧
      (¬ ((ix x0 v1) = x1) →
        inI (v1 + 1) ∧
        rec1 (v1 + 1))) ∧
    (¬ (v1 < (x0.length : Int)) →
      Φ (-1))
def ref15_At_W (x0 : List api_HistoryEvent) (x1 : api_HistoryEvent) (Φ : Int → Prop) : Prop :=
  LoopW (ref15_At_L1 x0 x1 Φ) 0
def ref15_Check_L2 (x0 : api_History) (Φ : Int → Prop) : (Int × Int) → ((Int × Int) → Prop) → Prop
  | (v4, v5), rec2 =>
    (v5 < (x0.Events.length : Int) →
      inX v5 x0.Events.length ∧
      (((ix x0.Events v5).Kind) = 0 →
        (((ix x0.Events v5).Write) ≠ v4 →
          Φ 3) ∧
        (¬ (((ix x0.Events v5).Write) ≠ v4) →
          ((x0.Writes.length : Int) ≤ v4 →
            Φ 3) ∧
          (¬ ((x0.Writes.length : Int) ≤ v4) →
            inI (v4 + 1) ∧
            inI (v5 + 1) ∧
            rec2 ((v4 + 1), (v5 + 1))))) ∧
      (¬ (((ix x0.Events v5).Kind) = 0) →
        (((ix x0.Events v5).Kind) ≠ 1 →
          Φ 3) ∧
        (¬ (((ix x0.Events v5).Kind) ≠ 1) →
          inS 0 v5 x0.Events.length ∧
          ∃ v6 : api_HistoryEvent × Unit, ref15_issue_W ((ix x0.Events v5).Write) (fun z => (z, ()) = v6) ∧
          ∃ v7 : Int × Unit, ref15_At_W (sub x0.Events 0 v5) v6.1 (fun z => (z, ()) = v7) ∧
          (v7.1 < 0 →
            Φ 7) ∧
          (¬ (v7.1 < 0) →
            inS 0 v5 x0.Events.length ∧
            ∃ v8 : Int × Unit, ref15_At_W (sub x0.Events 0 v5) (ix x0.Events v5) (fun z => (z, ()) = v8) ∧
            (0 ≤ v8.1 →
              Φ 8) ∧
            (¬ (0 ≤ v8.1) →
              inI (v5 + 1) ∧
              rec2 (v4, (v5 + 1))))))) ∧
    (¬ (v5 < (x0.Events.length : Int)) →
      (v4 < (x0.Writes.length : Int) →
        Φ 3) ∧
      (¬ (v4 < (x0.Writes.length : Int)) →
        Φ 0))
def ref15_Check_L1 (x0 : api_History) (Φ : Int → Prop) : (Int) → ((Int) → Prop) → Prop
  | v2, rec1 =>
    (v2 < (x0.Writes.length : Int) →
      inX v2 x0.Writes.length ∧
      ∃ v3 : Int × Unit, ref07_FitsSizes_W x0.Sizes (ix x0.Writes v2) (fun z => (z, ()) = v3) ∧
      (v3.1 ≠ 0 →
        Φ v3.1) ∧
      (¬ (v3.1 ≠ 0) →
        inI (v2 + 1) ∧
        rec1 (v2 + 1))) ∧
    (¬ (v2 < (x0.Writes.length : Int)) →
      LoopW (ref15_Check_L2 x0 Φ) (0, 0))
def ref15_Check_W (x0 : api_History) (Φ : Int → Prop) : Prop :=
  ref07_Sizes_W x0.Sizes fun v1 =>
    (v1 ≠ 0 →
      Φ v1) ∧
    (¬ (v1 ≠ 0) →
      (4096 < (x0.Writes.length : Int) →
        Φ 6) ∧
      (¬ (4096 < (x0.Writes.length : Int)) →
        LoopW (ref15_Check_L1 x0 Φ) 0))
def ref07_SizesOf_L1 (x0 : List (List Sec)) (Φ : List Int → Prop) : (Int × List Int) → ((Int × List Int) → Prop) → Prop
  | (v1, v2), rec1 =>
    (v1 < (x0.length : Int) →
      inX v1 x0.length ∧
      lenOk (v2 ++ ([((ix x0 v1).length : Int)] : List Int)).length 8 ∧
      inI (v1 + 1) ∧
      rec1 ((v1 + 1), (v2 ++ ([((ix x0 v1).length : Int)] : List Int)))) ∧
    (¬ (v1 < (x0.length : Int)) →
      Φ v2)
def ref07_SizesOf_W (x0 : List (List Sec)) (Φ : List Int → Prop) : Prop :=
  LoopW (ref07_SizesOf_L1 x0 Φ) (0, ([] : List Int))
def ref07_Check_W (x0 : List (List Sec)) (Φ : Int → Prop) : Prop :=
  ref07_SizesOf_W x0 fun v1 =>
    ref07_Sizes_W v1 fun v2 =>
      Φ v2
def ref15_SameInts_L1 (x0 : List Int) (x1 : List Int) (Φ : Bool → Prop) : (Int) → ((Int) → Prop) → Prop
  | v1, rec1 =>
    (v1 < (x0.length : Int) →
      inX v1 x0.length ∧
      inX v1 x1.length ∧
      ((ix x0 v1) ≠ (ix x1 v1) →
        Φ false) ∧
      (¬ ((ix x0 v1) ≠ (ix x1 v1)) →
        inI (v1 + 1) ∧
        rec1 (v1 + 1))) ∧
    (¬ (v1 < (x0.length : Int)) →
      Φ true)
def ref15_SameInts_W (x0 : List Int) (x1 : List Int) (Φ : Bool → Prop) : Prop :=
  ((x0.length : Int) ≠ (x1.length : Int) →
    Φ false) ∧
  (¬ ((x0.length : Int) ≠ (x1.length : Int)) →
    LoopW (ref15_SameInts_L1 x0 x1 Φ) 0)
def ref18_Content_J1 (x0 : api_Write) (x2 : Int) (Φ : Sec × Bool → Prop) : Bool → Prop
  | v1 =>
    (v1 = true →
      Φ (sec0, false)) ∧
    (¬ (v1 = true) →
      inI (x2 - x0.Start) ∧
      inX (x2 - x0.Start) x0.Data.length ∧
      Φ ((ix x0.Data (x2 - x0.Start)), true))
def ref18_Content_W (x0 : api_Write) (x1 : Int) (x2 : Int) (Φ : Sec × Bool → Prop) : Prop :=
  Join (ref18_Content_J1 x0 x2 Φ) fun J1 =>
    (x0.Volume ≠ x1 →
      J1 true) ∧
    (¬ (x0.Volume ≠ x1) →
      (x2 < x0.Start →
        J1 true) ∧
      (¬ (x2 < x0.Start) →
        inI (x0.Start + (x0.Data.length : Int)) ∧
        J1 (decide ((x0.Start + (x0.Data.length : Int)) ≤ x2))))
def ref18_Distinct_L3 (x0 : api_History) (v2 : Int) (v3 : Int) (rec2 : (Int) → Prop) (Φ : Bool → Prop) : (Int) → ((Int) → Prop) → Prop
  | v4, rec3 =>
    (v4 < v2 →
      inX v4 x0.Writes.length ∧
      inI (((ix x0.Writes v2).Start) + v3) ∧
      ∃ v5 : Sec × Bool × Unit, ref18_Content_W (ix x0.Writes v4) ((ix x0.Writes v2).Volume) (((ix x0.Writes v2).Start) + v3) (fun z => (z.1, z.2, ()) = v5) ∧
      (v5.2.1 = true →
        inX v3 ((ix x0.Writes v2).Data).length ∧
        (v5.1 = (ix ((ix x0.Writes v2).Data) v3) →
          Φ false) ∧
        (¬ (v5.1 = (ix ((ix x0.Writes v2).Data) v3)) →
          inI (v4 + 1) ∧
          rec3 (v4 + 1))) ∧
      (¬ (v5.2.1 = true) →
        inI (v4 + 1) ∧
        rec3 (v4 + 1))) ∧
    (¬ (v4 < v2) →
      inI (v3 + 1) ∧
      rec2 (v3 + 1))
def ref18_Distinct_L2 (x0 : api_History) (v2 : Int) (rec1 : (Int) → Prop) (Φ : Bool → Prop) : (Int) → ((Int) → Prop) → Prop
  | v3, rec2 =>
    (v3 < (((ix x0.Writes v2).Data).length : Int) →
      inX v3 ((ix x0.Writes v2).Data).length ∧
      ((ix ((ix x0.Writes v2).Data) v3) = sec0 →
        Φ false) ∧
      (¬ ((ix ((ix x0.Writes v2).Data) v3) = sec0) →
        LoopW (ref18_Distinct_L3 x0 v2 v3 rec2 Φ) 0)) ∧
    (¬ (v3 < (((ix x0.Writes v2).Data).length : Int)) →
      inI (v2 + 1) ∧
      rec1 (v2 + 1))
def ref18_Distinct_L1 (x0 : api_History) (Φ : Bool → Prop) : (Int) → ((Int) → Prop) → Prop
  | v2, rec1 =>
    (v2 < (x0.Writes.length : Int) →
      inX v2 x0.Writes.length ∧
      LoopW (ref18_Distinct_L2 x0 v2 rec1 Φ) 0) ∧
    (¬ (v2 < (x0.Writes.length : Int)) →
      Φ true)
def ref18_Distinct_W (x0 : api_History) (Φ : Bool → Prop) : Prop :=
  ref15_Check_W x0 fun v1 =>
    (v1 ≠ 0 →
      Φ false) ∧
    (¬ (v1 ≠ 0) →
      LoopW (ref18_Distinct_L1 x0 Φ) 0)
def ref18_right_W (x0 : api_History) (x1 : List (List Sec)) (Φ : Int → Prop) : Prop :=
  ref15_Check_W x0 fun v1 =>
    (v1 ≠ 0 →
      Φ v1) ∧
    (¬ (v1 ≠ 0) →
      ref07_Check_W x1 fun v2 =>
        (v2 ≠ 0 →
          Φ v2) ∧
        (¬ (v2 ≠ 0) →
          ∃ v3 : List Int × Unit, ref07_SizesOf_W x1 (fun z => (z, ()) = v3) ∧
          ∃ v4 : Bool × Unit, ref15_SameInts_W v3.1 x0.Sizes (fun z => (z, ()) = v4) ∧
          (¬ (v4.1 = true) →
            Φ 22) ∧
          (¬ (¬ (v4.1 = true)) →
            ref18_Distinct_W x0 fun v5 =>
              (¬ (v5 = true) →
                Φ 1) ∧
              (¬ (¬ (v5 = true)) →
                Φ 0))))
def ref18_author_J2 (v1 : Int) (rec1 : (Int) → Prop) (Φ : Int → Prop) : Bool → Prop
  | v3 =>
    (v3 = true →
      Φ v1) ∧
    (¬ (v3 = true) →
      inI (v1 + 1) ∧
      rec1 (v1 + 1))
def ref18_author_L1 (x0 : api_History) (x1 : Int) (x2 : Int) (x3 : Sec) (Φ : Int → Prop) : (Int) → ((Int) → Prop) → Prop
  | v1, rec1 =>
    (v1 < (x0.Writes.length : Int) →
      inX v1 x0.Writes.length ∧
      ref18_Content_W (ix x0.Writes v1) x1 x2 fun v2 =>
        Join (ref18_author_J2 v1 rec1 Φ) fun J2 =>
          (v2.2 = true →
            J2 (decide (v2.1 = x3))) ∧
          (¬ (v2.2 = true) →
            J2 false)) ∧
    (¬ (v1 < (x0.Writes.length : Int)) →
      Φ (-1))
def ref18_author_W (x0 : api_History) (x1 : Int) (x2 : Int) (x3 : Sec) (Φ : Int → Prop) : Prop :=
  LoopW (ref18_author_L1 x0 x1 x2 x3 Φ) 0
def ref15_Set_L1 (x0 : List Int) (x1 : Int) (Φ : Bool → Prop) : (Int) → ((Int) → Prop) → Prop
  | v1, rec1 =>
    (v1 < (x0.length : Int) →
      inX v1 x0.length ∧
      ((ix x0 v1) < 0 →
        Φ false) ∧
      (¬ ((ix x0 v1) < 0) →
        inX v1 x0.length ∧
        (x1 ≤ (ix x0 v1) →
          Φ false) ∧
        (¬ (x1 ≤ (ix x0 v1)) →
          (0 < v1 →
            inX v1 x0.length ∧
            inI (v1 - 1) ∧
            inX (v1 - 1) x0.length ∧
            ((ix x0 v1) ≤ (ix x0 (v1 - 1)) →
              Φ false) ∧
            (¬ ((ix x0 v1) ≤ (ix x0 (v1 - 1))) →
              inI (v1 + 1) ∧
              rec1 (v1 + 1))) ∧
          (¬ (0 < v1) →
            inI (v1 + 1) ∧
            rec1 (v1 + 1))))) ∧
    (¬ (v1 < (x0.length : Int)) →
      Φ true)
def ref15_Set_W (x0 : List Int) (x1 : Int) (Φ : Bool → Prop) : Prop :=
  LoopW (ref15_Set_L1 x0 x1 Φ) 0
def ref16_right_W (x0 : api_History) (x1 : List Int) (Φ : Int → Prop) : Prop :=
  ref15_Check_W x0 fun v1 =>
    (v1 ≠ 0 →
      Φ v1) ∧
    (¬ (v1 ≠ 0) →
      ref15_Set_W x1 (x0.Writes.length : Int) fun v2 =>
        (¬ (v2 = true) →
          Φ 2) ∧
        (¬ (¬ (v2 = true)) →
          Φ 0))
def ref16_Table_L4 (x0 : api_History) (v4 : List Int) (v5 : List Int) (v6 : Int) (v7 : List (List Bool)) (rec3 : (Int × List (List Bool)) → Prop) (_ : List (List Bool) → Prop) : (Int × List Bool) → ((Int × List Bool) → Prop) → Prop
  | (v8, v9), rec4 =>
    (v8 < (x0.Writes.length : Int) →
      inX v6 v4.length ∧
      (0 ≤ (ix v4 v6) →
        inX v6 v4.length ∧
        inX v8 v5.length ∧
        inX v8 v9.length ∧
        inI (v8 + 1) ∧
        rec4 ((v8 + 1), (put v9 v8 (decide ((ix v4 v6) < (ix v5 v8)))))) ∧
      (¬ (0 ≤ (ix v4 v6)) →
        inX v8 v9.length ∧
        inI (v8 + 1) ∧
        rec4 ((v8 + 1), (put v9 v8 false)))) ∧
    (¬ (v8 < (x0.Writes.length : Int)) →
      lenOk (v7 ++ ([v9] : List (List Bool))).length 24 ∧
      inI (v6 + 1) ∧
      rec3 ((v6 + 1), (v7 ++ ([v9] : List (List Bool)))))
def ref16_Table_L3 (x0 : api_History) (v4 : List Int) (v5 : List Int) (Φ : List (List Bool) → Prop) : (Int × List (List Bool)) → ((Int × List (List Bool)) → Prop) → Prop
  | (v6, v7), rec3 =>
    (v6 < (x0.Writes.length : Int) →
      0 ≤ (x0.Writes.length : Int) ∧
      lenOk (x0.Writes.length : Int).toNat 1 ∧
      LoopW (ref16_Table_L4 x0 v4 v5 v6 v7 rec3 Φ) (0, (List.replicate (x0.Writes.length : Int).toNat (false : Bool)))) ∧
    (¬ (v6 < (x0.Writes.length : Int)) →
      Φ v7)
def ref16_Table_L2 (x0 : api_History) (Φ : List (List Bool) → Prop) : (Int × List Int × List Int) → ((Int × List Int × List Int) → Prop) → Prop
  | (v3, v4, v5), rec2 =>
    (v3 < (x0.Events.length : Int) →
      inX v3 x0.Events.length ∧
      (((ix x0.Events v3).Kind) = 1 →
        inX v3 x0.Events.length ∧
        inX ((ix x0.Events v3).Write) v4.length ∧
        inI (v3 + 1) ∧
        rec2 ((v3 + 1), (put v4 ((ix x0.Events v3).Write) v3), v5)) ∧
      (¬ (((ix x0.Events v3).Kind) = 1) →
        inX v3 x0.Events.length ∧
        inX ((ix x0.Events v3).Write) v5.length ∧
        inI (v3 + 1) ∧
        rec2 ((v3 + 1), v4, (put v5 ((ix x0.Events v3).Write) v3)))) ∧
    (¬ (v3 < (x0.Events.length : Int)) →
      LoopW (ref16_Table_L3 x0 v4 v5 Φ) (0, ([] : List (List Bool))))
def ref16_Table_L1 (x0 : api_History) (Φ : List (List Bool) → Prop) : (Int × List Int) → ((Int × List Int) → Prop) → Prop
  | (v1, v2), rec1 =>
    (v1 < (x0.Writes.length : Int) →
      inX v1 v2.length ∧
      inI (v1 + 1) ∧
      rec1 ((v1 + 1), (put v2 v1 (-1)))) ∧
    (¬ (v1 < (x0.Writes.length : Int)) →
      LoopW (ref16_Table_L2 x0 Φ) (0, v2, (List.replicate (x0.Writes.length : Int).toNat (0 : Int))))
def ref16_Table_W (x0 : api_History) (Φ : List (List Bool) → Prop) : Prop :=
  0 ≤ (x0.Writes.length : Int) ∧
  lenOk (x0.Writes.length : Int).toNat 8 ∧
  0 ≤ (x0.Writes.length : Int) ∧
  lenOk (x0.Writes.length : Int).toNat 8 ∧
  LoopW (ref16_Table_L1 x0 Φ) (0, (List.replicate (x0.Writes.length : Int).toNat (0 : Int)))
def ref15_Has_L1 (x0 : List Int) (x1 : Int) (Φ : Bool → Prop) : (Int) → ((Int) → Prop) → Prop
  | v1, rec1 =>
    (v1 < (x0.length : Int) →
      inX v1 x0.length ∧
      ((ix x0 v1) = x1 →
        Φ true) ∧
      (¬ ((ix x0 v1) = x1) →
        inI (v1 + 1) ∧
        rec1 (v1 + 1))) ∧
    (¬ (v1 < (x0.length : Int)) →
      Φ false)
def ref15_Has_W (x0 : List Int) (x1 : Int) (Φ : Bool → Prop) : Prop :=
  LoopW (ref15_Has_L1 x0 x1 Φ) 0
def ref16_Least_L2 (x1 : List Int) (v2 : List (List Bool)) (v3 : Int) (v4 : List Int) (rec1 : (Int × List Int) → Prop) (_ : List Int × Int → Prop) : (Bool × Int) → ((Bool × Int) → Prop) → Prop
  | (v6, v7), rec2 =>
    (v7 < (x1.length : Int) →
      (v6 = true →
        inI (v7 + 1) ∧
        rec2 (true, (v7 + 1))) ∧
      (¬ (v6 = true) →
        inX v3 v2.length ∧
        inX v7 x1.length ∧
        inX (ix x1 v7) (ix v2 v3).length ∧
        inI (v7 + 1) ∧
        rec2 ((ix (ix v2 v3) (ix x1 v7)), (v7 + 1)))) ∧
    (¬ (v7 < (x1.length : Int)) →
      (v6 = true →
        lenOk (v4 ++ ([v3] : List Int)).length 8 ∧
        inI (v3 + 1) ∧
        rec1 ((v3 + 1), (v4 ++ ([v3] : List Int)))) ∧
      (¬ (v6 = true) →
        inI (v3 + 1) ∧
        rec1 ((v3 + 1), v4)))
def ref16_Least_L1 (x0 : api_History) (x1 : List Int) (v2 : List (List Bool)) (Φ : List Int × Int → Prop) : (Int × List Int) → ((Int × List Int) → Prop) → Prop
  | (v3, v4), rec1 =>
    (v3 < (x0.Writes.length : Int) →
      ref15_Has_W x1 v3 fun v5 =>
        LoopW (ref16_Least_L2 x1 v2 v3 v4 rec1 Φ) (v5, 0)) ∧
    (¬ (v3 < (x0.Writes.length : Int)) →
      Φ (v4, 0))
def ref16_Least_W (x0 : api_History) (x1 : List Int) (Φ : List Int × Int → Prop) : Prop :=
  ref16_right_W x0 x1 fun v1 =>
    (v1 ≠ 0 →
      Φ (([] : List Int), v1)) ∧
    (¬ (v1 ≠ 0) →
      ref16_Table_W x0 fun v2 =>
        LoopW (ref16_Least_L1 x0 x1 v2 Φ) (0, ([] : List Int)))
def ref07_New_L1 (x0 : List Int) (Φ : List (List Sec) × Int → Prop) : (Int × List (List Sec)) → ((Int × List (List Sec)) → Prop) → Prop
  | (v2, v3), rec1 =>
    (v2 < (x0.length : Int) →
      inX v2 x0.length ∧
      0 ≤ (ix x0 v2) ∧
      lenOk (ix x0 v2).toNat 8 ∧
      lenOk (v3 ++ ([(List.replicate (ix x0 v2).toNat (sec0 : Sec))] : List (List Sec))).length 24 ∧
      inI (v2 + 1) ∧
      rec1 ((v2 + 1), (v3 ++ ([(List.replicate (ix x0 v2).toNat (sec0 : Sec))] : List (List Sec))))) ∧
    (¬ (v2 < (x0.length : Int)) →
      Φ (v3, 0))
def ref07_New_W (x0 : List Int) (Φ : List (List Sec) × Int → Prop) : Prop :=
  ref07_Sizes_W x0 fun v1 =>
    (v1 ≠ 0 →
      Φ (([] : List (List Sec)), v1)) ∧
    (¬ (v1 ≠ 0) →
      LoopW (ref07_New_L1 x0 Φ) (0, ([] : List (List Sec))))
def ref07_Fits_W (x0 : List (List Sec)) (x1 : api_Write) (Φ : Int → Prop) : Prop :=
  ref07_Check_W x0 fun v1 =>
    (v1 ≠ 0 →
      Φ v1) ∧
    (¬ (v1 ≠ 0) →
      ∃ v2 : List Int × Unit, ref07_SizesOf_W x0 (fun z => (z, ()) = v2) ∧
      ∃ v3 : Int × Unit, ref07_FitsSizes_W v2.1 x1 (fun z => (z, ()) = v3) ∧
      Φ v3.1)
def ref07_CopyE_L1 (x0 : List (List Sec)) (Φ : List (List Sec) → Prop) : (List (List Sec) × Int) → ((List (List Sec) × Int) → Prop) → Prop
 | (v4, v12), rec1 =>
  (v12 < (x0.length : Int) →
   inX v12 x0.length ∧
   lenOk (([] : List Sec) ++ (ix x0 v12)).length 8 ∧
   lenOk (v4 ++ [(([] : List Sec) ++ (ix x0 v12))]).length 24 ∧
   inI (v12 + 1) ∧
   rec1 ((v4 ++ [(([] : List Sec) ++ (ix x0 v12))]), v12 + 1)) ∧
  (¬ (v12 < (x0.length : Int)) →
   Φ v4)
def ref07_CopyE_W (x0 : List (List Sec)) (Φ : List (List Sec) → Prop) : Prop :=
 LoopW (ref07_CopyE_L1 x0 Φ) (([] : List (List Sec)), 0)
def ref07_Apply_L2 (x1 : List api_Write) (v24 : Int) (rec1 : (List (List Sec) × Int) → Prop) (_ : List (List Sec) × Int × Int → Prop) : (List (List Sec) × Int) → ((List (List Sec) × Int) → Prop) → Prop
 | (v37, v45), rec2 =>
  (v45 < (((ix x1 v24).Data).length : Int) →
   inX ((ix x1 v24).Volume) v37.length ∧
   inI (((ix x1 v24).Start) + v45) ∧
   inX v45 ((ix x1 v24).Data).length ∧
   inX (((ix x1 v24).Start) + v45) (ix v37 ((ix x1 v24).Volume)).length ∧
   inI (v45 + 1) ∧
   rec2 ((put v37 ((ix x1 v24).Volume) (put (ix v37 ((ix x1 v24).Volume)) (((ix x1 v24).Start) + v45) (ix ((ix x1 v24).Data) v45))), v45 + 1)) ∧
  (¬ (v45 < (((ix x1 v24).Data).length : Int)) →
   inI (v24 + 1) ∧
   rec1 (v37, v24 + 1))
def ref07_Apply_L1 (x0 : List (List Sec)) (x1 : List api_Write) (Φ : List (List Sec) × Int × Int → Prop) : (List (List Sec) × Int) → ((List (List Sec) × Int) → Prop) → Prop
 | (v16, v24), rec1 =>
  (v24 < (x1.length : Int) →
   inX v24 x1.length ∧
   ref07_Fits_W x0 (ix x1 v24) fun v31 =>
    (v31 ≠ 0 →
     Φ (([] : List (List Sec)), v24, v31)) ∧
    (¬ (v31 ≠ 0) →
     LoopW (ref07_Apply_L2 x1 v24 rec1 Φ) (v16, 0))) ∧
  (¬ (v24 < (x1.length : Int)) →
   Φ (v16, 0, 0))
def ref07_Apply_W (x0 : List (List Sec)) (x1 : List api_Write) (Φ : List (List Sec) × Int × Int → Prop) : Prop :=
 ref07_Check_W x0 fun v3 =>
  (v3 ≠ 0 →
   Φ (([] : List (List Sec)), 0, v3)) ∧
  (¬ (v3 ≠ 0) →
   ref07_CopyE_W x0 fun v7 =>
    LoopW (ref07_Apply_L1 x0 x1 Φ) (v7, 0))
def ref15_Image_L1 (x0 : api_History) (x1 : List Int) (v3 : List (List Sec) × Int) (Φ : List (List Sec) × Int → Prop) : (Int × List api_Write) → ((Int × List api_Write) → Prop) → Prop
  | (v4, v5), rec1 =>
    (v4 < (x1.length : Int) →
      inX v4 x1.length ∧
      inX (ix x1 v4) x0.Writes.length ∧
      lenOk (v5 ++ ([(ix x0.Writes (ix x1 v4))] : List api_Write)).length 40 ∧
      inI (v4 + 1) ∧
      rec1 ((v4 + 1), (v5 ++ ([(ix x0.Writes (ix x1 v4))] : List api_Write)))) ∧
    (¬ (v4 < (x1.length : Int)) →
      ref07_Apply_W v3.1 v5 fun v6 =>
        Φ (v6.1, v6.2.2))
def ref15_Image_W (x0 : api_History) (x1 : List Int) (Φ : List (List Sec) × Int → Prop) : Prop :=
  ref15_Check_W x0 fun v1 =>
    (v1 ≠ 0 →
      Φ (([] : List (List Sec)), v1)) ∧
    (¬ (v1 ≠ 0) →
      ref15_Set_W x1 (x0.Writes.length : Int) fun v2 =>
        (¬ (v2 = true) →
          Φ (([] : List (List Sec)), 2)) ∧
        (¬ (¬ (v2 = true)) →
          ref07_New_W x0.Sizes fun v3 =>
            LoopW (ref15_Image_L1 x0 x1 v3 Φ) (0, ([] : List api_Write))))
def ref18_candidate_L2 (x0 : api_History) (x1 : List (List Sec)) (v1 : Int) (rec1 : (Int × List Bool) → Prop) (Φ : List Int × api_Write × Bool → Prop) : (Int × List Bool) → ((Int × List Bool) → Prop) → Prop
  | (v3, v4), rec2 =>
    inX v1 x1.length ∧
    (v3 < ((ix x1 v1).length : Int) →
      inX v1 x1.length ∧
      inX v3 (ix x1 v1).length ∧
      ((ix (ix x1 v1) v3) = sec0 →
        inI (v3 + 1) ∧
        rec2 ((v3 + 1), v4)) ∧
      (¬ ((ix (ix x1 v1) v3) = sec0) →
        inX v1 x1.length ∧
        inX v3 (ix x1 v1).length ∧
        ∃ v5 : Int × Unit, ref18_author_W x0 v1 v3 (ix (ix x1 v1) v3) (fun z => (z, ()) = v5) ∧
        (v5.1 < 0 →
          inX v1 x1.length ∧
          inX v3 (ix x1 v1).length ∧
          Φ (([] : List Int), (api_Write.mk v1 v3 ([(ix (ix x1 v1) v3)] : List Sec)), false)) ∧
        (¬ (v5.1 < 0) →
          inX v5.1 v4.length ∧
          inI (v3 + 1) ∧
          rec2 ((v3 + 1), (put v4 v5.1 true))))) ∧
    (¬ (v3 < ((ix x1 v1).length : Int)) →
      inI (v1 + 1) ∧
      rec1 ((v1 + 1), v4))
def ref18_candidate_L5 (x1 : List (List Sec)) (v8 : List Int × Int) (v9 : List (List Sec) × Int) (v10 : Int) (rec4 : (Int) → Prop) (Φ : List Int × api_Write × Bool → Prop) : (Int) → ((Int) → Prop) → Prop
  | v11, rec5 =>
    inX v10 x1.length ∧
    (v11 < ((ix x1 v10).length : Int) →
      inX v10 v9.1.length ∧
      inX v11 (ix v9.1 v10).length ∧
      inX v10 x1.length ∧
      inX v11 (ix x1 v10).length ∧
      ((ix (ix v9.1 v10) v11) ≠ (ix (ix x1 v10) v11) →
        inX v10 v9.1.length ∧
        inX v11 (ix v9.1 v10).length ∧
        Φ (v8.1, (api_Write.mk v10 v11 ([(ix (ix v9.1 v10) v11)] : List Sec)), true)) ∧
      (¬ ((ix (ix v9.1 v10) v11) ≠ (ix (ix x1 v10) v11)) →
        inI (v11 + 1) ∧
        rec5 (v11 + 1))) ∧
    (¬ (v11 < ((ix x1 v10).length : Int)) →
      inI (v10 + 1) ∧
      rec4 (v10 + 1))
def ref18_candidate_L4 (x1 : List (List Sec)) (v8 : List Int × Int) (v9 : List (List Sec) × Int) (Φ : List Int × api_Write × Bool → Prop) : (Int) → ((Int) → Prop) → Prop
  | v10, rec4 =>
    (v10 < (x1.length : Int) →
      LoopW (ref18_candidate_L5 x1 v8 v9 v10 rec4 Φ) 0) ∧
    (¬ (v10 < (x1.length : Int)) →
      Φ (v8.1, (api_Write.mk 0 0 ([] : List Sec)), true))
def ref18_candidate_L3 (x0 : api_History) (x1 : List (List Sec)) (v2 : List Bool) (Φ : List Int × api_Write × Bool → Prop) : (Int × List Int) → ((Int × List Int) → Prop) → Prop
  | (v6, v7), rec3 =>
    (v6 < (v2.length : Int) →
      inX v6 v2.length ∧
      ((ix v2 v6) = true →
        lenOk (v7 ++ ([v6] : List Int)).length 8 ∧
        inI (v6 + 1) ∧
        rec3 ((v6 + 1), (v7 ++ ([v6] : List Int)))) ∧
      (¬ ((ix v2 v6) = true) →
        inI (v6 + 1) ∧
        rec3 ((v6 + 1), v7))) ∧
    (¬ (v6 < (v2.length : Int)) →
      ref16_Least_W x0 v7 fun v8 =>
        ref15_Image_W x0 v8.1 fun v9 =>
          LoopW (ref18_candidate_L4 x1 v8 v9 Φ) 0)
def ref18_candidate_L1 (x0 : api_History) (x1 : List (List Sec)) (Φ : List Int × api_Write × Bool → Prop) : (Int × List Bool) → ((Int × List Bool) → Prop) → Prop
  | (v1, v2), rec1 =>
    (v1 < (x1.length : Int) →
      LoopW (ref18_candidate_L2 x0 x1 v1 rec1 Φ) (0, v2)) ∧
    (¬ (v1 < (x1.length : Int)) →
      LoopW (ref18_candidate_L3 x0 x1 v2 Φ) (0, ([] : List Int)))
def ref18_candidate_W (x0 : api_History) (x1 : List (List Sec)) (Φ : List Int × api_Write × Bool → Prop) : Prop :=
  0 ≤ (x0.Writes.length : Int) ∧
  lenOk (x0.Writes.length : Int).toNat 1 ∧
  LoopW (ref18_candidate_L1 x0 x1 Φ) (0, (List.replicate (x0.Writes.length : Int).toNat (false : Bool)))
def ref18_Find_J1 (v2 : List Int × api_Write × Bool) (Φ : List Int × Bool × Int → Prop) : Bool → Prop
  | v3 =>
    (v3 = true →
      Φ (([] : List Int), false, 0)) ∧
    (¬ (v3 = true) →
      Φ (v2.1, true, 0))
def ref18_Find_W (x0 : api_History) (x1 : List (List Sec)) (Φ : List Int × Bool × Int → Prop) : Prop :=
  ref18_right_W x0 x1 fun v1 =>
    (v1 ≠ 0 →
      Φ (([] : List Int), false, v1)) ∧
    (¬ (v1 ≠ 0) →
      ref18_candidate_W x0 x1 fun v2 =>
        Join (ref18_Find_J1 v2 Φ) fun J1 =>
          (¬ (v2.2.2 = true) →
            J1 true) ∧
          (¬ (¬ (v2.2.2 = true)) →
            J1 (decide (0 < (v2.2.1.Data.length : Int)))))
def ref16_Greatest_L2 (x0 : api_History) (x1 : List Int) (v2 : List (List Bool)) (v3 : Int) (v4 : List Int) (rec1 : (Int × List Int) → Prop) (_ : List Int × Int → Prop) : (Bool × Int) → ((Bool × Int) → Prop) → Prop
  | (v5, v6), rec2 =>
    (v6 < (x0.Writes.length : Int) →
      (v5 = true →
        inX v6 v2.length ∧
        inX v3 x1.length ∧
        inX (ix x1 v3) (ix v2 v6).length ∧
        (¬ ((ix (ix v2 v6) (ix x1 v3)) = true) →
          inI (v6 + 1) ∧
          rec2 (true, (v6 + 1))) ∧
        (¬ (¬ ((ix (ix v2 v6) (ix x1 v3)) = true)) →
          ∃ v7 : Bool × Unit, ref15_Has_W x1 v6 (fun z => (z, ()) = v7) ∧
          inI (v6 + 1) ∧
          rec2 (v7.1, (v6 + 1)))) ∧
      (¬ (v5 = true) →
        inI (v6 + 1) ∧
        rec2 (false, (v6 + 1)))) ∧
    (¬ (v6 < (x0.Writes.length : Int)) →
      (v5 = true →
        inX v3 x1.length ∧
        lenOk (v4 ++ ([(ix x1 v3)] : List Int)).length 8 ∧
        inI (v3 + 1) ∧
        rec1 ((v3 + 1), (v4 ++ ([(ix x1 v3)] : List Int)))) ∧
      (¬ (v5 = true) →
        inI (v3 + 1) ∧
        rec1 ((v3 + 1), v4)))
def ref16_Greatest_L1 (x0 : api_History) (x1 : List Int) (v2 : List (List Bool)) (Φ : List Int × Int → Prop) : (Int × List Int) → ((Int × List Int) → Prop) → Prop
  | (v3, v4), rec1 =>
    (v3 < (x1.length : Int) →
      LoopW (ref16_Greatest_L2 x0 x1 v2 v3 v4 rec1 Φ) (true, 0)) ∧
    (¬ (v3 < (x1.length : Int)) →
      Φ (v4, 0))
def ref16_Greatest_W (x0 : api_History) (x1 : List Int) (Φ : List Int × Int → Prop) : Prop :=
  ref16_right_W x0 x1 fun v1 =>
    (v1 ≠ 0 →
      Φ (([] : List Int), v1)) ∧
    (¬ (v1 ≠ 0) →
      ref16_Table_W x0 fun v2 =>
        LoopW (ref16_Greatest_L1 x0 x1 v2 Φ) (0, ([] : List Int)))
def ref18_Newest_L3 (x0 : api_History) (x1 : List (List Sec)) (v3 : Int) (v4 : List Int) (rec2 : (Int × List Int) → Prop) (_ : List Int × Bool × Int → Prop) : (Bool × Int) → ((Bool × Int) → Prop) → Prop
  | (v5, v6), rec3 =>
    (v6 < (((ix x0.Writes v3).Data).length : Int) →
      inX ((ix x0.Writes v3).Volume) x1.length ∧
      inI (((ix x0.Writes v3).Start) + v6) ∧
      inX (((ix x0.Writes v3).Start) + v6) (ix x1 ((ix x0.Writes v3).Volume)).length ∧
      (v5 = true →
        ((ix (ix x1 ((ix x0.Writes v3).Volume)) (((ix x0.Writes v3).Start) + v6)) ≠ sec0 →
          inI (((ix x0.Writes v3).Start) + v6) ∧
          ref18_author_W x0 ((ix x0.Writes v3).Volume) (((ix x0.Writes v3).Start) + v6) (ix (ix x1 ((ix x0.Writes v3).Volume)) (((ix x0.Writes v3).Start) + v6)) fun v7 =>
            inI (v6 + 1) ∧
            rec3 (decide (v3 ≤ v7), (v6 + 1))) ∧
        (¬ ((ix (ix x1 ((ix x0.Writes v3).Volume)) (((ix x0.Writes v3).Start) + v6)) ≠ sec0) →
          inI (v6 + 1) ∧
          rec3 (false, (v6 + 1)))) ∧
      (¬ (v5 = true) →
        inI (v6 + 1) ∧
        rec3 (false, (v6 + 1)))) ∧
    (¬ (v6 < (((ix x0.Writes v3).Data).length : Int)) →
      (v5 = true →
        lenOk (v4 ++ ([v3] : List Int)).length 8 ∧
        inI (v3 + 1) ∧
        rec2 ((v3 + 1), (v4 ++ ([v3] : List Int)))) ∧
      (¬ (v5 = true) →
        inI (v3 + 1) ∧
        rec2 ((v3 + 1), v4)))
def ref18_Newest_L2 (x0 : api_History) (x1 : List (List Sec)) (Φ : List Int × Bool × Int → Prop) : (Int × List Int) → ((Int × List Int) → Prop) → Prop
  | (v3, v4), rec2 =>
    (v3 < (x0.Writes.length : Int) →
      inX v3 x0.Writes.length ∧
      LoopW (ref18_Newest_L3 x0 x1 v3 v4 rec2 Φ) (true, 0)) ∧
    (¬ (v3 < (x0.Writes.length : Int)) →
      ref16_Greatest_W x0 v4 fun v8 =>
        Φ (v8.1, true, v8.2))
def ref18_Newest_J1 (x0 : api_History) (x1 : List (List Sec)) (v1 : List Int × Bool × Int) (Φ : List Int × Bool × Int → Prop) : Bool → Prop
  | v2 =>
    (v2 = true →
      Φ (([] : List Int), false, v1.2.2)) ∧
    (¬ (v2 = true) →
      LoopW (ref18_Newest_L2 x0 x1 Φ) (0, ([] : List Int)))
def ref18_Newest_W (x0 : api_History) (x1 : List (List Sec)) (Φ : List Int × Bool × Int → Prop) : Prop :=
  ref18_Find_W x0 x1 fun v1 =>
    Join (ref18_Newest_J1 x0 x1 v1 Φ) fun J1 =>
      (v1.2.2 ≠ 0 →
        J1 true) ∧
      (¬ (v1.2.2 ≠ 0) →
        J1 (decide (¬ (v1.2.1 = true))))
def law18_ConsistencyFinds_W (x0 : api_History) (x1 : List (List Sec)) (Φ : Bool → Prop) : Prop :=
  law18_few_W x0 x1 fun v1 =>
    (¬ (v1 = true) →
      law18_awake_W fun v2 =>
        Φ v2) ∧
    (¬ (¬ (v1 = true)) →
      consistency_Find_W x0 x1 fun v3 =>
        ref18_Find_W x0 x1 fun v4 =>
          consistency_Newest_W x0 x1 fun v5 =>
            ref18_Newest_W x0 x1 fun v6 =>
              slices_Equal_int_int_W v3.1 v4.1 fun v7 =>
                (v7 = true →
                  (v3.2.1 = v4.2.1 →
                    (v3.2.2 = v4.2.2 →
                      slices_Equal_int_int_W v5.1 v6.1 fun v8 =>
                        (v8 = true →
                          (v5.2.1 = v6.2.1 →
                            (v5.2.2 = v6.2.2 →
                              law18_awake_W fun v9 =>
                                Φ v9) ∧
                            (¬ (v5.2.2 = v6.2.2) →
                              Φ false)) ∧
                          (¬ (v5.2.1 = v6.2.1) →
                            Φ false)) ∧
                        (¬ (v8 = true) →
                          Φ false)) ∧
                    (¬ (v3.2.2 = v4.2.2) →
                      Φ false)) ∧
                  (¬ (v3.2.1 = v4.2.1) →
                    Φ false)) ∧
                (¬ (v7 = true) →
                  Φ false))
end Go.Proofs.YtjjodmgmidbamaaGreat
