/- Part 4 of the proof of the statement CutListsCardSaid: lemmas. No condition of its own. -/
import Derived.Lib.TrailingZeros
import Derived.Shelf.SlSortCmp.NoneTotal
import Derived.SevenTiedAt
import Derived.Test.YtpmjodnmnffmhaaGreatDoorRows
import Derived.Test.YtpmjodnmnffmhaaGreatDoorTie
import Derived.Test.YtpmjodnmnffmhaaGreatDoorCards
import Derived.Test.YtpmjodnmnffmhaaGreatDoorProg
import Derived.Shelf.SlicesG.Cmp
import Derived.Shelf.SlGeneric
import Derived.Ground.SlgcProg
import Derived.Ground.SlgmProg
import Derived.Ground.SlsfProg
import Derived.Shelf.SortM.Plain
import Derived.Shelf.SortM.SortNone
import Derived.Shelf.Lay
import Derived.Shelf.Strings.BuilderK
import Derived.Shelf.Strconv.Itoa3
import Derived.Test.YtpmjodnmnffmhaaGreatDoorM3
namespace Go.Proofs.YtpmjodnmnffmhaaGreatDoor
open Go.RowKit
section
section
variable {D : Nat → Type} [∀ t, Dt (D t)]
def slotsOf : Nat → List (SV D) → List (Nat × SV D)
  | _, [] => []
  | k, v :: r => (k, v) :: slotsOf (k + 1) r
variable {E : Env D} {fr : List (Nat × Blk D)} {F : List Ent} {w0 w : World} {H0 H : Hp} {R : List Ent} {ρ : RM} {L : List Ent} {st : St D} {σ : Nat → Value}
theorem slotsOf_ok : ∀ {l : List (SV D)} {xs : List Value} {k : Nat}, RvL H ρ xs l → SlR H ρ (slotsOf k l) (sl (enumA k xs) fun _ => undef)
  | [], _, _, _ => fun t v h => by cases h
  | u :: r, xs, k, ⟨x, q, e, h1, h2⟩ => fun t v h => by
    subst e
    unfold slotsOf getS at h
    show Rv H ρ (bif Nat.beq t k then x else sl (enumA (k + 1) q) (fun _ => undef) t) v
    cases hb : Nat.beq t k with
    | true => rw [hb] at h; cases h; exact h1
    | false => rw [hb] at h; exact slotsOf_ok h2 t v h
def isEnd : Exit → Bool
  | .ret => true
  | .normal => true
  | _ => false
theorem isEnd_ok {e : Exit} (h : isEnd e = true) : e = .ret ∨ e = .normal := by
  cases e <;> first | exact .inl rfl | exact .inr rfl | cases h
def runF (E : Env D) : Nat → CallI D
  | 0 => fun _ _ _ _ _ _ => False
  | n + 1 => fun f vs st fr pos K => match E.P.funcs[f]? with
    | some fn => match fn.body with
      | some c => cdP (entB E.P f && Nat.ble vs.length fn.ntmps) (runC E (runF E n) fn.ntmps false c pos fr ⟨slotsOf 0 vs, st.bk, st.kn, st.nx⟩ fun e st' => cdP (isEnd e) (match mapO (rvE E.P E.tb st' fr) fn.results.toList with
        | some rs => K (tupV rs) st'
        | none => False) False) False
      | none => False
    | none => False
theorem endM_ok {P : Program} {fn : Func} {T : Value → World → Prop} {e : Exit} (he : e = .ret ∨ e = .normal) {X : List Ent} : ∀ (ms : List Nat) {w : World}, Mem w0 H0 w H (mkO ms ++ X) → (∀ w', Mem w0 H0 w' H X → endQ P fn T e [] σ w') → endQM P fn T e (mkD ms) σ w
  | [], w, hM, k => k w hM
  | _ :: ms, _, hM, k => endQM.mark he hM 0 rfl fun _ hM' => endM_ok he ms (hM'.sub (List.sublist_cons_self _ _)) k
theorem perm_mid (A B M R : List Ent) : (A ++ (B ++ (M ++ R))).Perm (M ++ (A ++ (B ++ R))) := by
  rw [← List.append_assoc, ← List.append_assoc, ← List.append_assoc A B R, ← List.append_assoc]
  exact (List.perm_append_comm (l₁ := A ++ B) (l₂ := M)).append_right R
theorem runF_ok (hE : E.Ok) : ∀ n, CallOk E.P E.G (runF E n)
  | 0 => fun _ _ _ _ _ _ _ _ _ _ _ _ _ _ _ _ h _ _ _ => h.elim
  | n + 1 => fun f vs st fr pos K F w0 H0 R H ρ L σ w xs h h0 hs hv => by
    unfold runF at h
    split at h
    · rename_i fn hf
      split at h
      · rename_i c hc
        obtain ⟨hb, h⟩ := cifP h
        rw [Bool.and_eq_true] at hb
        refine ⟨entB_ok hb.1, ?_⟩
        have hN : xs.toArray.size ≤ fn.ntmps := by
          have := Nat.le_of_ble_eq_true hb.2
          simpa [RvL.length hv] using this
        have hs0 : Sat fr F w0 H0 (mkO [] ++ R) H ρ L (⟨slotsOf 0 vs, st.bk, st.kn, st.nx⟩ : St D) (sl (enumA 0 xs) fun _ => undef) w := ⟨hs.mem, slotsOf_ok hv, hs.bk, hs.fr, hs.kn, hs.nx⟩
        refine (calls_of_codeM (R := fun v w' => ∃ s st', K s st' ∧ Out fr F w0 H0 R H ρ (fun _ => undef) ⟨[], st'.bk, st'.kn, st'.nx⟩ s v w') hf hc hN ?_)
        refine runC_ok (ms := []) (R := R) hE h0 (runF_ok hE n) c (fun _ => ⟨rfl, rfl⟩) hs0 h fun e => ?_
        intro ms' st' σ' w' H' ρ' L' h1 _ h2 h3 h4
        obtain ⟨he, h1⟩ := cifP h1
        refine endM_ok (isEnd_ok he) ms' (h4.mem.perm (perm_mid _ _ _ _)) fun w2 hw2 => ?_
        have h4 := h4.reR hw2
        split at h1
        · rename_i rs hrs
          obtain ⟨us, g1, g2⟩ := results_ok hE.tb h4 hrs
          refine ⟨isEnd_ok he, rfl, tupVal us, g2, tupV rs, st', h1, H', ρ', L', h2, h3, ⟨h4.mem, (fun t v hv => nomatch hv), h4.bk, h4.fr, h4.kn, h4.nx⟩, tupVal_ok g1⟩
        · exact h1.elim
      · exact h.elim
    · exact h.elim
def globB : SV D → Bool
  | .i _ _ | .w _ | .y _ | .k _ | .b _ | .p _ _ | .c _ | .nil | .fsl _ _ | .st _ => true
  | _ => false
theorem globB_ok {ρ' : RM} {s : SV D} {x : Value} (h : globB s = true) (hx : Rv H ρ x s) : Rv H ρ' x s := by
  cases s <;> first | exact hx | cases h
def rtC : List Bool → List (Nat × Blk D) → List (SV D) → Option (List (SV D) × List (Nat × Blk D))
  | [], bk, l => match l with
    | [] => some ([], bk)
    | _ :: _ => none
  | f :: fs, bk, l => match l with
    | [] => none
    | s :: r => match f with
      | true => match s with
        | .own id => match remB bk id with
          | some (.row e xs, bk1) => match rtC fs bk1 r with
            | some (p, bk2) => some (.fsl e xs :: p, bk2)
            | none => none
          | _ => none
        | .nil => match rtC fs bk r with
          | some (p, bk2) => some (.nil :: p, bk2)
          | none => none
        | _ => none
      | false => bif globB s then (match rtC fs bk r with
        | some (p, bk2) => some (s :: p, bk2)
        | none => none) else none
def RtR (w0 : World) (H0 : Hp) (w : World) (H : Hp) (ρ : RM) (fs : List Bool) (us : List Value) (q : List (SV D)) (bk' : List (Nat × Blk D)) (X : List Ent) : Prop :=
  ∃ S L', Mem w0 H0 w H (L' ++ (S ++ X)) ∧ BkR H ρ bk' L' ∧ ∀ (nx : Nat) (ρ0 : RM) (l' : List (SV D)) (b : List (Nat × Blk D)) (m : Nat), (∀ id, nx ≤ id → ρ0 id = none) → ownC fs nx q = some (l', b, m) → ∃ ρ', RM.le ρ0 ρ' ∧ nx ≤ m ∧ (∀ id, m ≤ id → ρ' id = none) ∧ (∀ id, id < nx → ρ' id = ρ0 id) ∧ RvL H ρ' us l' ∧ BkR H ρ' b S
theorem RtR.row {fs : List Bool} {bk' : List (Nat × Blk D)} {X : List Ent} {e : Nat} {xs : List (D e)} {A : Option Addr} {n c : Nat} {z : List Value} {L1 : List Ent} {q1 : List (SV D)} {x : Value} {u : List Value} (hM1 : Mem w0 H0 w H (.row (.slice A n c) e (Dt.sz (D e)) n z :: (L1 ++ X))) (hd : DtL (α := D e) H z xs) (hn : n = xs.length) (hx : x = .slice A n c)
    (h : Mem w0 H0 w H (L1 ++ ([.row (.slice A n c) e (Dt.sz (D e)) n z] ++ X)) → RtR w0 H0 w H ρ fs u q1 bk' ([.row (.slice A n c) e (Dt.sz (D e)) n z] ++ X)) : RtR w0 H0 w H ρ (true :: fs) (x :: u) (.fsl e xs :: q1) bk' X := by
  have hM2 : Mem w0 H0 w H (L1 ++ ([.row (.slice A n c) e (Dt.sz (D e)) n z] ++ X)) := hM1.perm (by
    rw [← List.append_assoc]
    exact (List.perm_append_comm (l₁ := [Ent.row (.slice A n c) e (Dt.sz (D e)) n z]) (l₂ := L1)).append_right X)
  obtain ⟨S, L', a1, a2, a3⟩ := h hM2
  refine ⟨.row (.slice A n c) e (Dt.sz (D e)) n z :: S, L', a1.perm ?_, a2, fun nx ρ0 l' b m hn0 ho => ?_⟩
  · refine List.Perm.append_left L' ?_
    show (S ++ ([Ent.row (.slice A n c) e (Dt.sz (D e)) n z] ++ X)).Perm ([Ent.row (.slice A n c) e (Dt.sz (D e)) n z] ++ S ++ X)
    rw [← List.append_assoc]
    exact List.perm_append_comm.append_right X
  · rw [ownC] at ho
    cases ho1 : ownC fs (nx + 1) q1 with
    | none => simp only [ho1] at ho; cases ho
    | some t =>
      obtain ⟨l1, b1, m1⟩ := t
      simp only [ho1] at ho
      cases ho
      obtain ⟨f1, f2⟩ := fresh_put hn0 (.r A n c)
      obtain ⟨ρ', b2, b3, b4, b4', b5, b6⟩ := a3 (nx + 1) (ρ0.put nx (.r A n c)) _ _ _ f2 ho1
      have e0 : ρ' nx = some (.r A n c) := b2 _ _ (RM.put_same _ _ _)
      exact ⟨ρ', f1.trans b2, by omega, b4, fun id hid => by rw [b4' id (by omega), RM.put_ne _ _ (by omega)], ⟨x, u, rfl, ⟨A, n, c, e0, hx⟩, b5⟩, _, _, rfl, ⟨A, n, c, z, e0, rfl, hd, hn⟩, b6⟩
theorem rtC_ok : ∀ {fs : List Bool} {l p q : List (SV D)} {us : List Value} {bk bk' : List (Nat × Blk D)} {L X : List Ent}, Mem w0 H0 w H (L ++ X) → BkR H ρ bk L → RvL H ρ us l → rtC fs bk l = some (p, bk') → CQL p q → RtR w0 H0 w H ρ fs us q bk' X
  | [], l, p, q, us, bk, bk', L, X, hM, hk, hu, h, hq => by
    cases l with
    | cons _ _ => cases h
    | nil =>
      cases h
      obtain rfl : q = [] := hq
      refine ⟨[], L, hM, hk, fun nx ρ0 l' b m hn ho => ?_⟩
      cases ho
      exact ⟨ρ0, RM.le.refl _, Nat.le_refl _, hn, fun _ _ => rfl, hu, rfl⟩
  | f :: fs, l, p, q, us, bk, bk', L, X, hM, hk, hu, h, hq => by
    cases l with
    | nil => cases h
    | cons s r =>
      obtain ⟨x, u, rfl, h1, h2⟩ := hu
      unfold rtC at h
      cases f with
      | true =>
        simp only at h
        split at h
        · rename_i id
          split at h
          · rename_i e xs bk1 hr
            split at h
            · rename_i p1 bk2 hr1
              cases h
              obtain ⟨q0, q1, rfl, hcq, hq1⟩ := hq
              obtain ⟨S1, L1, g1, ⟨A, n, c, z, g2, rfl, g3, g4⟩, g5⟩ := hk.rem hr
              obtain ⟨A', n', c', g6, g7⟩ := h1
              rw [g2] at g6; cases g6
              have hq0 : q0 = .fsl e xs := by
                rcases hcq with ⟨e', xs', rfl, h | ⟨h, _⟩⟩ | ⟨hsc, _⟩
                · exact h.symm
                · cases h
                · cases hsc
              subst hq0
              exact RtR.row (hM.perm (g1.append_right X)) g3 g4 g7 fun hM2 => rtC_ok hM2 g5 h2 hr1 hq1
            · cases h
          · cases h
        · split at h
          · rename_i p1 bk2 hr1
            cases h
            obtain ⟨q0, q1, rfl, hcq, hq1⟩ := hq
            rcases hcq with ⟨e', xs', rfl, h | ⟨_, rfl⟩⟩ | ⟨hsc, _⟩
            · cases h
            · exact RtR.row (hM.nilRow e' (Dt.sz (D e'))) DtL.nil rfl h1 fun hM2 => rtC_ok hM2 hk h2 hr1 hq1
            · cases hsc
          · cases h
        · cases h
      | false =>
        simp only at h
        have hh := cif h
        clear h
        obtain ⟨hgl, h⟩ := hh
        split at h
        · rename_i p1 bk2 hr1
          cases h
          obtain ⟨q0, q1, rfl, hcq, hq1⟩ := hq
          obtain ⟨S, L', a1, a2, a3⟩ := rtC_ok hM hk h2 hr1 hq1
          refine ⟨S, L', a1, a2, fun nx ρ0 l' b m hn0 ho => ?_⟩
          rw [ownC] at ho
          cases ho1 : ownC fs nx q1 with
          | none => simp only [ho1] at ho; cases ho
          | some t =>
            obtain ⟨l1, b1, m1⟩ := t
            simp only [ho1] at ho
            cases ho
            obtain ⟨ρ', b2, b3, b4, b4', b5, b6⟩ := a3 nx ρ0 _ _ _ hn0 ho1
            exact ⟨ρ', b2, b3, b4, b4', ⟨x, u, rfl, hcq.rv (globB_ok hgl h1), b5⟩, b6⟩
        · cases h
def rtCC : List (List Bool) → List (Nat × Blk D) → List (List (SV D)) → Option (List (List (SV D)))
  | [], _, l => match l with
    | [] => some []
    | _ :: _ => none
  | f :: fs, bk, l => match l with
    | [] => none
    | c :: r => match rtC f bk c with
      | some (p, bk1) => match rtCC fs bk1 r with
        | some q => some (p :: q)
        | none => none
      | none => none
def falseIds : List (List Bool) → List (List (SV D)) → List Nat
  | f :: fs, l :: ls => ownIdsL ((f.zip l).filterMap fun p => bif p.1 then none else some p.2) ++ falseIds fs ls
  | _, _ => []
def cqTup (tb : Tb D) : (ts : List Nat) → TupD D ts → List (List (SV D)) → List (List (SV D)) → Prop
  | [], _, _, q => q = []
  | t :: r, y, p, q => ∃ p1 p2 q1 q2, p = p1 :: p2 ∧ q = q1 :: q2 ∧ toC tb t y.1 = some q1 ∧ CQL p1 q1 ∧ cqTup tb r y.2 p2 q2
theorem ofTup_cq {tb : Tb D} (htb : TbOk tb) : ∀ {ts : List Nat} {p : List (List (SV D))} {y : TupD D ts}, ofTup tb ts p = some y → ∃ q, tupC tb ts y = some q ∧ cqTup tb ts y p q
  | [], [], y, h => ⟨[], rfl, rfl⟩
  | [], _ :: _, _, h => by cases h
  | _ :: _, [], _, h => by cases h
  | t :: r, p1 :: p2, y, h => by
    obtain ⟨h1, h2⟩ := ofTup2 h
    obtain ⟨q1, g1, g2⟩ := ofC_cq htb h1
    obtain ⟨q2, g3, g4⟩ := ofTup_cq htb h2
    refine ⟨q1 :: q2, ?_, p1, p2, q1, q2, rfl, rfl, g1, g2, g4⟩
    rw [tupC]
    simp only [g1, g3]
theorem rtCC_ok {tb : Tb D} : ∀ {ts : List Nat} {fs : List (List Bool)} {l p q : List (List (SV D))} {y : TupD D ts} {us : List (List Value)} {bk : List (Nat × Blk D)} {L X : List Ent}, Mem w0 H0 w H (L ++ X) → BkR H ρ bk L → RvLL H ρ us l → rtCC fs bk l = some p → cqTup tb ts y p q →
    ∃ S, Mem w0 H0 w H (S ++ X) ∧ ∀ (nx : Nat) (ρ0 : RM) (l' : List (List (SV D))) (b : List (Nat × Blk D)) (m : Nat), (∀ id, nx ≤ id → ρ0 id = none) → ownCC fs nx q = some (l', b, m) → ∃ ρ', RM.le ρ0 ρ' ∧ nx ≤ m ∧ (∀ id, m ≤ id → ρ' id = none) ∧ (∀ id, id < nx → ρ' id = ρ0 id) ∧ RvLL H ρ' us l' ∧ BkR H ρ' b S
  | [], fs, l, p, q, y, us, bk, L, X, hM, hk, hu, h, hq => by
    obtain rfl : q = [] := hq
    refine ⟨[], hM.sub (List.sublist_append_right L X), fun nx ρ0 l' b m hn ho => ?_⟩
    cases fs with
    | cons _ _ => cases ho
    | nil =>
      cases ho
      cases l with
      | cons _ _ => cases h
      | nil => exact ⟨ρ0, RM.le.refl _, Nat.le_refl _, hn, fun _ _ => rfl, hu, rfl⟩
  | t :: ts, fs, l, p, q, y, us, bk, L, X, hM, hk, hu, h, ⟨p1, p2, q1, q2, hp, hq, _, hc, hr⟩ => by
    subst hp; subst hq
    cases fs with
    | nil => cases l <;> cases h
    | cons f fs =>
      cases l with
      | nil => cases h
      | cons c l =>
        obtain ⟨u, v, rfl, h1, h2⟩ := hu
        rw [rtCC] at h
        cases ha : rtC f bk c with
        | none => simp only [ha] at h; cases h
        | some a =>
          obtain ⟨a1, bk1⟩ := a
          cases hb : rtCC fs bk1 l with
          | none => simp only [ha, hb] at h; cases h
          | some b =>
            simp only [ha, hb] at h
            cases h
            obtain ⟨S1, L1, g1, g2, g3⟩ := rtC_ok hM hk h1 ha hc
            obtain ⟨S2, k1, k2⟩ := rtCC_ok (ts := ts) g1 g2 h2 hb hr
            refine ⟨S1 ++ S2, k1.perm ?_, fun nx ρ0 l' b m hn ho => ?_⟩
            · rw [← List.append_assoc]
              exact List.perm_append_comm.append_right X
            · rw [ownCC] at ho
              cases ho1 : ownC f nx q1 with
              | none => simp only [ho1] at ho; cases ho
              | some o =>
                obtain ⟨l1, b1, m1⟩ := o
                cases ho2 : ownCC fs m1 q2 with
                | none => simp only [ho1, ho2] at ho; cases ho
                | some o2 =>
                  obtain ⟨l2, b2, m2⟩ := o2
                  simp only [ho1, ho2] at ho
                  cases ho
                  obtain ⟨ρ1, i1, i2, i3, i3', i4, i5⟩ := g3 nx ρ0 _ _ _ hn ho1
                  obtain ⟨ρ2, j1, j2, j3, j3', j4, j5⟩ := k2 m1 ρ1 _ _ _ i3 ho2
                  exact ⟨ρ2, i1.trans j1, by omega, j3, fun id hid => by rw [j3' id (by omega), i3' id hid], ⟨u, v, rfl, RvL.mono (Hp.le.refl _) j1 _ i4, j4⟩, (i5.mono (Hp.le.refl _) j1).append j5⟩
def retF (P : Program) (tb : Tb D) (fn : Func) (rs : List Nat) (own : List (List Bool)) (Φ : TupD D rs → Prop) (st : St D) : Prop := match mapO (rvE P tb st []) fn.results.toList with
  | some vs => match argsC P rs (vs.map fun v => rsD (st.lk []) (resD st.kn v)) with
    | some ls0 => match mapO (rvE P tb (st.frzL (falseIds own ls0)) []) fn.results.toList with
      | some us => match argsC P rs (us.map fun v => rsD ((st.frzL (falseIds own ls0)).lk []) (resD st.kn v)) with
        | some ls => match rtCC own (st.frzL (falseIds own ls0)).bk ls with
          | some ps => match ofTup tb rs ps with
            | some y => Φ y
            | none => False
          | none => False
        | none => False
      | none => False
    | none => False
  | none => False
def topF (E : Env D) (n : Nat) (f : Nat) (ps rs : List Nat) (own : List (List Bool)) (x : TupD D ps) (Φ : TupD D rs → Prop) : Prop := match tupC E.tb ps x with
  | some ls => match packs E.P ps ls with
    | some vs => match E.P.funcs[f]? with
      | some fn => match fn.body with
        | some c => cdP (Nat.ble vs.length fn.ntmps) (runC E (runF E n) fn.ntmps false c [] [] ⟨slotsOf 0 vs, [], [], 0⟩ fun e st' => cdP (isEnd e) (retF E.P E.tb fn rs own Φ st') False) False
        | none => False
      | none => False
    | none => False
  | none => False
theorem Ct.lift (hE : E.Ok) (n : Nat) (c : Ct D) (h : ∀ x Φ, c.W x Φ → topF E n c.f c.ps c.rs c.own x Φ) : c.Ok E.P E.tb E.G := by
  intro x Φ hW H vs hGH hA
  have hF := h x Φ hW
  unfold topF at hF
  split at hF
  · rename_i ls hls
    split at hF
    · rename_i svs hsv
      split at hF
      · rename_i fn hfn
        split at hF
        · rename_i cd hcd
          obtain ⟨hN, hF⟩ := cifP hF
          obtain ⟨cs, g1, g2⟩ := argsR_cells (ρ := fun _ => none) hE.tb hA hls
          have g3 := packs_ok g1 g2 hsv
          refine RetP.of_codeM hfn hcd (by have := Nat.le_of_ble_eq_true hN; simpa [RvL.length g3] using this) fun w hM => ?_
          have hs0 : Sat [] [] w H (mkO [] ++ []) H (fun _ => none) [] (⟨slotsOf 0 svs, [], [], 0⟩ : St D) (sl (enumA 0 vs) fun _ => undef) w := ⟨hM, slotsOf_ok g3, rfl, rfl, (fun _ _ h => nomatch h), fun _ _ => rfl⟩
          refine runC_ok (ms := []) (R := []) hE hGH (runF_ok hE n) cd (fun _ => ⟨rfl, rfl⟩) hs0 hF fun e => ?_
          intro ms' st' σ' w' H' ρ' L' h1 _ h2 h3 h4
          obtain ⟨he, h1⟩ := cifP h1
          refine endM_ok (isEnd_ok he) ms' (h4.mem.perm (perm_mid _ _ _ _)) fun w2 hw2 => ?_
          have h4 := h4.reR hw2
          unfold retF at h1
          split at h1
          · rename_i v1 hv1
            split at h1
            · rename_i ls0 hl0
              split at h1
              · rename_i us hus
                split at h1
                · rename_i ls1 hl1
                  split at h1
                  · rename_i ps hps
                    split at h1
                    · rename_i y hy
                      obtain ⟨H2, L2, k1, k2⟩ := h4.frzL (falseIds c.own ls0)
                      obtain ⟨ux, e1, e2⟩ := results_ok hE.tb k2 hus
                      have hkn := (frzL_sl (falseIds c.own ls0) st').2.1
                      have e3 := mapRs_ok k2 e1
                      rw [hkn] at e3
                      obtain ⟨cs2, e4, e5⟩ := argsC_cells e3 hl1
                      obtain ⟨q, e6, e7⟩ := ofTup_cq hE.tb hy
                      have hM2 := k2.mem
                      obtain ⟨S, i1, i2⟩ := rtCC_ok (X := []) (by simpa using hM2) k2.bk e5 hps e7
                      refine ⟨isEnd_ok he, rfl, tupVal ux, e2, H2, S, by simpa using i1, y, h1, ?_⟩
                      intro nx ρ0 hn0 s b m hres
                      unfold resE at hres
                      rw [e6] at hres
                      simp only at hres
                      split at hres
                      · rename_i ls' b' m' ho
                        split at hres
                        · rename_i vs' hp
                          cases hres
                          obtain ⟨ρ2, j1, j2, j3, j3', j4, j5⟩ := i2 nx ρ0 _ _ _ hn0 ho
                          exact ⟨ρ2, j1, j2, j3, j3', tupVal_ok (packs_ok e4 j4 hp), j5⟩
                        · cases hres
                      · cases hres
                    · exact h1.elim
                  · exact h1.elim
                · exact h1.elim
              · exact h1.elim
            · exact h1.elim
          · exact h1.elim
        · exact hF.elim
      · exact hF.elim
    · exact hF.elim
  · exact hF.elim
end
end
section
section
variable {F : Fence} {n : Nat} {P : Program} {ops : Array Oper} {Q : Exit → Act → World → Prop}
theorem wpList_cons1 {Q1 : Exit → Act → World → Prop} {o : Oper} {l : List Oper} {a : Act} {w : World} (h : wpListIn F n P ops Q1 [o] a w) (hK : ∀ a w, Q1 .normal a w → wpListIn F n P ops Q l a w) (hp : ∀ c a w, ¬ Q1 (.panic c) a w) (hl : ¬ LetsOut Q1) : wpListIn F n P ops Q (o :: l) a w := by
  unfold wpListIn at h ⊢
  split at h
  · rename_i hw
    rw [if_pos hw]
    refine ⟨h.1, ?_⟩
    have h2 := h.2
    generalize (o.semAt F.round a.eval).run P w = res at h2
    cases res with
    | ok nx w' =>
      cases nx with
      | value v => exact hK _ _ h2
      | skip => exact hK _ _ h2
      | defer d => exact hK _ _ h2
      | enter f args =>
        refine ⟨h2.1, h2.2.mono fun e w'' he => ?_⟩
        cases e with
        | returned v => exact hK _ _ he
        | panicked chain => exact absurd he (hp _ _ _)
        | outgrown => exact absurd he hl
      | row row args => exact ⟨h2.1, h2.2.mono fun v w'' he => hK _ _ he⟩
      | round l f tmps assign body =>
        refine ⟨h2.1, h2.2.mono fun e w'' he => ?_⟩
        cases e with
        | returned v => exact hK _ _ he
        | panicked chain => exact absurd he (hp _ _ _)
        | outgrown => exact absurd he hl
      | _ => exact h2
    | halt x w' =>
      cases x with
      | panic v => exact absurd h2 (hp _ _ _)
      | _ => exact h2
  · rename_i hw
    rw [if_neg hw]
    exact ⟨h.1, hK _ _ h.2⟩
end
theorem RW.cons1 {r : Option Nat} {md : Nat} {P : Program} {N : Nat} {ops : Array Oper} {o : Oper} {l : List Oper} {Q : Exit → List Deferred → (Nat → Value) → World → Prop} {Dd : List Deferred} {σ : Nat → Value} {w : World}
    (h : RW r md P N ops [o] (fun e D' σ' w' => e = .normal ∧ RW r md P N ops l Q D' σ' w') Dd σ w) : RW r md P N ops (o :: l) Q Dd σ w := by
  intro a ha
  refine wpList_cons1 (h a ha) (fun a' w' hq => ?_) (fun c a' w' hq => ?_) (fun hq => ?_)
  · obtain ⟨D', σ', h1, _, h2⟩ := hq
    exact h2 a' h1
  · obtain ⟨_, _, _, hn, _⟩ := hq
    cases hn
  · obtain ⟨_, _, _, _, _, hn, _⟩ := hq
    cases hn
def Yl {α : Type} (l : List α) (K : α → List α → Prop) : Prop := match l with
  | [] => False
  | x :: r => K x r
section
variable {D : Nat → Type} [∀ t, Dt (D t)]
def yieldE (st : St D) (op : Op) : Option (List Operand) := match op with
  | .call ⟨.value g, xs, _⟩ => match evO st.sl g with
    | some (.kp 0) => some xs.toList
    | _ => none
  | _ => none
omit [∀ t, Dt (D t)] in
theorem yieldE_ok {st : St D} {op : Op} {xs : List Operand} (h : yieldE st op = some xs) : ∃ g ys tys, op = .call ⟨.value g, ys, tys⟩ ∧ evO st.sl g = some (.kp 0) ∧ xs = ys.toList := by
  unfold yieldE at h
  split at h
  · split at h
    · rename_i hg
      cases h
      exact ⟨_, _, _, rfl, hg, rfl⟩
    · cases h
  · cases h
def yOp (E : Env D) (fr : List (Nat × Blk D)) (ts : List Nat) (o : Oper) (sp : Bool) (st : St D) (rest : List (TupD D ts)) (K : Bool → St D → List (TupD D ts) → Prop) : Prop := match yieldE st o.op with
  | some xs => match sp with
    | true => False
    | false => Yl rest fun x r => match mapO (fun x => (evO st.sl x).map fun v => rsD (st.lk fr) (resD st.kn v)) xs with
      | some vs => match argsC E.P ts vs with
        | some ls => match ofTup E.tb ts ls with
          | some a => a = x ∧ K false (st.put o.dst (.k true)) r ∧ K true (st.put o.dst (.k false)) (x :: r)
          | none => False
        | none => False
      | none => False
  | none => stepD E fr o st fun v e _ _ => cdP e False (K sp (st.put o.dst v) rest)
def runY (E : Env D) (N : Nat) (fr : List (Nat × Blk D)) (ts : List Nat) (ops : Array Oper) : List Oper → Bool → St D → List (TupD D ts) → (Bool → St D → List (TupD D ts) → Prop) → Prop
  | [], sp, st, rest, K => K sp st rest
  | o :: l, sp, st, rest, K => cdP (dstOk o.dst N) (match gdE ops st o.guard with
    | .yes => yOp E fr ts o sp st rest fun sp' st' rest' => runY E N fr ts ops l sp' st' rest' K
    | .no => runY E N fr ts ops l sp (st.put o.dst (.c undef)) rest K
    | .ask t v want => askF v
        (cdP want (yOp E fr ts o sp (st.know (.tmp t) true) rest fun sp' st' rest' => runY E N fr ts ops l sp' st' rest' K) (runY E N fr ts ops l sp ((st.know (.tmp t) true).put o.dst (.c undef)) rest K))
        (cdP want (runY E N fr ts ops l sp ((st.know (.tmp t) false).put o.dst (.c undef)) rest K) (yOp E fr ts o sp (st.know (.tmp t) false) rest fun sp' st' rest' => runY E N fr ts ops l sp' st' rest' K))
    | .bad => False) False
def runI (E : Env D) (N : Nat) (fr : List (Nat × Blk D)) (ts : List Nat) : Code → List Nat → Bool → St D → List (TupD D ts) → (Exit → Bool → St D → List (TupD D ts) → Prop) → Prop
  | .skip, _, sp, st, rest, K => K .normal sp st rest
  | .ret, _, sp, st, rest, K => K .ret sp st rest
  | .exit id, _, sp, st, rest, K => K (.exit id) sp st rest
  | .region _ ops false, _, sp, st, rest, K => runY E N fr ts ops ops.toList sp st rest (K .normal)
  | .cond c a b, pos, sp, st, rest, K => match (evO st.sl c).map (res st.kn) with
    | some (.k true) => runI E N fr ts a (2 :: pos) sp st rest K
    | some (.k false) => runI E N fr ts b (3 :: pos) sp st rest K
    | some s => askF s (runI E N fr ts a (2 :: pos) sp (st.know c true) rest K) (runI E N fr ts b (3 :: pos) sp (st.know c false) rest K)
    | none => False
  | .block id c, pos, sp, st, rest, K => runI E N fr ts c (4 :: pos) sp st rest fun e sp' st' rest' => match e with
    | .exit id' => cdP (Nat.beq id' id) (K .normal sp' st' rest') (K (.exit id') sp' st' rest')
    | e => K e sp' st' rest'
  | .seq a b, pos, sp, st, rest, K => runI E N fr ts a (0 :: pos) sp st rest fun e sp' st' rest' => match e with
    | .normal => runI E N fr ts b (1 :: pos) sp' st' rest' K
    | e => K e sp' st' rest'
  | .loop c, pos, sp, st, rest, K => match sp, findP pos E.plan with
    | false, some pe => match fillE pe.tp st.tag.nx st.tag fr with
      | some s0 => LoopW (fun (q : List (TupD D ts) × TupV D pe.tp.vts) rec => match makeE pe.tp st.tag.nx st.tag.kn q.2 with
        | some st2 => match st2.bk with
          | [] => runI E N fr ts c (5 :: pos) false st2 q.1 fun e sp' st' rest' => match e with
            | .normal => match sp' with
              | false => match fillE pe.tp st.tag.nx st' fr with
                | some s' => rec (rest', s')
                | none => False
              | true => False
            | e => K e sp' st' rest'
          | _ :: _ => False
        | none => False) (rest, s0)
      | none => False
    | _, _ => False
  | _, _, _, _, _, _ => False
structure IS (fr : List (Nat × Blk D)) (H : Hp) (ρ : RM) (st : St D) (σ : Nat → Value) (w : World) : Prop where
  ag : ∀ b o, H b = some o → w.heap[b]? = some o
  sl : SlR H ρ st.sl σ
  fr : BkR H ρ fr []
  kn : KnR H ρ st.kn
  nx : ∀ id, st.nx ≤ id → ρ id = none
  bk : st.bk = []
theorem IS.sat {fr : List (Nat × Blk D)} {H : Hp} {ρ : RM} {st : St D} {σ : Nat → Value} {w : World} (h : IS fr H ρ st σ w) : Sat fr [] w H [] H ρ [] st σ w := ⟨Mem.start h.ag, h.sl, by rw [h.bk]; rfl, h.fr, h.kn, h.nx⟩
def JS {α : Type} (J Jx : Nat → World → Prop) (all : List α) (sp : Bool) (rest : List α) (w : World) : Prop := match sp with
  | false => ∃ k, k ≤ all.length ∧ J k w ∧ rest = all.drop k
  | true => ∃ k, k < all.length ∧ Jx k w
theorem JS.below {α : Type} {J Jx : Nat → World → Prop} (hJ : ∀ k A B, J k A → Below A.heap.size A B → J k B) (hJx : ∀ k A B, Jx k A → Below A.heap.size A B → Jx k B) {all rest : List α} {sp : Bool} {w w' : World} (h : JS J Jx all sp rest w) (hb : Below w.heap.size w w') : JS J Jx all sp rest w' := by
  cases sp with
  | false => obtain ⟨k, h0, h1, h2⟩ := h; exact ⟨k, h0, hJ _ _ _ h1 hb, h2⟩
  | true => obtain ⟨k, h1, h2⟩ := h; exact ⟨k, h1, hJx _ _ _ h2 hb⟩
theorem IS.put {fr : List (Nat × Blk D)} {H : Hp} {ρ : RM} {st : St D} {σ : Nat → Value} {w w' : World} (h : IS fr H ρ st σ w) (hag : ∀ b o, H b = some o → w'.heap[b]? = some o) {x : Value} {v : SV D} (hv : Rv H ρ x v) (d : Option Nat) : IS fr H ρ (st.put d v) (upd σ d x) w' := ⟨hag, h.sl.put hv d, h.fr, h.kn, h.nx, h.bk⟩
theorem IS.know {fr : List (Nat × Blk D)} {H : Hp} {ρ : RM} {st : St D} {σ : Nat → Value} {w : World} (h : IS fr H ρ st σ w) {c : Operand} {b : Bool} (hc : ev σ c = .bool b) : IS fr H ρ (st.know c b) σ w := by
  have hs := h.sat.know hc
  refine ⟨h.ag, hs.sl, h.fr, hs.kn, hs.nx, ?_⟩
  unfold St.know
  split <;> exact h.bk
variable {E : Env D} {N : Nat} {fr : List (Nat × Blk D)} {ts : List Nat} {H : Hp} {lp : Nat} {J Jx : Nat → World → Prop} {all : List (TupD D ts)}
def YOk (P : Program) (ts : List Nat) (H : Hp) (lp : Nat) (J Jx : Nat → World → Prop) (all : List (TupD D ts)) : Prop := ∀ k A0 vs, k < all.length → (∃ y, all[k]? = some y ∧ ArgsR P H ts y vs) → J k A0 → (∀ b o, H b = some o → A0.heap[b]? = some o) → Yield P lp vs A0 fun v B => (∀ b o, H b = some o → B.heap[b]? = some o) ∧ ((v = .bool true ∧ J (k + 1) B) ∨ (v = .bool false ∧ Jx k B))
theorem yOp_ok (hE : E.Ok) (hG : E.G H) (hJ : ∀ k A B, J k A → Below A.heap.size A B → J k B) (hJx : ∀ k A B, Jx k A → Below A.heap.size A B → Jx k B) (hY : YOk E.P ts H lp J Jx all) {r : Option Nat} {md : Nat} {ops : Array Oper} {Q : Exit → List Deferred → (Nat → Value) → World → Prop} {Dd : List Deferred} {K : Bool → St D → List (TupD D ts) → Prop} {ρ : RM} (h0 : ρ 0 = some (.v (.func (.yield lp) #[] #[]))) {o : Oper} {l : List Oper} {sp : Bool} {st : St D} {rest : List (TupD D ts)} {σ : Nat → Value} {w : World} (hs : IS fr H ρ st σ w) (hj : JS J Jx all sp rest w) (h : yOp E fr ts o sp st rest K) (hgd : gdOk ops σ o.guard = true) (hd : dstOk o.dst N = true)
    (hk : ∀ sp' st' rest' σ' w', K sp' st' rest' → IS fr H ρ st' σ' w' → JS J Jx all sp' rest' w' → RW r md E.P N ops l Q Dd σ' w') : RW r md E.P N ops (o :: l) Q Dd σ w := by
  unfold yOp at h
  split at h
  · rename_i xs hy
    split at h
    · exact h.elim
    · cases rest with
      | nil => exact h.elim
      | cons x rr =>
      simp only [Yl] at h
      obtain ⟨k, _, hJk, hrest⟩ := hj
      have hkl : k < all.length := by
        rcases Nat.lt_or_ge k all.length with h1 | h1
        · exact h1
        · rw [List.drop_eq_nil_of_le h1] at hrest; cases hrest
      rw [List.drop_eq_getElem_cons hkl] at hrest
      obtain ⟨rfl, rfl⟩ := List.cons.inj hrest
      split at h
      · rename_i vs hvs
        split at h
        · rename_i ls hls
          split at h
          · rename_i a ha
            obtain ⟨hax, hT, hF⟩ := h
            have hA := argsC_ok hE.tb ts (opVals_ok hs.sat hvs) hls ha
            rw [hax] at hA
            obtain ⟨d, op, ty, ps, af, gd⟩ := o
            obtain ⟨g, ys, tys, hop, hg, rfl⟩ := yieldE_ok (op := op) hy
            subst hop
            have hgv : ρ 0 = some (.v (ev σ g)) := evO_ok hs.sl hg
            rw [h0] at hgv
            have hgv : ev σ g = .func (.yield lp) #[] #[] := by
              have := Option.some.inj hgv
              injection this with this
              exact this.symm
            refine RW.yield hgv rfl (hY k w _ hkl ⟨_, List.getElem?_eq_getElem hkl, hA⟩ hJk hs.ag) hgd hd fun v w' ⟨hag, hv⟩ => ?_
            rcases hv with ⟨rfl, hv⟩ | ⟨rfl, hv⟩
            · exact hk _ _ _ _ _ hT (hs.put hag (v := .k true) rfl d) (show JS J Jx all false _ _ from ⟨k + 1, hkl, hv, rfl⟩)
            · exact hk _ _ _ _ _ hF (hs.put hag (v := .k false) rfl d) (show JS J Jx all true _ _ from ⟨k, hkl, hv⟩)
          · exact h.elim
        · exact h.elim
      · exact h.elim
  · obtain ⟨v, e, nb, hi, h1, h2⟩ := stepD_ok (ops := ops) hE h
    cases e with
    | true => exact h1.elim
    | false =>
      rcases h2 [] none with ⟨_, _, hq⟩ | ⟨hq, _⟩
      · refine RW.cons1 (hq hG (show Sat fr [] w H [] H ρ [] ⟨st.sl, st.bk, st.kn, st.nx⟩ σ w from hs.sat) hgd hd fun x w' hm hx => RW.nil ⟨rfl, ?_⟩)
        have hM := hm [] (Mem.start hs.ag)
        exact hk _ _ _ _ _ h1 (hs.put hM.agree hx o.dst) (hj.below hJ hJx hM.below)
      · cases hq
theorem runY_ok (hE : E.Ok) (hG : E.G H) (hJ : ∀ k A B, J k A → Below A.heap.size A B → J k B) (hJx : ∀ k A B, Jx k A → Below A.heap.size A B → Jx k B) (hY : YOk E.P ts H lp J Jx all) {r : Option Nat} {md : Nat} {ops : Array Oper} {Q : Exit → List Deferred → (Nat → Value) → World → Prop} {Dd : List Deferred} {K : Bool → St D → List (TupD D ts) → Prop} {ρ : RM} (h0 : ρ 0 = some (.v (.func (.yield lp) #[] #[]))) : ∀ {l : List Oper} {sp : Bool} {st : St D} {rest : List (TupD D ts)} {σ : Nat → Value} {w : World}, IS fr H ρ st σ w → JS J Jx all sp rest w → runY E N fr ts ops l sp st rest K → (∀ sp' st' rest' σ' w', K sp' st' rest' → IS fr H ρ st' σ' w' → JS J Jx all sp' rest' w' → Q .normal Dd σ' w') → RW r md E.P N ops l Q Dd σ w
  | [], sp, st, rest, σ, w, hs, hj, h, hk => RW.nil (hk _ _ _ _ _ h hs hj)
  | o :: l, sp, st, rest, σ, w, hs, hj, h, hk => by
    unfold runY at h
    obtain ⟨hd, h⟩ := cifP h
    have step : ∀ {st : St D}, IS fr H ρ st σ w → gdOk ops σ o.guard = true → (yOp E fr ts o sp st rest fun sp' st' rest' => runY E N fr ts ops l sp' st' rest' K) → RW r md E.P N ops (o :: l) Q Dd σ w := fun hs hgt h => yOp_ok hE hG hJ hJx hY h0 hs hj h hgt hd fun sp' st' rest' σ' w' h1 h2 h3 => runY_ok hE hG hJ hJx hY h0 h2 h3 h1 hk
    have pass : ∀ {st : St D}, IS fr H ρ st σ w → gdOk ops σ o.guard = false → runY E N fr ts ops l sp (st.put o.dst (.c undef)) rest K → RW r md E.P N ops (o :: l) Q Dd σ w := fun hs hgf h => by
      obtain ⟨d, op, ty, ps, af, gd⟩ := o
      exact RW.pass hgf hd (runY_ok hE hG hJ hJx hY h0 (hs.put hs.ag (v := .c undef) rfl d) hj h hk)
    have gok : ∀ {j want d} {x : Bool}, o.guard = some (j, want) → (ops[j]?).bind (·.dst) = some d → σ d = .bool x → gdOk ops σ o.guard = (x == want) := fun h1 h2 h3 => by
      unfold gdOk
      rw [h1]
      simp only [h2, h3]
    unfold gdE at h
    cases hgd : o.guard with
    | none =>
      simp only [hgd] at h
      exact step hs (by rw [hgd]; rfl) h
    | some jw =>
      obtain ⟨j, want⟩ := jw
      simp only [hgd] at h
      cases hj' : (ops[j]?).bind (·.dst) with
      | none =>
        simp only [hj'] at h
        refine pass hs ?_ h
        unfold gdOk
        rw [hgd]
        simp only [hj']
      | some d =>
        simp only [hj'] at h
        cases hsl : (getS st.sl d).map (res st.kn) with
        | none => simp only [hsl] at h
        | some s =>
          obtain ⟨v0, hv0, hv1⟩ := Option.map_eq_some_iff.1 hsl
          have hv2 := hs.sat.res (hs.sl _ _ hv0)
          rw [hv1] at hv2
          simp only [hsl] at h
          have ask : ∀ {v : SV D}, Rv H ρ (σ d) v → askF v (cdP want (yOp E fr ts o sp (st.know (.tmp d) true) rest fun sp' st' rest' => runY E N fr ts ops l sp' st' rest' K) (runY E N fr ts ops l sp ((st.know (.tmp d) true).put o.dst (.c undef)) rest K))
              (cdP want (runY E N fr ts ops l sp ((st.know (.tmp d) false).put o.dst (.c undef)) rest K) (yOp E fr ts o sp (st.know (.tmp d) false) rest fun sp' st' rest' => runY E N fr ts ops l sp' st' rest' K)) → RW r md E.P N ops (o :: l) Q Dd σ w := fun hv h => by
            rcases askF_ok hv h with ⟨e, h⟩ | ⟨e, h⟩
            · have hk := hs.know (c := .tmp d) (b := true) e
              have hgg := gok hgd hj' e
              cases want with
              | true => exact step hk hgg h
              | false => exact pass hk hgg h
            · have hk := hs.know (c := .tmp d) (b := false) e
              have hgg := gok hgd hj' e
              cases want with
              | true => exact pass hk hgg h
              | false => exact step hk hgg h
          cases s with
          | k b =>
            simp only at h
            have hgg := gok hgd hj' (show σ d = .bool b from hv2)
            cases hb : b == want with
            | true => rw [hb] at h; exact step hs (hgg.trans hb) h
            | false => rw [hb] at h; exact pass hs (hgg.trans hb) h
          | c v =>
            simp only at h
            cases hb : isBoolV v with
            | true => rw [hb] at h; exact h.elim
            | false =>
              rw [hb] at h
              refine pass hs ?_ h
              unfold gdOk
              rw [hgd]
              simp only [hj', show σ d = v from hv2]
              cases v <;> first | rfl | cases hb
          | b x => exact ask hv2 h
          | p p i => exact ask hv2 h
          | _ => exact h.elim
def GoesI (fr : List (Nat × Blk D)) (H : Hp) (J Jx : Nat → World → Prop) (all : List (TupD D ts)) (ρ : RM) (K : Bool → St D → List (TupD D ts) → Prop) (T : (Nat → Value) → World → Prop) : Prop := ∀ sp' st' rest' σ' w' ρ', K sp' st' rest' → RM.le ρ ρ' → IS fr H ρ' st' σ' w' → JS J Jx all sp' rest' w' → T σ' w'
theorem GoesI.mono {ρ ρ' : RM} {K : Bool → St D → List (TupD D ts) → Prop} {T : (Nat → Value) → World → Prop} (h : GoesI fr H J Jx all ρ K T) (hρ : RM.le ρ ρ') : GoesI fr H J Jx all ρ' K T := fun sp st rest σ w ρ2 hk h1 hs hj => h sp st rest σ w ρ2 hk (hρ.trans h1) hs hj
theorem runI_ok (hE : E.Ok) (hG : E.G H) (hJ : ∀ k A B, J k A → Below A.heap.size A B → J k B) (hJx : ∀ k A B, Jx k A → Below A.heap.size A B → Jx k B) (hY : YOk E.P ts H lp J Jx all) : ∀ (c : Code) {pos : List Nat} {sp : Bool} {st : St D} {rest : List (TupD D ts)} {σ : Nat → Value} {w : World} {ρ : RM} {K : Exit → Bool → St D → List (TupD D ts) → Prop} {Q : Exit → List Deferred → (Nat → Value) → World → Prop} {r : Option Nat} {md : Nat},
    ρ 0 = some (.v (.func (.yield lp) #[] #[])) → IS fr H ρ st σ w → JS J Jx all sp rest w → runI E N fr ts c pos sp st rest K → (∀ e, GoesI fr H J Jx all ρ (K e) fun σ' w' => Q e [] σ' w') → CW r md E.P N c Q [] σ w := by
  intro c
  induction c with
  | skip => intro pos sp st rest σ w ρ K Q r md h0 hs hj h hk; exact CW.skip (hk _ _ _ _ _ _ _ h (RM.le.refl _) hs hj)
  | ret => intro pos sp st rest σ w ρ K Q r md h0 hs hj h hk; exact CW.ret (hk _ _ _ _ _ _ _ h (RM.le.refl _) hs hj)
  | exit id => intro pos sp st rest σ w ρ K Q r md h0 hs hj h hk; exact CW.exit (hk _ _ _ _ _ _ _ h (RM.le.refl _) hs hj)
  | region id ops draw =>
    intro pos sp st rest σ w ρ K Q r md h0 hs hj h hk
    cases draw with
    | false =>
      obtain ⟨l⟩ := ops
      exact CW.region (runY_ok hE hG hJ hJx hY h0 hs hj h fun sp' st' rest' σ' w' h1 h2 h3 => hk _ _ _ _ _ _ _ h1 (RM.le.refl _) h2 h3)
    | true => exact h.elim
  | cond c a b iha ihb =>
    intro pos sp st rest σ w ρ K Q r md h0 hs hj h hk
    unfold runI at h
    cases hc : (evO st.sl c).map (res st.kn) with
    | none => simp only [hc] at h
    | some s =>
      obtain ⟨v0, hv0, hv1⟩ := Option.map_eq_some_iff.1 hc
      have hv2 := hs.sat.res (evO_ok hs.sl hv0)
      rw [hv1] at hv2
      simp only [hc] at h
      have ask : askF s (runI E N fr ts a (2 :: pos) sp (st.know c true) rest K) (runI E N fr ts b (3 :: pos) sp (st.know c false) rest K) → CW r md E.P N (.cond c a b) Q [] σ w := fun h => by
        rcases askF_ok hv2 h with ⟨e, h⟩ | ⟨e, h⟩
        · exact CW.cond_true e (iha h0 (hs.know e) hj h hk)
        · exact CW.cond_false e (ihb h0 (hs.know e) hj h hk)
      cases s with
      | k x =>
        cases x with
        | true => exact CW.cond_true hv2 (iha h0 hs hj h hk)
        | false => exact CW.cond_false hv2 (ihb h0 hs hj h hk)
      | _ => exact ask h
  | block id c ih =>
    intro pos sp st rest σ w ρ K Q r md h0 hs hj h hk
    refine CW.block (ih h0 hs hj h fun e => ?_)
    intro sp' st' rest' σ' w' ρ' h1 h2 h3 h4
    cases e with
    | exit id' =>
      show bif Nat.beq id' id then Q .normal [] σ' w' else Q (.exit id') [] σ' w'
      have h1 : cdP (Nat.beq id' id) (K .normal sp' st' rest') (K (.exit id') sp' st' rest') := h1
      cases hb : Nat.beq id' id with
      | true => rw [hb] at h1; exact hk _ _ _ _ _ _ _ h1 h2 h3 h4
      | false => rw [hb] at h1; exact hk _ _ _ _ _ _ _ h1 h2 h3 h4
    | _ => exact hk _ _ _ _ _ _ _ h1 h2 h3 h4
  | seq a b iha ihb =>
    intro pos sp st rest σ w ρ K Q r md h0 hs hj h hk
    unfold runI at h
    refine CW.seq (iha h0 hs hj h fun e => ?_)
    intro sp' st' rest' σ' w' ρ' h1 h2 h3 h4
    cases e with
    | normal => exact ihb (h2 _ _ h0) h3 h4 h1 fun e => (hk e).mono h2
    | _ => exact hk _ _ _ _ _ _ _ h1 h2 h3 h4
  | loop c ih =>
    intro pos sp st rest σ w ρ K Q r md h0 hs hj h hk
    unfold runI at h
    split at h
    · rename_i pe hpe
      obtain ⟨ρ1, g1, g2⟩ := hs.sat.tag
      split at h
      · rename_i s0 hs0
        obtain ⟨m, hm⟩ := h
        generalize hstep : (fun (q : List (TupD D ts) × TupV D pe.tp.vts) (rec : List (TupD D ts) × TupV D pe.tp.vts → Prop) => _) = step at hm
        obtain ⟨ρ2, L2, st2, e1, e2, e3⟩ := fillE_ok (kn := st.tag.kn) g2.nx (Hp.le.refl _) (RM.le.refl _) g2.kn g2.fr g2 hs0
        refine CW.loop (β := Nat) (fun n σ w => ∃ rest s ρ' st' L', (∀ b o, H b = some o → w.heap[b]? = some o) ∧ RM.le ρ1 ρ' ∧ makeE pe.tp st.tag.nx st.tag.kn s = some st' ∧ SlR H ρ' st'.sl σ ∧ BkR H ρ' st'.bk L' ∧ KnR H ρ' st'.kn ∧ (∀ id, st'.nx ≤ id → ρ' id = none) ∧ JS J Jx all false rest w ∧ LoopN step n (rest, s)) (fun n => n) m ⟨rest, s0, ρ2, st2, L2, hs.ag, e2, e1, e3.sl, e3.bk, e3.kn, e3.nx, hj, hm⟩ ?_
        rintro n σ w ⟨rest, s, ρ', st', L', f0, f1, f2, f3, f4, f5, f6, f7, f8⟩
        cases n with
        | zero => exact f8.elim
        | succ n =>
          have f8 : step (rest, s) (LoopN step n) := f8
          rw [← hstep] at f8
          simp only [f2] at f8
          split at f8
          · rename_i hbk
            refine ih (f1 _ _ (g1 _ _ h0)) ⟨f0, f3, g2.fr.mono (Hp.le.refl _) f1, f5, f6, hbk⟩ f7 f8 fun e => ?_
            intro sp3 st3 rest3 σ3 w3 ρ3 h1 h2 h3 h4
            cases e with
            | normal =>
              show [] = [] ∧ _
              refine ⟨rfl, ?_⟩
              simp only at h1
              cases sp3 with
              | true => exact h1.elim
              | false =>
                simp only at h1
                split at h1
                · rename_i s' hfill
                  obtain ⟨ρ4, L4, st4, i1, i2, i3⟩ := fillE_ok (kn := st.tag.kn) g2.nx (Hp.le.refl _) (f1.trans h2) g2.kn g2.fr h3.sat hfill
                  exact ⟨n, ⟨rest3, s', ρ4, st4, L4, h3.ag, i2, i1, i3.sl, i3.bk, i3.kn, i3.nx, h4, by rw [hstep] at h1; exact h1⟩, Nat.lt_succ_self _⟩
                · exact h1.elim
            | _ => exact hk _ _ _ _ _ _ _ h1 ((g1.trans f1).trans h2) h3 h4
          · exact f8.elim
      · exact h.elim
    · exact h.elim
  | rangeFunc f ps a b _ _ => intro pos sp st rest σ w ρ K Q r md h0 hs hj h hk; exact h.elim
  | scope c _ => intro pos sp st rest σ w ρ K Q r md h0 hs hj h hk; exact h.elim
  | label l => intro pos sp st rest σ w ρ K Q r md h0 hs hj h hk; exact h.elim
  | goto l => intro pos sp st rest σ w ρ K Q r md h0 hs hj h hk; exact h.elim
  | refuse s => intro pos sp st rest σ w ρ K Q r md h0 hs hj h hk; exact h.elim
def ptrsE : Nat → List Nat → List (SV D)
  | _, [] => []
  | n, _ :: r => .ptr n 0 :: ptrsE (n + 1) r
def frE : Nat → List Nat → List (List (SV D)) → List (Nat × Blk D)
  | n, t :: r, c :: m => (n, .fbx t c) :: frE (n + 1) r m
  | _, _, _ => []
theorem caps_open {P : Program} {tb : Tb D} (htb : TbOk tb) : ∀ {cs : List Nat} {x : TupD D cs} {lb : List Value} {ls : List (List (SV D))} {n : Nat} {ρ0 : RM}, CapsR H cs x lb → tupC tb cs x = some ls → (∀ id, n ≤ id → ρ0 id = none) → ∃ ρ, RM.le ρ0 ρ ∧ (∀ id, n + cs.length ≤ id → ρ id = none) ∧ RvL H ρ lb (ptrsE (D := D) n cs) ∧ BkR H ρ (frE n cs ls) []
  | [], _, lb, ls, n, ρ0, h, hl, hn => by
    cases hl
    exact ⟨ρ0, RM.le.refl _, hn, h, rfl⟩
  | t :: r, x, lb, ls, n, ρ0, ⟨b, us, q, e, h1, h2, h3⟩, hl, hn => by
    rw [tupC] at hl
    cases ha : toC tb t x.1 with
    | none => simp only [ha] at hl; cases hl
    | some a =>
      cases hb : tupC tb r x.2 with
      | none => simp only [ha, hb] at hl; cases hl
      | some m =>
        simp only [ha, hb] at hl
        cases hl
        obtain ⟨f1, f2⟩ := fresh_put hn (.b b)
        obtain ⟨ρ, g1, g2, g3, g4⟩ := caps_open (P := P) htb h3 hb f2
        have hp : ρ n = some (.b b) := g1 _ _ (RM.put_same _ _ _)
        refine ⟨ρ, f1.trans g1, fun id hid => g2 id (by rw [List.length_cons] at hid; omega), ⟨_, q, e, ⟨b, hp, rfl⟩, g3⟩, [], [], rfl, ⟨rfl, b, us, hp, h1, toC_ok htb ha h2⟩, g4⟩
def iterF (E : Env D) (f : Nat) (cs ts : List Nat) (x : TupD D cs) (l : List (TupD D ts)) : Prop := match tupC E.tb cs x with
  | some ls => match E.P.funcs[f]? with
    | some fn => match fn.body with
      | some c => match fn.results.toList with
        | [] => cdP (Nat.ble (cs.length + 1) fn.ntmps) (runI E fn.ntmps (frE 1 cs ls) ts c [] false ⟨slotsOf 0 (.kp 0 :: ptrsE 1 cs), [], [], 1 + cs.length⟩ l fun e sp _ rest => cdP (isEnd e) (match sp with
          | true => True
          | false => rest = []) False) False
        | _ :: _ => False
      | none => False
    | none => False
  | none => False
theorem It.lift (hE : E.Ok) (it : It D) (h : ∀ x l, it.W x l → iterF E it.f it.cs it.ts x l) : it.Ok E.P E.G := by
  intro x l hW H lb hG hC lp J Jx W hag hJ hJx hY hJ0
  have hF := h x l hW
  unfold iterF at hF
  split at hF
  · rename_i ls hls
    split at hF
    · rename_i fn hfn
      split at hF
      · rename_i c hc
        split at hF
        · rename_i hres
          obtain ⟨hN, hF⟩ := cifP hF
          obtain ⟨f1, f2⟩ := fresh_put (ρ := fun _ => none) (nx := 0) (fun _ _ => rfl) (.v (.func (.yield lp) #[] #[]))
          obtain ⟨ρ, g1, g2, g3, g4⟩ := caps_open (P := E.P) hE.tb hC hls f2
          have h0 : ρ 0 = some (.v (.func (.yield lp) #[] #[])) := g1 _ _ (RM.put_same _ _ _)
          have hv : RvL H ρ (Value.func (.yield lp) #[] #[] :: lb) (.kp 0 :: ptrsE 1 it.cs) := ⟨_, lb, rfl, h0, g3⟩
          refine calls_of_code hfn hc (by
            have hlen := RvL.length g3
            have hp : ∀ (n : Nat) (cs : List Nat), (ptrsE (D := D) n cs).length = cs.length := fun n cs => by
              induction cs generalizing n with
              | nil => rfl
              | cons _ _ ih => simp [ptrsE, ih]
            have := Nat.le_of_ble_eq_true hN
            simp [hlen, hp]; exact this) ?_
          refine runI_ok (all := l) (J := J) (Jx := Jx) (sp := false) (rest := l) (H := H) (ρ := ρ) hE hG hJ hJx (fun k A0 vs hk hvs hJk hA => hY k A0 vs hk hvs hJk hA) c h0 ⟨hag, slotsOf_ok hv, g4, (fun _ _ h => by cases h), fun id hid => g2 id hid, rfl⟩ ⟨0, Nat.zero_le _, hJ0, rfl⟩ hF fun e => ?_
          intro sp' st' rest' σ' w' ρ' h1 h2 h3 h4
          obtain ⟨he, h1⟩ := cifP h1
          obtain ⟨ux, e1, e2⟩ := results_ok (vs := []) hE.tb h3.sat (by rw [hres]; rfl)
          refine ⟨isEnd_ok he, rfl, tupVal ux, e2, ?_⟩
          cases sp' with
          | true =>
            obtain ⟨k, hk, hx⟩ := h4
            exact .inr ⟨k, hk, hx⟩
          | false =>
            obtain ⟨k, hkn, hk, hr⟩ := h4
            have h1 : rest' = [] := h1
            rw [h1] at hr
            have hkl : l.length ≤ k := List.drop_eq_nil_iff.1 hr.symm
            rw [show k = l.length by omega] at hk
            exact .inl hk
        · exact hF.elim
      · exact hF.elim
    · exact hF.elim
  · exact hF.elim
end
end
section
section
variable {α : Type} [Inhabited α]
theorem putRow_at (enc : α → Value) {w : World} {g : Nat} (off : Nat) (d : Array α) {cur : Array Value} {e : TypeId} {fr : Nat × Nat} (h : w.heap[g]? = some (.cells cur e fr)) : (Sort.putRow enc w g off d).heap[g]? = some (.cells (Sort.putCells enc off d cur) e fr) := by
  simp [Sort.putRow, Sort.mapBlock, Array.getElem?_modify, h, Sort.onCells]
theorem sorted_at (enc : α → Value) {w : World} {g : Nat} (off m : Nat) (d : Array α) (os : Array Obj) {cur : Array Value} {e : TypeId} {fr : Nat × Nat} (h : w.heap[g]? = some (.cells cur e fr)) : (Sort.grow (Sort.putRow enc (Sort.ahead w m) g off d) os).heap[g]? = some (.cells (Sort.putCells enc off d cur) e fr) := by
  have h1 := putRow_at enc (w := Sort.ahead w m) off d h
  rw [Sort.heap_grow_old _ _ (lt_of_heap h1)]; exact h1
theorem sorted_old (enc : α → Value) {w : World} {g k : Nat} (off m : Nat) (d : Array α) (os : Array Obj) (hk : k < w.heap.size) (hne : k ≠ g) : (Sort.grow (Sort.putRow enc (Sort.ahead w m) g off d) os).heap[k]? = w.heap[k]? := by
  have hs : k < (Sort.putRow enc (Sort.ahead w m) g off d).heap.size := by simpa [Sort.putRow, Sort.mapBlock, Sort.ahead] using hk
  rw [Sort.heap_grow_old _ _ hs]
  simp [Sort.putRow, Sort.mapBlock, Array.getElem?_modify, Sort.ahead, hne.symm]
theorem sorted_grown (enc : α → Value) {w : World} {g : Nat} (off m : Nat) (d : Array α) (os : Array Obj) : w.grownBy (Sort.grow (Sort.putRow enc (Sort.ahead w m) g off d) os) (some g) :=
  ⟨rfl, rfl, rfl, by simp [Sort.grow, Sort.putRow, Sort.mapBlock, Sort.ahead], fun k hk hne => sorted_old enc off m d os hk (fun e => hne (by rw [e]))⟩
theorem putCells_take (enc : α → Value) (d : Array α) (cur : Array Value) (h : d.size ≤ cur.size) : (Sort.putCells enc 0 d cur).toList.take d.size = d.toList.map enc := by
  apply List.ext_getElem?
  intro i
  by_cases hi : i < d.size
  · rw [List.getElem?_take_of_lt hi]
    have hc : i < cur.size := by omega
    simp [Sort.putCells, hi, hc]
  · rw [List.getElem?_eq_none, List.getElem?_eq_none]
    · simpa using hi
    · simp; omega
theorem sorted_owns (enc : α → Value) {w : World} {base : Nat} {e : TypeId} {k g n cap : Nat} {s : List Value} (m : Nat) (d : Array α) (os : Array Obj) (ho : w.ownsRow base e k (.slice (some ⟨g, 0, none⟩) n cap) n s) (hd : d.size = n * k) :
    (Sort.grow (Sort.putRow enc (Sort.ahead w m) g 0 d) os).ownsRow base e k (.slice (some ⟨g, 0, none⟩) n cap) n (d.toList.map enc) := by
  obtain ⟨h1, ⟨h2, _⟩ | ⟨g', cap', cur, h2, h3, h4, h5, h6, h7, h8⟩⟩ := ho
  · cases h2
  · cases h2
    refine ⟨by simp [hd], .inr ⟨g, cap, Sort.putCells enc 0 d cur, rfl, h3, sorted_at enc 0 m d os h4, h5, h6, by simp [Sort.putCells, h7], ?_⟩⟩
    rw [← hd]
    exact putCells_take enc d cur (by rw [hd, h7]; exact Nat.mul_le_mul_right _ h5)
theorem owns_holds {enc : α → Value} {w : World} {base : Nat} {e : TypeId} {k g n cap : Nat} {s : List Value} {d : Array α} (ho : w.ownsRow base e k (.slice (some ⟨g, 0, none⟩) n cap) n s) (hs : s = d.toList.map enc) : Sort.Holds enc w g 0 d ∧ g < w.heap.size := by
  obtain ⟨h1, ⟨h2, _⟩ | ⟨g', cap', cur, h2, h3, h4, h5, h6, h7, h8⟩⟩ := ho
  · cases h2
  · cases h2
    refine ⟨fun j hj => ?_, lt_of_heap h4⟩
    have hn : d.size = n * k := by rw [← h1, hs]; simp
    have hc : cur[j]? = some (enc d[j]!) := by
      have h9 : (cur.toList.take (n * k))[j]? = some (enc d[j]!) := by
        rw [h8, hs, List.getElem?_map]
        simp [hj]
      rw [List.getElem?_take_of_lt (by omega)] at h9
      simpa using h9
    refine ⟨?_, ?_⟩
    · simp [World.cell?, h4, hc]
    · simp only [World.frozen?, h4]; simp
end
def insI (x : Int) : List Int → List Int
  | [] => [x]
  | y :: r => if x ≤ y then x :: y :: r else y :: insI x r
def sortI : List Int → List Int
  | [] => []
  | x :: r => insI x (sortI r)
theorem insI_perm (x : Int) : ∀ l : List Int, (insI x l).Perm (x :: l)
  | [] => List.Perm.refl _
  | y :: r => by
    unfold insI
    split
    · exact List.Perm.refl _
    · exact ((insI_perm x r).cons y).trans (List.Perm.swap x y r)
theorem sortI_perm : ∀ l : List Int, (sortI l).Perm l
  | [] => List.Perm.refl _
  | x :: r => (insI_perm x (sortI r)).trans ((sortI_perm r).cons x)
theorem insI_sorted (x : Int) : ∀ l : List Int, l.Pairwise (· ≤ ·) → (insI x l).Pairwise (· ≤ ·)
  | [], _ => by simp [insI]
  | y :: r, h => by
    have h1 := List.pairwise_cons.1 h
    unfold insI
    split
    · rename_i hxy
      refine List.pairwise_cons.2 ⟨fun z hz => ?_, h⟩
      rcases List.mem_cons.1 hz with rfl | hz
      · exact hxy
      · have := h1.1 z hz; omega
    · rename_i hxy
      refine List.pairwise_cons.2 ⟨fun z hz => ?_, insI_sorted x r h1.2⟩
      rcases List.mem_cons.1 ((insI_perm x r).mem_iff.1 hz) with rfl | hz
      · omega
      · exact h1.1 z hz
theorem sortI_sorted : ∀ l : List Int, (sortI l).Pairwise (· ≤ ·)
  | [] => List.Pairwise.nil
  | x :: r => insI_sorted x _ (sortI_sorted r)
theorem sortI_merge (l : List Int) : (l.mergeSort fun x y => decide (x ≤ y)) = sortI l := by
  refine List.Perm.eq_of_pairwise (le := fun x y : Int => x ≤ y) (fun a b _ _ h1 h2 => by omega) ?_ (sortI_sorted l) ((List.mergeSort_perm l _).trans (sortI_perm l).symm)
  have := List.pairwise_mergeSort (le := fun x y : Int => decide (x ≤ y)) (fun a b c h1 h2 => by simp at *; omega) (fun a b => by simp; omega) l
  simpa using this
theorem DtL.ints {H : Hp} : ∀ {xs : List Int} {cs : List Value}, DtL H cs xs → cs = xs.map (Value.int .i64)
  | [], _, h => h
  | _ :: _, _, ⟨_, _, h, h1, h2⟩ => by rw [h, show _ = [Value.int .i64 _] from h1, DtL.ints h2]; rfl
theorem DtL.ofInts {H : Hp} : ∀ (xs : List Int), DtL H (xs.map (Value.int .i64)) xs
  | [] => rfl
  | x :: xs => ⟨[.int .i64 x], xs.map _, rfl, rfl, DtL.ofInts xs⟩
def cmpL : List Int → List Int → Int
  | [], [] => 0
  | [], _ :: _ => -1
  | _ :: _, [] => 1
  | x :: a, y :: b => if x < y then -1 else if y < x then 1 else cmpL a b
def ltL (a b : List Int) : Bool := decide (cmpL a b < 0)
theorem cmpL_self : ∀ a : List Int, cmpL a a = 0
  | [] => rfl
  | x :: a => by unfold cmpL; rw [if_neg (by omega), if_neg (by omega)]; exact cmpL_self a
theorem cmpL_swap : ∀ a b : List Int, cmpL a b = -cmpL b a
  | [], [] => rfl
  | [], _ :: _ => rfl
  | _ :: _, [] => rfl
  | x :: a, y :: b => by
    unfold cmpL
    by_cases h1 : x < y
    · rw [if_pos h1, if_neg (by omega), if_pos h1]
    · by_cases h2 : y < x
      · rw [if_neg h1, if_pos h2, if_pos h2]; rfl
      · rw [if_neg h1, if_neg h2, if_neg h2, if_neg h1]; exact cmpL_swap a b
theorem cmpL_eq : ∀ a b : List Int, cmpL a b = 0 → a = b
  | [], [], _ => rfl
  | [], _ :: _, h => by cases h
  | _ :: _, [], h => by cases h
  | x :: a, y :: b, h => by
    unfold cmpL at h
    by_cases h1 : x < y
    · rw [if_pos h1] at h; cases h
    · by_cases h2 : y < x
      · rw [if_neg h1, if_pos h2] at h; cases h
      · rw [if_neg h1, if_neg h2] at h
        obtain rfl := cmpL_eq a b h
        obtain rfl : x = y := by omega
        rfl
theorem cmpL_trans : ∀ a b c : List Int, cmpL a b ≤ 0 → cmpL b c ≤ 0 → cmpL a c ≤ 0
  | [], _, [], _, _ => by simp [cmpL]
  | [], _, _ :: _, _, _ => by simp [cmpL]
  | _ :: _, [], _, h, _ => by simp [cmpL] at h
  | _ :: _, _ :: _, [], _, h => by simp [cmpL] at h
  | x :: a, y :: b, z :: c, h, k => by
    unfold cmpL at h k ⊢
    by_cases h1 : x < y
    · by_cases k1 : y < z
      · rw [if_pos (by omega)]; omega
      · rw [if_neg k1] at k
        by_cases k2 : z < y
        · rw [if_pos k2] at k; omega
        · rw [if_pos (by omega)]; omega
    · rw [if_neg h1] at h
      by_cases h2 : y < x
      · rw [if_pos h2] at h; omega
      · rw [if_neg h2] at h
        by_cases k1 : y < z
        · rw [if_pos (by omega)]; omega
        · rw [if_neg k1] at k
          by_cases k2 : z < y
          · rw [if_pos k2] at k; omega
          · rw [if_neg k2] at k
            rw [if_neg (by omega), if_neg (by omega)]
            exact cmpL_trans a b c h k
def leL (a b : List Int) : Prop := cmpL a b ≤ 0
instance (a b : List Int) : Decidable (leL a b) := inferInstanceAs (Decidable (cmpL a b ≤ 0))
theorem leL_total (a b : List Int) : leL a b ∨ leL b a := by
  have := cmpL_swap a b
  unfold leL; omega
theorem leL_anti {a b : List Int} (h : leL a b) (k : leL b a) : a = b := cmpL_eq a b (by have := cmpL_swap a b; unfold leL at h k; omega)
theorem leL_trans {a b c : List Int} (h : leL a b) (k : leL b c) : leL a c := cmpL_trans a b c h k
theorem ltL_false {a b : List Int} : ltL a b = false ↔ leL b a := by
  have := cmpL_swap a b
  unfold ltL leL
  simp; omega
def insL (x : List Int) : List (List Int) → List (List Int)
  | [] => [x]
  | y :: r => if cmpL x y ≤ 0 then x :: y :: r else y :: insL x r
def sortL : List (List Int) → List (List Int)
  | [] => []
  | x :: r => insL x (sortL r)
theorem insL_perm (x : List Int) : ∀ l : List (List Int), (insL x l).Perm (x :: l)
  | [] => List.Perm.refl _
  | y :: r => by
    unfold insL
    split
    · exact List.Perm.refl _
    · exact ((insL_perm x r).cons y).trans (List.Perm.swap x y r)
theorem sortL_perm : ∀ l : List (List Int), (sortL l).Perm l
  | [] => List.Perm.refl _
  | x :: r => (insL_perm x (sortL r)).trans ((sortL_perm r).cons x)
theorem insL_sorted (x : List Int) : ∀ l : List (List Int), l.Pairwise leL → (insL x l).Pairwise leL
  | [], _ => by simp [insL]
  | y :: r, h => by
    have h1 := List.pairwise_cons.1 h
    unfold insL
    split
    · rename_i hxy
      refine List.pairwise_cons.2 ⟨fun z hz => ?_, h⟩
      rcases List.mem_cons.1 hz with rfl | hz
      · exact hxy
      · exact leL_trans hxy (h1.1 z hz)
    · rename_i hxy
      refine List.pairwise_cons.2 ⟨fun z hz => ?_, insL_sorted x r h1.2⟩
      rcases List.mem_cons.1 ((insL_perm x r).mem_iff.1 hz) with rfl | hz
      · exact (leL_total z y).resolve_left hxy
      · exact h1.1 z hz
theorem sortL_sorted : ∀ l : List (List Int), (sortL l).Pairwise leL
  | [] => List.Pairwise.nil
  | x :: r => insL_sorted x _ (sortL_sorted r)
theorem sortL_of {l m : List (List Int)} (hp : m.Perm l) (hs : m.Pairwise leL) : m = sortL l :=
  List.Perm.eq_of_pairwise (le := leL) (fun _ _ _ _ h1 h2 => leL_anti h1 h2) hs (sortL_sorted l) (hp.trans (sortL_perm l).symm)
def ElL (H : Hp) : Type := { p : Value × List Int // Dt.rd (α := List Int) H [p.1] p.2 }
theorem DtL.els {H : Hp} : ∀ {xs : List (List Int)} {cs : List Value}, DtL H cs xs → ∃ l : List (ElL H), cs = l.map (fun p => p.1.1) ∧ xs = l.map (fun p => p.1.2)
  | [], _, h => ⟨[], h, rfl⟩
  | x :: xs, _, ⟨c1, c2, h, h1, h2⟩ => by
    obtain ⟨l, e1, e2⟩ := DtL.els h2
    obtain ⟨A, n, c, cells, rfl, h3⟩ := h1
    exact ⟨⟨(.slice A n c, x), ⟨A, n, c, cells, rfl, h3⟩⟩ :: l, by rw [h, e1]; rfl, by rw [e2]; rfl⟩
theorem DtL.ofEls {H : Hp} : ∀ (l : List (ElL H)), DtL (α := List Int) H (l.map fun p => p.1.1) (l.map fun p => p.1.2)
  | [] => rfl
  | p :: l => ⟨[p.1.1], l.map fun p => p.1.1, rfl, p.2, DtL.ofEls l⟩
theorem ElL.one {H : Hp} (p : ElL H) : p.1.1.oneCell' = true := by
  obtain ⟨⟨v, xs⟩, A, n, c, cells, h, h1⟩ := p
  obtain rfl := (List.cons.inj h).1
  rfl
theorem swoL (H : Hp) : Sort.SWO (ltOf fun p q : ElL H => cmpL p.1.2 q.1.2) where
  irrefl p := by simp [ltOf, cmpL_self]
  trans p q r h1 h2 := by
    simp only [ltOf, decide_eq_true_eq] at *
    have h3 := cmpL_trans p.1.2 q.1.2 r.1.2 (by omega) (by omega)
    have h4 := cmpL_swap p.1.2 r.1.2
    by_cases h5 : cmpL p.1.2 r.1.2 = 0
    · have h6 := cmpL_eq _ _ h5
      rw [h6] at h1
      have := cmpL_swap r.1.2 q.1.2
      omega
    · omega
  ntrans p q r h1 h2 := by
    have h1 : ltL p.1.2 q.1.2 = false := h1
    have h2 : ltL q.1.2 r.1.2 = false := h2
    show ltL p.1.2 r.1.2 = false
    rw [ltL_false] at *
    exact leL_trans h2 h1
end
structure api_Write where
  Volume : Int
  Start : Int
  Data : List Sec
  deriving DecidableEq
instance dt_api_Write : Dt api_Write where
  default := ⟨0, 0, []⟩
  sz := 3
  rd H cs x := ∃ A0 n0 c0 s0, cs = [.int .i64 (x.Volume), .int .i64 (x.Start), .slice A0 n0 c0] ∧ Fz H A0 n0 c0 x.Data s0
  len := fun ⟨A0, n0, c0, s0, h, h0⟩ => by rw [h]; rfl
  mono := fun ⟨A0, n0, c0, s0, h, h0⟩ hle => ⟨A0, n0, c0, s0, h, h0.mono hle⟩
  one := fun ⟨A0, n0, c0, s0, h, h0⟩ => by rw [h]; exact oneAll ⟨rfl, rfl, rfl, trivial⟩
structure api_HistoryEvent where
  Kind : Int
  Write : Int
  deriving DecidableEq
instance dt_api_HistoryEvent : Dt api_HistoryEvent where
  default := ⟨0, 0⟩
  sz := 2
  rd H cs x := cs = [.int .i64 (x.Kind), .int .i64 (x.Write)]
  len h := by rw [h]; rfl
  mono h _ := h
  one h := by rw [h]; exact oneAll ⟨rfl, rfl, trivial⟩
structure api_History where
  Sizes : List Int
  Writes : List api_Write
  Events : List api_HistoryEvent
  deriving DecidableEq
instance dt_api_History : Dt api_History where
  default := ⟨[], [], []⟩
  sz := 3
  rd H cs x := ∃ A0 n0 c0 s0, ∃ A1 n1 c1 s1, ∃ A2 n2 c2 s2, cs = [.slice A0 n0 c0, .slice A1 n1 c1, .slice A2 n2 c2] ∧ Fz H A0 n0 c0 x.Sizes s0 ∧ Fz H A1 n1 c1 x.Writes s1 ∧ Fz H A2 n2 c2 x.Events s2
  len := fun ⟨A0, n0, c0, s0, A1, n1, c1, s1, A2, n2, c2, s2, h, h0, h1, h2⟩ => by rw [h]; rfl
  mono := fun ⟨A0, n0, c0, s0, A1, n1, c1, s1, A2, n2, c2, s2, h, h0, h1, h2⟩ hle => ⟨A0, n0, c0, s0, A1, n1, c1, s1, A2, n2, c2, s2, h, h0.mono hle, h1.mono hle, h2.mono hle⟩
  one := fun ⟨A0, n0, c0, s0, A1, n1, c1, s1, A2, n2, c2, s2, h, h0, h1, h2⟩ => by rw [h]; exact oneAll ⟨rfl, rfl, rfl, trivial⟩
structure history_timeline where
  issued : List Int
  acked : List Int
  deriving DecidableEq
instance dt_history_timeline : Dt history_timeline where
  default := ⟨[], []⟩
  sz := 2
  rd H cs x := ∃ A0 n0 c0 s0, ∃ A1 n1 c1 s1, cs = [.slice A0 n0 c0, .slice A1 n1 c1] ∧ Fz H A0 n0 c0 x.issued s0 ∧ Fz H A1 n1 c1 x.acked s1
  len := fun ⟨A0, n0, c0, s0, A1, n1, c1, s1, h, h0, h1⟩ => by rw [h]; rfl
  mono := fun ⟨A0, n0, c0, s0, A1, n1, c1, s1, h, h0, h1⟩ hle => ⟨A0, n0, c0, s0, A1, n1, c1, s1, h, h0.mono hle, h1.mono hle⟩
  one := fun ⟨A0, n0, c0, s0, A1, n1, c1, s1, h, h0, h1⟩ => by rw [h]; exact oneAll ⟨rfl, rfl, trivial⟩
structure history_checked where
  History : api_History
  timeline : history_timeline
  deriving DecidableEq
instance dt_history_checked : Dt history_checked where
  default := ⟨default, default⟩
  sz := 5
  rd H cs x := ∃ A0 n0 c0 s0, ∃ A1 n1 c1 s1, ∃ A2 n2 c2 s2, ∃ A3 n3 c3 s3, ∃ A4 n4 c4 s4, cs = [.slice A0 n0 c0, .slice A1 n1 c1, .slice A2 n2 c2, .slice A3 n3 c3, .slice A4 n4 c4] ∧ Fz H A0 n0 c0 x.History.Sizes s0 ∧ Fz H A1 n1 c1 x.History.Writes s1 ∧ Fz H A2 n2 c2 x.History.Events s2 ∧ Fz H A3 n3 c3 x.timeline.issued s3 ∧ Fz H A4 n4 c4 x.timeline.acked s4
  len := fun ⟨A0, n0, c0, s0, A1, n1, c1, s1, A2, n2, c2, s2, A3, n3, c3, s3, A4, n4, c4, s4, h, h0, h1, h2, h3, h4⟩ => by rw [h]; rfl
  mono := fun ⟨A0, n0, c0, s0, A1, n1, c1, s1, A2, n2, c2, s2, A3, n3, c3, s3, A4, n4, c4, s4, h, h0, h1, h2, h3, h4⟩ hle => ⟨A0, n0, c0, s0, A1, n1, c1, s1, A2, n2, c2, s2, A3, n3, c3, s3, A4, n4, c4, s4, h, h0.mono hle, h1.mono hle, h2.mono hle, h3.mono hle, h4.mono hle⟩
  one := fun ⟨A0, n0, c0, s0, A1, n1, c1, s1, A2, n2, c2, s2, A3, n3, c3, s3, A4, n4, c4, s4, h, h0, h1, h2, h3, h4⟩ => by rw [h]; exact oneAll ⟨rfl, rfl, rfl, rfl, rfl, trivial⟩
structure cut_relation where
  n : Int
  never : Int
  issued : List Int
  acked : List Int
  deriving DecidableEq
instance dt_cut_relation : Dt cut_relation where
  default := ⟨0, 0, [], []⟩
  sz := 4
  rd H cs x := ∃ A0 n0 c0 s0, ∃ A1 n1 c1 s1, cs = [.int .i64 (x.n), .int .i64 (x.never), .slice A0 n0 c0, .slice A1 n1 c1] ∧ Fz H A0 n0 c0 x.issued s0 ∧ Fz H A1 n1 c1 x.acked s1
  len := fun ⟨A0, n0, c0, s0, A1, n1, c1, s1, h, h0, h1⟩ => by rw [h]; rfl
  mono := fun ⟨A0, n0, c0, s0, A1, n1, c1, s1, h, h0, h1⟩ hle => ⟨A0, n0, c0, s0, A1, n1, c1, s1, h, h0.mono hle, h1.mono hle⟩
  one := fun ⟨A0, n0, c0, s0, A1, n1, c1, s1, h, h0, h1⟩ => by rw [h]; exact oneAll ⟨rfl, rfl, rfl, rfl, trivial⟩
structure standbylaw16_Sets where
  A : List Int
  B : List Int
  deriving DecidableEq
instance dt_standbylaw16_Sets : Dt standbylaw16_Sets where
  default := ⟨[], []⟩
  sz := 2
  rd H cs x := ∃ A0 n0 c0 s0, ∃ A1 n1 c1 s1, cs = [.slice A0 n0 c0, .slice A1 n1 c1] ∧ Fz H A0 n0 c0 x.A s0 ∧ Fz H A1 n1 c1 x.B s1
  len := fun ⟨A0, n0, c0, s0, A1, n1, c1, s1, h, h0, h1⟩ => by rw [h]; rfl
  mono := fun ⟨A0, n0, c0, s0, A1, n1, c1, s1, h, h0, h1⟩ hle => ⟨A0, n0, c0, s0, A1, n1, c1, s1, h, h0.mono hle, h1.mono hle⟩
  one := fun ⟨A0, n0, c0, s0, A1, n1, c1, s1, h, h0, h1⟩ => by rw [h]; exact oneAll ⟨rfl, rfl, trivial⟩
instance dtUnit : Dt Unit where
  default := ()
  sz := 0
  rd _ cs _ := cs = []
  len h := by rw [h]; rfl
  mono h _ := h
  one h := by rw [h]; intro u hu; cases hu
structure TyR where
  α : Type
  inst : Dt α
def tyOf (t : Nat) : TyR := bif Nat.beq t 4 then ⟨Bool, inferInstance⟩ else bif Nat.beq t 3 then ⟨Int, inferInstance⟩ else bif Nat.beq t 123 then ⟨Sec, inferInstance⟩ else bif Nat.beq t 119 then ⟨api_Write, inferInstance⟩ else bif Nat.beq t 58 then ⟨api_HistoryEvent, inferInstance⟩ else bif Nat.beq t 26 then ⟨api_History, inferInstance⟩ else bif Nat.beq t 22 then ⟨List Int, inferInstance⟩ else bif Nat.beq t 29 then ⟨List (List Int), inferInstance⟩ else bif Nat.beq t 30 then ⟨Int, inferInstance⟩ else bif Nat.beq t 109 then ⟨history_checked, inferInstance⟩ else bif Nat.beq t 117 then ⟨List Sec, inferInstance⟩ else bif Nat.beq t 71 then ⟨List (List Sec), inferInstance⟩ else bif Nat.beq t 70 then ⟨List (List Sec), inferInstance⟩ else bif Nat.beq t 203 then ⟨Ptr history_checked, inferInstance⟩ else bif Nat.beq t 185 then ⟨BitVec 64, inferInstance⟩ else bif Nat.beq t 210 then ⟨BitVec 64, inferInstance⟩ else bif Nat.beq t 100 then ⟨cut_relation, inferInstance⟩ else bif Nat.beq t 80 then ⟨Ptr cut_relation, inferInstance⟩ else bif Nat.beq t 9 then ⟨ByteArray, inferInstance⟩ else bif Nat.beq t 94 then ⟨List Bool, inferInstance⟩ else bif Nat.beq t 91 then ⟨List (List Bool), inferInstance⟩ else bif Nat.beq t 24 then ⟨List api_HistoryEvent, inferInstance⟩ else bif Nat.beq t 89 then ⟨List Bool, inferInstance⟩ else bif Nat.beq t 86 then ⟨List (List Bool), inferInstance⟩ else bif Nat.beq t 46 then ⟨standbylaw16_Sets, inferInstance⟩ else bif Nat.beq t 5 then ⟨BitVec 8, inferInstance⟩ else bif Nat.beq t 107 then ⟨history_timeline, inferInstance⟩ else bif Nat.beq t 23 then ⟨List api_Write, inferInstance⟩ else ⟨Unit, dtUnit⟩
abbrev DD (t : Nat) : Type := (tyOf t).α
instance dtDD (t : Nat) : Dt (DD t) := (tyOf t).inst
def xI : SV DD → Option Int
  | .i .i64 n => some n
  | _ => none
def xW : SV DD → Option (BitVec 64)
  | .w x => some x
  | _ => none
def xY : SV DD → Option (BitVec 8)
  | .y x => some x
  | _ => none
def xT : SV DD → Option ByteArray
  | .st x => some x
  | _ => none
def xS (e : Nat) : SV DD → Option (List (DD e))
  | .fsl e' xs => castL e' e xs
  | .nil => some []
  | _ => none
theorem xI_cq {a : SV DD} {n : Int} (h : xI a = some n) : CQ a (.i .i64 n) := by
  unfold xI at h
  split at h
  · cases h; exact .inr ⟨rfl, rfl, fun _ _ _ h => h⟩
  · cases h
theorem xW_cq {a : SV DD} {n : BitVec 64} (h : xW a = some n) : CQ a (.w n) := by
  unfold xW at h
  split at h
  · cases h; exact .inr ⟨rfl, rfl, fun _ _ _ h => h⟩
  · cases h
theorem xY_cq {a : SV DD} {n : BitVec 8} (h : xY a = some n) : CQ a (.y n) := by
  unfold xY at h
  split at h
  · cases h; exact .inr ⟨rfl, rfl, fun _ _ _ h => h⟩
  · cases h
theorem xT_cq {a : SV DD} {n : ByteArray} (h : xT a = some n) : CQ a (.st n) := by
  unfold xT at h
  split at h
  · cases h; exact .inr ⟨rfl, rfl, fun _ _ _ h => h⟩
  · cases h
theorem xB_cq {a : SV DD} {n : Bool} (h : boolOf a = some n) : CQ a (.b n) := by
  cases a <;> first | (cases h; exact .inr ⟨rfl, rfl, fun _ _ _ h => h⟩) | cases h
theorem xS_cq {e : Nat} {a : SV DD} {n : List (DD e)} (h : xS e a = some n) : CQ a (.fsl e n) := by
  unfold xS at h
  split at h
  · obtain ⟨he, h1⟩ := castL_ok h
    subst he
    subst h1
    exact .inl ⟨_, _, rfl, .inl rfl⟩
  · cases h; exact .inl ⟨_, _, rfl, .inr ⟨rfl, rfl⟩⟩
  · cases h
theorem bindS {α β : Type} {o : Option α} {f : α → Option β} {x : β} (h : o.bind f = some x) : ∃ v, o = some v ∧ f v = some x := Option.bind_eq_some_iff.1 h
def ofc4 : List (SV DD) → Option (DD 4)
  | [a0] => (boolOf a0).bind fun v0 => some v0
  | _ => none
def ce4 : CE DD := ⟨4, fun x => [.b (x)], ofc4, none⟩
theorem ceOk4 : ce4.Ok where
  rdi := @fun H ρ cs x => ⟨fun h => by
    obtain h := (show Dt.rd (α := Bool) H cs x from h)
    subst h
    exact ⟨_, _, rfl, rfl, rfl⟩, fun h => by
    obtain ⟨v0, r0, e0, p0, e⟩ := h
    have e : r0 = [] := e
    subst e
    subst e0
    have p0 : v0 = _ := p0
    subst p0
    exact (show Dt.rd (α := Bool) H _ x from rfl)⟩
  cq := @fun l x h => by
    change ofc4 l = some x at h
    unfold ofc4 at h
    split at h
    · obtain ⟨v0, h0, h⟩ := bindS h
      cases h
      exact ⟨_, _, rfl, xB_cq h0, rfl⟩
    · cases h
  eqc := fun d a b c1 c2 hd h1 h2 => by cases hd
def ofc3 : List (SV DD) → Option (DD 3)
  | [a0] => (xI a0).bind fun v0 => some v0
  | _ => none
def ce3 : CE DD := ⟨3, fun x => [.i .i64 (x)], ofc3, some (inferInstanceAs (DecidableEq Int))⟩
theorem sc3 (a b : Int) : (([.i .i64 (a)] : List Sc) = [.i .i64 (b)]) ↔ a = b := ⟨(Dt.ksOk (α := Int) _ _ rfl).2.2 a b, fun h => by rw [h]⟩
theorem ceOk3 : ce3.Ok where
  rdi := @fun H ρ cs x => ⟨fun h => by
    obtain h := (show Dt.rd (α := Int) H cs x from h)
    subst h
    exact ⟨_, _, rfl, rfl, rfl⟩, fun h => by
    obtain ⟨v0, r0, e0, p0, e⟩ := h
    have e : r0 = [] := e
    subst e
    subst e0
    have p0 : v0 = _ := p0
    subst p0
    exact (show Dt.rd (α := Int) H _ x from rfl)⟩
  cq := @fun l x h => by
    change ofc3 l = some x at h
    unfold ofc3 at h
    split at h
    · obtain ⟨v0, h0, h⟩ := bindS h
      cases h
      exact ⟨_, _, rfl, xI_cq h0, rfl⟩
    · cases h
  eqc := fun d a b c1 c2 hd h1 h2 => by
    cases h1; cases h2
    exact sc3 a b
def ofc123 : List (SV DD) → Option (DD 123)
  | [a0, a1, a2, a3, a4, a5, a6, a7] => (xY a0).bind fun v0 => (xY a1).bind fun v1 => (xY a2).bind fun v2 => (xY a3).bind fun v3 => (xY a4).bind fun v4 => (xY a5).bind fun v5 => (xY a6).bind fun v6 => (xY a7).bind fun v7 => some ⟨v0, v1, v2, v3, v4, v5, v6, v7⟩
  | _ => none
def ce123 : CE DD := ⟨123, fun x => [.y (x.b0), .y (x.b1), .y (x.b2), .y (x.b3), .y (x.b4), .y (x.b5), .y (x.b6), .y (x.b7)], ofc123, some (inferInstanceAs (DecidableEq Sec))⟩
theorem sc123 (a b : Sec) : (([.i .u8 ((a.b0).toNat : Int), .i .u8 ((a.b1).toNat : Int), .i .u8 ((a.b2).toNat : Int), .i .u8 ((a.b3).toNat : Int), .i .u8 ((a.b4).toNat : Int), .i .u8 ((a.b5).toNat : Int), .i .u8 ((a.b6).toNat : Int), .i .u8 ((a.b7).toNat : Int)] : List Sc) = [.i .u8 ((b.b0).toNat : Int), .i .u8 ((b.b1).toNat : Int), .i .u8 ((b.b2).toNat : Int), .i .u8 ((b.b3).toNat : Int), .i .u8 ((b.b4).toNat : Int), .i .u8 ((b.b5).toNat : Int), .i .u8 ((b.b6).toNat : Int), .i .u8 ((b.b7).toNat : Int)]) ↔ a = b := by
  cases a; cases b; simp [← BitVec.toNat_inj]; omega
theorem ceOk123 : ce123.Ok where
  rdi := @fun H ρ cs x => ⟨fun h => by
    obtain h := (show Dt.rd (α := Sec) H cs x from h)
    subst h
    exact ⟨_, _, rfl, rfl, _, _, rfl, rfl, _, _, rfl, rfl, _, _, rfl, rfl, _, _, rfl, rfl, _, _, rfl, rfl, _, _, rfl, rfl, _, _, rfl, rfl, rfl⟩, fun h => by
    obtain ⟨v0, r0, e0, p0, v1, r1, e1, p1, v2, r2, e2, p2, v3, r3, e3, p3, v4, r4, e4, p4, v5, r5, e5, p5, v6, r6, e6, p6, v7, r7, e7, p7, e⟩ := h
    have e : r7 = [] := e
    subst e
    subst e7
    subst e6
    subst e5
    subst e4
    subst e3
    subst e2
    subst e1
    subst e0
    have p0 : v0 = _ := p0
    subst p0
    have p1 : v1 = _ := p1
    subst p1
    have p2 : v2 = _ := p2
    subst p2
    have p3 : v3 = _ := p3
    subst p3
    have p4 : v4 = _ := p4
    subst p4
    have p5 : v5 = _ := p5
    subst p5
    have p6 : v6 = _ := p6
    subst p6
    have p7 : v7 = _ := p7
    subst p7
    exact (show Dt.rd (α := Sec) H _ x from rfl)⟩
  cq := @fun l x h => by
    change ofc123 l = some x at h
    unfold ofc123 at h
    split at h
    · obtain ⟨v0, h0, h⟩ := bindS h
      obtain ⟨v1, h1, h⟩ := bindS h
      obtain ⟨v2, h2, h⟩ := bindS h
      obtain ⟨v3, h3, h⟩ := bindS h
      obtain ⟨v4, h4, h⟩ := bindS h
      obtain ⟨v5, h5, h⟩ := bindS h
      obtain ⟨v6, h6, h⟩ := bindS h
      obtain ⟨v7, h7, h⟩ := bindS h
      cases h
      exact ⟨_, _, rfl, xY_cq h0, _, _, rfl, xY_cq h1, _, _, rfl, xY_cq h2, _, _, rfl, xY_cq h3, _, _, rfl, xY_cq h4, _, _, rfl, xY_cq h5, _, _, rfl, xY_cq h6, _, _, rfl, xY_cq h7, rfl⟩
    · cases h
  eqc := fun d a b c1 c2 hd h1 h2 => by
    cases h1; cases h2
    exact sc123 a b
def ofc119 : List (SV DD) → Option (DD 119)
  | [a0, a1, a2] => (xI a0).bind fun v0 => (xI a1).bind fun v1 => (xS 123 a2).bind fun v2 => some ⟨v0, v1, v2⟩
  | _ => none
def ce119 : CE DD := ⟨119, fun x => [.i .i64 (x.Volume), .i .i64 (x.Start), .fsl 123 (x.Data)], ofc119, none⟩
theorem ceOk119 : ce119.Ok where
  rdi := @fun H ρ cs x => ⟨fun h => by
    obtain ⟨A0, n0, c0, s0, h, h0⟩ := (show Dt.rd (α := api_Write) H cs x from h)
    subst h
    exact ⟨_, _, rfl, rfl, _, _, rfl, rfl, _, _, rfl, ⟨A0, n0, c0, s0, rfl, h0⟩, rfl⟩, fun h => by
    obtain ⟨v0, r0, e0, p0, v1, r1, e1, p1, v2, r2, e2, ⟨A0, n0, c0, s0, p2, h0⟩, e⟩ := h
    have e : r2 = [] := e
    subst e
    subst e2
    subst e1
    subst e0
    have p0 : v0 = _ := p0
    subst p0
    have p1 : v1 = _ := p1
    subst p1
    subst p2
    exact (show Dt.rd (α := api_Write) H _ x from ⟨A0, n0, c0, s0, rfl, h0⟩)⟩
  cq := @fun l x h => by
    change ofc119 l = some x at h
    unfold ofc119 at h
    split at h
    · obtain ⟨v0, h0, h⟩ := bindS h
      obtain ⟨v1, h1, h⟩ := bindS h
      obtain ⟨v2, h2, h⟩ := bindS h
      cases h
      exact ⟨_, _, rfl, xI_cq h0, _, _, rfl, xI_cq h1, _, _, rfl, xS_cq h2, rfl⟩
    · cases h
  eqc := fun d a b c1 c2 hd h1 h2 => by cases hd
def ofc58 : List (SV DD) → Option (DD 58)
  | [a0, a1] => (xI a0).bind fun v0 => (xI a1).bind fun v1 => some ⟨v0, v1⟩
  | _ => none
def ce58 : CE DD := ⟨58, fun x => [.i .i64 (x.Kind), .i .i64 (x.Write)], ofc58, some (inferInstanceAs (DecidableEq api_HistoryEvent))⟩
theorem sc58 (a b : api_HistoryEvent) : (([.i .i64 (a.Kind), .i .i64 (a.Write)] : List Sc) = [.i .i64 (b.Kind), .i .i64 (b.Write)]) ↔ a = b := by
  cases a; cases b; simp
theorem ceOk58 : ce58.Ok where
  rdi := @fun H ρ cs x => ⟨fun h => by
    obtain h := (show Dt.rd (α := api_HistoryEvent) H cs x from h)
    subst h
    exact ⟨_, _, rfl, rfl, _, _, rfl, rfl, rfl⟩, fun h => by
    obtain ⟨v0, r0, e0, p0, v1, r1, e1, p1, e⟩ := h
    have e : r1 = [] := e
    subst e
    subst e1
    subst e0
    have p0 : v0 = _ := p0
    subst p0
    have p1 : v1 = _ := p1
    subst p1
    exact (show Dt.rd (α := api_HistoryEvent) H _ x from rfl)⟩
  cq := @fun l x h => by
    change ofc58 l = some x at h
    unfold ofc58 at h
    split at h
    · obtain ⟨v0, h0, h⟩ := bindS h
      obtain ⟨v1, h1, h⟩ := bindS h
      cases h
      exact ⟨_, _, rfl, xI_cq h0, _, _, rfl, xI_cq h1, rfl⟩
    · cases h
  eqc := fun d a b c1 c2 hd h1 h2 => by
    cases h1; cases h2
    exact sc58 a b
def ofc26 : List (SV DD) → Option (DD 26)
  | [a0, a1, a2] => (xS 3 a0).bind fun v0 => (xS 119 a1).bind fun v1 => (xS 58 a2).bind fun v2 => some ⟨v0, v1, v2⟩
  | _ => none
def ce26 : CE DD := ⟨26, fun x => [.fsl 3 (x.Sizes), .fsl 119 (x.Writes), .fsl 58 (x.Events)], ofc26, none⟩
theorem ceOk26 : ce26.Ok where
  rdi := @fun H ρ cs x => ⟨fun h => by
    obtain ⟨A0, n0, c0, s0, A1, n1, c1, s1, A2, n2, c2, s2, h, h0, h1, h2⟩ := (show Dt.rd (α := api_History) H cs x from h)
    subst h
    exact ⟨_, _, rfl, ⟨A0, n0, c0, s0, rfl, h0⟩, _, _, rfl, ⟨A1, n1, c1, s1, rfl, h1⟩, _, _, rfl, ⟨A2, n2, c2, s2, rfl, h2⟩, rfl⟩, fun h => by
    obtain ⟨v0, r0, e0, ⟨A0, n0, c0, s0, p0, h0⟩, v1, r1, e1, ⟨A1, n1, c1, s1, p1, h1⟩, v2, r2, e2, ⟨A2, n2, c2, s2, p2, h2⟩, e⟩ := h
    have e : r2 = [] := e
    subst e
    subst e2
    subst e1
    subst e0
    subst p0
    subst p1
    subst p2
    exact (show Dt.rd (α := api_History) H _ x from ⟨A0, n0, c0, s0, A1, n1, c1, s1, A2, n2, c2, s2, rfl, h0, h1, h2⟩)⟩
  cq := @fun l x h => by
    change ofc26 l = some x at h
    unfold ofc26 at h
    split at h
    · obtain ⟨v0, h0, h⟩ := bindS h
      obtain ⟨v1, h1, h⟩ := bindS h
      obtain ⟨v2, h2, h⟩ := bindS h
      cases h
      exact ⟨_, _, rfl, xS_cq h0, _, _, rfl, xS_cq h1, _, _, rfl, xS_cq h2, rfl⟩
    · cases h
  eqc := fun d a b c1 c2 hd h1 h2 => by cases hd
def ofc22 : List (SV DD) → Option (DD 22)
  | [a0] => (xS 3 a0).bind fun v0 => some v0
  | _ => none
def ce22 : CE DD := ⟨22, fun x => [.fsl 3 (x)], ofc22, none⟩
theorem ceOk22 : ce22.Ok where
  rdi := @fun H ρ cs x => ⟨fun h => by
    obtain ⟨A0, n0, c0, s0, h, h0⟩ := (show Dt.rd (α := List Int) H cs x from h)
    subst h
    exact ⟨_, _, rfl, ⟨A0, n0, c0, s0, rfl, h0⟩, rfl⟩, fun h => by
    obtain ⟨v0, r0, e0, ⟨A0, n0, c0, s0, p0, h0⟩, e⟩ := h
    have e : r0 = [] := e
    subst e
    subst e0
    subst p0
    exact (show Dt.rd (α := List Int) H _ x from ⟨A0, n0, c0, s0, rfl, h0⟩)⟩
  cq := @fun l x h => by
    change ofc22 l = some x at h
    unfold ofc22 at h
    split at h
    · obtain ⟨v0, h0, h⟩ := bindS h
      cases h
      exact ⟨_, _, rfl, xS_cq h0, rfl⟩
    · cases h
  eqc := fun d a b c1 c2 hd h1 h2 => by cases hd
def ofc29 : List (SV DD) → Option (DD 29)
  | [a0] => (xS 22 a0).bind fun v0 => some v0
  | _ => none
def ce29 : CE DD := ⟨29, fun x => [.fsl 22 (x)], ofc29, none⟩
theorem ceOk29 : ce29.Ok where
  rdi := @fun H ρ cs x => ⟨fun h => by
    obtain ⟨A0, n0, c0, s0, h, h0⟩ := (show Dt.rd (α := List (List Int)) H cs x from h)
    subst h
    exact ⟨_, _, rfl, ⟨A0, n0, c0, s0, rfl, h0⟩, rfl⟩, fun h => by
    obtain ⟨v0, r0, e0, ⟨A0, n0, c0, s0, p0, h0⟩, e⟩ := h
    have e : r0 = [] := e
    subst e
    subst e0
    subst p0
    exact (show Dt.rd (α := List (List Int)) H _ x from ⟨A0, n0, c0, s0, rfl, h0⟩)⟩
  cq := @fun l x h => by
    change ofc29 l = some x at h
    unfold ofc29 at h
    split at h
    · obtain ⟨v0, h0, h⟩ := bindS h
      cases h
      exact ⟨_, _, rfl, xS_cq h0, rfl⟩
    · cases h
  eqc := fun d a b c1 c2 hd h1 h2 => by cases hd
def ofc30 : List (SV DD) → Option (DD 30)
  | [a0] => (xI a0).bind fun v0 => some v0
  | _ => none
def ce30 : CE DD := ⟨30, fun x => [.i .i64 (x)], ofc30, none⟩
theorem ceOk30 : ce30.Ok where
  rdi := @fun H ρ cs x => ⟨fun h => by
    obtain h := (show Dt.rd (α := Int) H cs x from h)
    subst h
    exact ⟨_, _, rfl, rfl, rfl⟩, fun h => by
    obtain ⟨v0, r0, e0, p0, e⟩ := h
    have e : r0 = [] := e
    subst e
    subst e0
    have p0 : v0 = _ := p0
    subst p0
    exact (show Dt.rd (α := Int) H _ x from rfl)⟩
  cq := @fun l x h => by
    change ofc30 l = some x at h
    unfold ofc30 at h
    split at h
    · obtain ⟨v0, h0, h⟩ := bindS h
      cases h
      exact ⟨_, _, rfl, xI_cq h0, rfl⟩
    · cases h
  eqc := fun d a b c1 c2 hd h1 h2 => by cases hd
def ofc109 : List (SV DD) → Option (DD 109)
  | [a0, a1, a2, a3, a4] => (xS 3 a0).bind fun v0 => (xS 119 a1).bind fun v1 => (xS 58 a2).bind fun v2 => (xS 3 a3).bind fun v3 => (xS 3 a4).bind fun v4 => some ⟨⟨v0, v1, v2⟩, ⟨v3, v4⟩⟩
  | _ => none
def ce109 : CE DD := ⟨109, fun x => [.fsl 3 (x.History.Sizes), .fsl 119 (x.History.Writes), .fsl 58 (x.History.Events), .fsl 3 (x.timeline.issued), .fsl 3 (x.timeline.acked)], ofc109, none⟩
theorem ceOk109 : ce109.Ok where
  rdi := @fun H ρ cs x => ⟨fun h => by
    obtain ⟨A0, n0, c0, s0, A1, n1, c1, s1, A2, n2, c2, s2, A3, n3, c3, s3, A4, n4, c4, s4, h, h0, h1, h2, h3, h4⟩ := (show Dt.rd (α := history_checked) H cs x from h)
    subst h
    exact ⟨_, _, rfl, ⟨A0, n0, c0, s0, rfl, h0⟩, _, _, rfl, ⟨A1, n1, c1, s1, rfl, h1⟩, _, _, rfl, ⟨A2, n2, c2, s2, rfl, h2⟩, _, _, rfl, ⟨A3, n3, c3, s3, rfl, h3⟩, _, _, rfl, ⟨A4, n4, c4, s4, rfl, h4⟩, rfl⟩, fun h => by
    obtain ⟨v0, r0, e0, ⟨A0, n0, c0, s0, p0, h0⟩, v1, r1, e1, ⟨A1, n1, c1, s1, p1, h1⟩, v2, r2, e2, ⟨A2, n2, c2, s2, p2, h2⟩, v3, r3, e3, ⟨A3, n3, c3, s3, p3, h3⟩, v4, r4, e4, ⟨A4, n4, c4, s4, p4, h4⟩, e⟩ := h
    have e : r4 = [] := e
    subst e
    subst e4
    subst e3
    subst e2
    subst e1
    subst e0
    subst p0
    subst p1
    subst p2
    subst p3
    subst p4
    exact (show Dt.rd (α := history_checked) H _ x from ⟨A0, n0, c0, s0, A1, n1, c1, s1, A2, n2, c2, s2, A3, n3, c3, s3, A4, n4, c4, s4, rfl, h0, h1, h2, h3, h4⟩)⟩
  cq := @fun l x h => by
    change ofc109 l = some x at h
    unfold ofc109 at h
    split at h
    · obtain ⟨v0, h0, h⟩ := bindS h
      obtain ⟨v1, h1, h⟩ := bindS h
      obtain ⟨v2, h2, h⟩ := bindS h
      obtain ⟨v3, h3, h⟩ := bindS h
      obtain ⟨v4, h4, h⟩ := bindS h
      cases h
      exact ⟨_, _, rfl, xS_cq h0, _, _, rfl, xS_cq h1, _, _, rfl, xS_cq h2, _, _, rfl, xS_cq h3, _, _, rfl, xS_cq h4, rfl⟩
    · cases h
  eqc := fun d a b c1 c2 hd h1 h2 => by cases hd
def ofc117 : List (SV DD) → Option (DD 117)
  | [a0] => (xS 123 a0).bind fun v0 => some v0
  | _ => none
def ce117 : CE DD := ⟨117, fun x => [.fsl 123 (x)], ofc117, none⟩
theorem ceOk117 : ce117.Ok where
  rdi := @fun H ρ cs x => ⟨fun h => by
    obtain ⟨A0, n0, c0, s0, h, h0⟩ := (show Dt.rd (α := List Sec) H cs x from h)
    subst h
    exact ⟨_, _, rfl, ⟨A0, n0, c0, s0, rfl, h0⟩, rfl⟩, fun h => by
    obtain ⟨v0, r0, e0, ⟨A0, n0, c0, s0, p0, h0⟩, e⟩ := h
    have e : r0 = [] := e
    subst e
    subst e0
    subst p0
    exact (show Dt.rd (α := List Sec) H _ x from ⟨A0, n0, c0, s0, rfl, h0⟩)⟩
  cq := @fun l x h => by
    change ofc117 l = some x at h
    unfold ofc117 at h
    split at h
    · obtain ⟨v0, h0, h⟩ := bindS h
      cases h
      exact ⟨_, _, rfl, xS_cq h0, rfl⟩
    · cases h
  eqc := fun d a b c1 c2 hd h1 h2 => by cases hd
def ofc71 : List (SV DD) → Option (DD 71)
  | [a0] => (xS 117 a0).bind fun v0 => some v0
  | _ => none
def ce71 : CE DD := ⟨71, fun x => [.fsl 117 (x)], ofc71, none⟩
theorem ceOk71 : ce71.Ok where
  rdi := @fun H ρ cs x => ⟨fun h => by
    obtain ⟨A0, n0, c0, s0, h, h0⟩ := (show Dt.rd (α := List (List Sec)) H cs x from h)
    subst h
    exact ⟨_, _, rfl, ⟨A0, n0, c0, s0, rfl, h0⟩, rfl⟩, fun h => by
    obtain ⟨v0, r0, e0, ⟨A0, n0, c0, s0, p0, h0⟩, e⟩ := h
    have e : r0 = [] := e
    subst e
    subst e0
    subst p0
    exact (show Dt.rd (α := List (List Sec)) H _ x from ⟨A0, n0, c0, s0, rfl, h0⟩)⟩
  cq := @fun l x h => by
    change ofc71 l = some x at h
    unfold ofc71 at h
    split at h
    · obtain ⟨v0, h0, h⟩ := bindS h
      cases h
      exact ⟨_, _, rfl, xS_cq h0, rfl⟩
    · cases h
  eqc := fun d a b c1 c2 hd h1 h2 => by cases hd
def ofc70 : List (SV DD) → Option (DD 70)
  | [a0] => (xS 117 a0).bind fun v0 => some v0
  | _ => none
def ce70 : CE DD := ⟨70, fun x => [.fsl 117 (x)], ofc70, none⟩
theorem ceOk70 : ce70.Ok where
  rdi := @fun H ρ cs x => ⟨fun h => by
    obtain ⟨A0, n0, c0, s0, h, h0⟩ := (show Dt.rd (α := List (List Sec)) H cs x from h)
    subst h
    exact ⟨_, _, rfl, ⟨A0, n0, c0, s0, rfl, h0⟩, rfl⟩, fun h => by
    obtain ⟨v0, r0, e0, ⟨A0, n0, c0, s0, p0, h0⟩, e⟩ := h
    have e : r0 = [] := e
    subst e
    subst e0
    subst p0
    exact (show Dt.rd (α := List (List Sec)) H _ x from ⟨A0, n0, c0, s0, rfl, h0⟩)⟩
  cq := @fun l x h => by
    change ofc70 l = some x at h
    unfold ofc70 at h
    split at h
    · obtain ⟨v0, h0, h⟩ := bindS h
      cases h
      exact ⟨_, _, rfl, xS_cq h0, rfl⟩
    · cases h
  eqc := fun d a b c1 c2 hd h1 h2 => by cases hd
def ofc203 : List (SV DD) → Option (DD 203)
  | [.fel e xs i off] => match castL e 109 xs with
    | some [x] => bif decide (i = 0) && Nat.beq off 0 then some ⟨x⟩ else none
    | _ => none
  | _ => none
def ce203 : CE DD := ⟨203, fun x => [.fel 109 [x.val] 0 0], ofc203, none⟩
theorem ceOk203 : ce203.Ok where
  rdi := @fun H ρ cs x => ⟨fun h => by
    obtain ⟨A, n, c, s, h, h1⟩ := (show Dt.rd (α := Ptr history_checked) H cs x from h)
    exact ⟨_, [], h, ⟨A, n, c, s, rfl, h1, Int.le_refl _, by show (0 : Int) < ((1 : Nat) : Int); decide⟩, rfl⟩, fun h => by
    obtain ⟨v, r, e, ⟨A, n, c, s, h, h1, _⟩, e2⟩ := h
    have e2 : r = [] := e2
    subst e2
    subst e
    subst h
    exact (show Dt.rd (α := Ptr history_checked) H _ x from ⟨A, n, c, s, rfl, h1⟩)⟩
  cq := @fun l x h => by
    change ofc203 l = some x at h
    unfold ofc203 at h
    split at h
    · split at h
      · rename_i e xs i off y hc
        obtain ⟨hb, h⟩ := cif h
        cases h
        obtain ⟨he, h1⟩ := castL_ok hc
        subst he
        subst h1
        rw [Bool.and_eq_true] at hb
        obtain ⟨hb1, hb2⟩ := hb
        have hb1 := of_decide_eq_true hb1
        have hb2 := Nat.eq_of_beq_eq_true hb2
        subst hb1
        subst hb2
        exact ⟨_, _, rfl, .inr ⟨rfl, rfl, fun _ _ _ h => h⟩, rfl⟩
      · cases h
    · cases h
  eqc := fun d a b c1 c2 hd h1 h2 => by cases hd
def ofc185 : List (SV DD) → Option (DD 185)
  | [a0] => (xW a0).bind fun v0 => some v0
  | _ => none
def ce185 : CE DD := ⟨185, fun x => [.w (x)], ofc185, none⟩
theorem ceOk185 : ce185.Ok where
  rdi := @fun H ρ cs x => ⟨fun h => by
    obtain h := (show Dt.rd (α := BitVec 64) H cs x from h)
    subst h
    exact ⟨_, _, rfl, rfl, rfl⟩, fun h => by
    obtain ⟨v0, r0, e0, p0, e⟩ := h
    have e : r0 = [] := e
    subst e
    subst e0
    have p0 : v0 = _ := p0
    subst p0
    exact (show Dt.rd (α := BitVec 64) H _ x from rfl)⟩
  cq := @fun l x h => by
    change ofc185 l = some x at h
    unfold ofc185 at h
    split at h
    · obtain ⟨v0, h0, h⟩ := bindS h
      cases h
      exact ⟨_, _, rfl, xW_cq h0, rfl⟩
    · cases h
  eqc := fun d a b c1 c2 hd h1 h2 => by cases hd
def ofc210 : List (SV DD) → Option (DD 210)
  | [a0] => (xW a0).bind fun v0 => some v0
  | _ => none
def ce210 : CE DD := ⟨210, fun x => [.w (x)], ofc210, none⟩
theorem ceOk210 : ce210.Ok where
  rdi := @fun H ρ cs x => ⟨fun h => by
    obtain h := (show Dt.rd (α := BitVec 64) H cs x from h)
    subst h
    exact ⟨_, _, rfl, rfl, rfl⟩, fun h => by
    obtain ⟨v0, r0, e0, p0, e⟩ := h
    have e : r0 = [] := e
    subst e
    subst e0
    have p0 : v0 = _ := p0
    subst p0
    exact (show Dt.rd (α := BitVec 64) H _ x from rfl)⟩
  cq := @fun l x h => by
    change ofc210 l = some x at h
    unfold ofc210 at h
    split at h
    · obtain ⟨v0, h0, h⟩ := bindS h
      cases h
      exact ⟨_, _, rfl, xW_cq h0, rfl⟩
    · cases h
  eqc := fun d a b c1 c2 hd h1 h2 => by cases hd
def ofc100 : List (SV DD) → Option (DD 100)
  | [a0, a1, a2, a3] => (xI a0).bind fun v0 => (xI a1).bind fun v1 => (xS 3 a2).bind fun v2 => (xS 3 a3).bind fun v3 => some ⟨v0, v1, v2, v3⟩
  | _ => none
def ce100 : CE DD := ⟨100, fun x => [.i .i64 (x.n), .i .i64 (x.never), .fsl 3 (x.issued), .fsl 3 (x.acked)], ofc100, none⟩
theorem ceOk100 : ce100.Ok where
  rdi := @fun H ρ cs x => ⟨fun h => by
    obtain ⟨A0, n0, c0, s0, A1, n1, c1, s1, h, h0, h1⟩ := (show Dt.rd (α := cut_relation) H cs x from h)
    subst h
    exact ⟨_, _, rfl, rfl, _, _, rfl, rfl, _, _, rfl, ⟨A0, n0, c0, s0, rfl, h0⟩, _, _, rfl, ⟨A1, n1, c1, s1, rfl, h1⟩, rfl⟩, fun h => by
    obtain ⟨v0, r0, e0, p0, v1, r1, e1, p1, v2, r2, e2, ⟨A0, n0, c0, s0, p2, h0⟩, v3, r3, e3, ⟨A1, n1, c1, s1, p3, h1⟩, e⟩ := h
    have e : r3 = [] := e
    subst e
    subst e3
    subst e2
    subst e1
    subst e0
    have p0 : v0 = _ := p0
    subst p0
    have p1 : v1 = _ := p1
    subst p1
    subst p2
    subst p3
    exact (show Dt.rd (α := cut_relation) H _ x from ⟨A0, n0, c0, s0, A1, n1, c1, s1, rfl, h0, h1⟩)⟩
  cq := @fun l x h => by
    change ofc100 l = some x at h
    unfold ofc100 at h
    split at h
    · obtain ⟨v0, h0, h⟩ := bindS h
      obtain ⟨v1, h1, h⟩ := bindS h
      obtain ⟨v2, h2, h⟩ := bindS h
      obtain ⟨v3, h3, h⟩ := bindS h
      cases h
      exact ⟨_, _, rfl, xI_cq h0, _, _, rfl, xI_cq h1, _, _, rfl, xS_cq h2, _, _, rfl, xS_cq h3, rfl⟩
    · cases h
  eqc := fun d a b c1 c2 hd h1 h2 => by cases hd
def ofc80 : List (SV DD) → Option (DD 80)
  | [.fel e xs i off] => match castL e 100 xs with
    | some [x] => bif decide (i = 0) && Nat.beq off 0 then some ⟨x⟩ else none
    | _ => none
  | _ => none
def ce80 : CE DD := ⟨80, fun x => [.fel 100 [x.val] 0 0], ofc80, none⟩
theorem ceOk80 : ce80.Ok where
  rdi := @fun H ρ cs x => ⟨fun h => by
    obtain ⟨A, n, c, s, h, h1⟩ := (show Dt.rd (α := Ptr cut_relation) H cs x from h)
    exact ⟨_, [], h, ⟨A, n, c, s, rfl, h1, Int.le_refl _, by show (0 : Int) < ((1 : Nat) : Int); decide⟩, rfl⟩, fun h => by
    obtain ⟨v, r, e, ⟨A, n, c, s, h, h1, _⟩, e2⟩ := h
    have e2 : r = [] := e2
    subst e2
    subst e
    subst h
    exact (show Dt.rd (α := Ptr cut_relation) H _ x from ⟨A, n, c, s, rfl, h1⟩)⟩
  cq := @fun l x h => by
    change ofc80 l = some x at h
    unfold ofc80 at h
    split at h
    · split at h
      · rename_i e xs i off y hc
        obtain ⟨hb, h⟩ := cif h
        cases h
        obtain ⟨he, h1⟩ := castL_ok hc
        subst he
        subst h1
        rw [Bool.and_eq_true] at hb
        obtain ⟨hb1, hb2⟩ := hb
        have hb1 := of_decide_eq_true hb1
        have hb2 := Nat.eq_of_beq_eq_true hb2
        subst hb1
        subst hb2
        exact ⟨_, _, rfl, .inr ⟨rfl, rfl, fun _ _ _ h => h⟩, rfl⟩
      · cases h
    · cases h
  eqc := fun d a b c1 c2 hd h1 h2 => by cases hd
def ofc9 : List (SV DD) → Option (DD 9)
  | [a0] => (xT a0).bind fun v0 => some v0
  | _ => none
def ce9 : CE DD := ⟨9, fun x => [.st (x)], ofc9, some (inferInstanceAs (DecidableEq ByteArray))⟩
theorem sc9 (a b : ByteArray) : (([.st (a)] : List Sc) = [.st (b)]) ↔ a = b := ⟨(Dt.ksOk (α := ByteArray) _ _ rfl).2.2 a b, fun h => by rw [h]⟩
theorem ceOk9 : ce9.Ok where
  rdi := @fun H ρ cs x => ⟨fun h => by
    obtain h := (show Dt.rd (α := ByteArray) H cs x from h)
    subst h
    exact ⟨_, _, rfl, rfl, rfl⟩, fun h => by
    obtain ⟨v0, r0, e0, p0, e⟩ := h
    have e : r0 = [] := e
    subst e
    subst e0
    have p0 : v0 = _ := p0
    subst p0
    exact (show Dt.rd (α := ByteArray) H _ x from rfl)⟩
  cq := @fun l x h => by
    change ofc9 l = some x at h
    unfold ofc9 at h
    split at h
    · obtain ⟨v0, h0, h⟩ := bindS h
      cases h
      exact ⟨_, _, rfl, xT_cq h0, rfl⟩
    · cases h
  eqc := fun d a b c1 c2 hd h1 h2 => by
    cases h1; cases h2
    exact sc9 a b
def ofc94 : List (SV DD) → Option (DD 94)
  | [a0] => (xS 4 a0).bind fun v0 => some v0
  | _ => none
def ce94 : CE DD := ⟨94, fun x => [.fsl 4 (x)], ofc94, none⟩
theorem ceOk94 : ce94.Ok where
  rdi := @fun H ρ cs x => ⟨fun h => by
    obtain ⟨A0, n0, c0, s0, h, h0⟩ := (show Dt.rd (α := List Bool) H cs x from h)
    subst h
    exact ⟨_, _, rfl, ⟨A0, n0, c0, s0, rfl, h0⟩, rfl⟩, fun h => by
    obtain ⟨v0, r0, e0, ⟨A0, n0, c0, s0, p0, h0⟩, e⟩ := h
    have e : r0 = [] := e
    subst e
    subst e0
    subst p0
    exact (show Dt.rd (α := List Bool) H _ x from ⟨A0, n0, c0, s0, rfl, h0⟩)⟩
  cq := @fun l x h => by
    change ofc94 l = some x at h
    unfold ofc94 at h
    split at h
    · obtain ⟨v0, h0, h⟩ := bindS h
      cases h
      exact ⟨_, _, rfl, xS_cq h0, rfl⟩
    · cases h
  eqc := fun d a b c1 c2 hd h1 h2 => by cases hd
def ofc91 : List (SV DD) → Option (DD 91)
  | [a0] => (xS 94 a0).bind fun v0 => some v0
  | _ => none
def ce91 : CE DD := ⟨91, fun x => [.fsl 94 (x)], ofc91, none⟩
theorem ceOk91 : ce91.Ok where
  rdi := @fun H ρ cs x => ⟨fun h => by
    obtain ⟨A0, n0, c0, s0, h, h0⟩ := (show Dt.rd (α := List (List Bool)) H cs x from h)
    subst h
    exact ⟨_, _, rfl, ⟨A0, n0, c0, s0, rfl, h0⟩, rfl⟩, fun h => by
    obtain ⟨v0, r0, e0, ⟨A0, n0, c0, s0, p0, h0⟩, e⟩ := h
    have e : r0 = [] := e
    subst e
    subst e0
    subst p0
    exact (show Dt.rd (α := List (List Bool)) H _ x from ⟨A0, n0, c0, s0, rfl, h0⟩)⟩
  cq := @fun l x h => by
    change ofc91 l = some x at h
    unfold ofc91 at h
    split at h
    · obtain ⟨v0, h0, h⟩ := bindS h
      cases h
      exact ⟨_, _, rfl, xS_cq h0, rfl⟩
    · cases h
  eqc := fun d a b c1 c2 hd h1 h2 => by cases hd
def ofc24 : List (SV DD) → Option (DD 24)
  | [a0] => (xS 58 a0).bind fun v0 => some v0
  | _ => none
def ce24 : CE DD := ⟨24, fun x => [.fsl 58 (x)], ofc24, none⟩
theorem ceOk24 : ce24.Ok where
  rdi := @fun H ρ cs x => ⟨fun h => by
    obtain ⟨A0, n0, c0, s0, h, h0⟩ := (show Dt.rd (α := List api_HistoryEvent) H cs x from h)
    subst h
    exact ⟨_, _, rfl, ⟨A0, n0, c0, s0, rfl, h0⟩, rfl⟩, fun h => by
    obtain ⟨v0, r0, e0, ⟨A0, n0, c0, s0, p0, h0⟩, e⟩ := h
    have e : r0 = [] := e
    subst e
    subst e0
    subst p0
    exact (show Dt.rd (α := List api_HistoryEvent) H _ x from ⟨A0, n0, c0, s0, rfl, h0⟩)⟩
  cq := @fun l x h => by
    change ofc24 l = some x at h
    unfold ofc24 at h
    split at h
    · obtain ⟨v0, h0, h⟩ := bindS h
      cases h
      exact ⟨_, _, rfl, xS_cq h0, rfl⟩
    · cases h
  eqc := fun d a b c1 c2 hd h1 h2 => by cases hd
def ofc89 : List (SV DD) → Option (DD 89)
  | [a0] => (xS 4 a0).bind fun v0 => some v0
  | _ => none
def ce89 : CE DD := ⟨89, fun x => [.fsl 4 (x)], ofc89, none⟩
theorem ceOk89 : ce89.Ok where
  rdi := @fun H ρ cs x => ⟨fun h => by
    obtain ⟨A0, n0, c0, s0, h, h0⟩ := (show Dt.rd (α := List Bool) H cs x from h)
    subst h
    exact ⟨_, _, rfl, ⟨A0, n0, c0, s0, rfl, h0⟩, rfl⟩, fun h => by
    obtain ⟨v0, r0, e0, ⟨A0, n0, c0, s0, p0, h0⟩, e⟩ := h
    have e : r0 = [] := e
    subst e
    subst e0
    subst p0
    exact (show Dt.rd (α := List Bool) H _ x from ⟨A0, n0, c0, s0, rfl, h0⟩)⟩
  cq := @fun l x h => by
    change ofc89 l = some x at h
    unfold ofc89 at h
    split at h
    · obtain ⟨v0, h0, h⟩ := bindS h
      cases h
      exact ⟨_, _, rfl, xS_cq h0, rfl⟩
    · cases h
  eqc := fun d a b c1 c2 hd h1 h2 => by cases hd
def ofc86 : List (SV DD) → Option (DD 86)
  | [a0] => (xS 89 a0).bind fun v0 => some v0
  | _ => none
def ce86 : CE DD := ⟨86, fun x => [.fsl 89 (x)], ofc86, none⟩
theorem ceOk86 : ce86.Ok where
  rdi := @fun H ρ cs x => ⟨fun h => by
    obtain ⟨A0, n0, c0, s0, h, h0⟩ := (show Dt.rd (α := List (List Bool)) H cs x from h)
    subst h
    exact ⟨_, _, rfl, ⟨A0, n0, c0, s0, rfl, h0⟩, rfl⟩, fun h => by
    obtain ⟨v0, r0, e0, ⟨A0, n0, c0, s0, p0, h0⟩, e⟩ := h
    have e : r0 = [] := e
    subst e
    subst e0
    subst p0
    exact (show Dt.rd (α := List (List Bool)) H _ x from ⟨A0, n0, c0, s0, rfl, h0⟩)⟩
  cq := @fun l x h => by
    change ofc86 l = some x at h
    unfold ofc86 at h
    split at h
    · obtain ⟨v0, h0, h⟩ := bindS h
      cases h
      exact ⟨_, _, rfl, xS_cq h0, rfl⟩
    · cases h
  eqc := fun d a b c1 c2 hd h1 h2 => by cases hd
def ofc46 : List (SV DD) → Option (DD 46)
  | [a0, a1] => (xS 3 a0).bind fun v0 => (xS 3 a1).bind fun v1 => some ⟨v0, v1⟩
  | _ => none
def ce46 : CE DD := ⟨46, fun x => [.fsl 3 (x.A), .fsl 3 (x.B)], ofc46, none⟩
theorem ceOk46 : ce46.Ok where
  rdi := @fun H ρ cs x => ⟨fun h => by
    obtain ⟨A0, n0, c0, s0, A1, n1, c1, s1, h, h0, h1⟩ := (show Dt.rd (α := standbylaw16_Sets) H cs x from h)
    subst h
    exact ⟨_, _, rfl, ⟨A0, n0, c0, s0, rfl, h0⟩, _, _, rfl, ⟨A1, n1, c1, s1, rfl, h1⟩, rfl⟩, fun h => by
    obtain ⟨v0, r0, e0, ⟨A0, n0, c0, s0, p0, h0⟩, v1, r1, e1, ⟨A1, n1, c1, s1, p1, h1⟩, e⟩ := h
    have e : r1 = [] := e
    subst e
    subst e1
    subst e0
    subst p0
    subst p1
    exact (show Dt.rd (α := standbylaw16_Sets) H _ x from ⟨A0, n0, c0, s0, A1, n1, c1, s1, rfl, h0, h1⟩)⟩
  cq := @fun l x h => by
    change ofc46 l = some x at h
    unfold ofc46 at h
    split at h
    · obtain ⟨v0, h0, h⟩ := bindS h
      obtain ⟨v1, h1, h⟩ := bindS h
      cases h
      exact ⟨_, _, rfl, xS_cq h0, _, _, rfl, xS_cq h1, rfl⟩
    · cases h
  eqc := fun d a b c1 c2 hd h1 h2 => by cases hd
def ofc5 : List (SV DD) → Option (DD 5)
  | [a0] => (xY a0).bind fun v0 => some v0
  | _ => none
def ce5 : CE DD := ⟨5, fun x => [.y (x)], ofc5, none⟩
theorem ceOk5 : ce5.Ok where
  rdi := @fun H ρ cs x => ⟨fun h => by
    obtain h := (show Dt.rd (α := BitVec 8) H cs x from h)
    subst h
    exact ⟨_, _, rfl, rfl, rfl⟩, fun h => by
    obtain ⟨v0, r0, e0, p0, e⟩ := h
    have e : r0 = [] := e
    subst e
    subst e0
    have p0 : v0 = _ := p0
    subst p0
    exact (show Dt.rd (α := BitVec 8) H _ x from rfl)⟩
  cq := @fun l x h => by
    change ofc5 l = some x at h
    unfold ofc5 at h
    split at h
    · obtain ⟨v0, h0, h⟩ := bindS h
      cases h
      exact ⟨_, _, rfl, xY_cq h0, rfl⟩
    · cases h
  eqc := fun d a b c1 c2 hd h1 h2 => by cases hd
def ofc107 : List (SV DD) → Option (DD 107)
  | [a0, a1] => (xS 3 a0).bind fun v0 => (xS 3 a1).bind fun v1 => some ⟨v0, v1⟩
  | _ => none
def ce107 : CE DD := ⟨107, fun x => [.fsl 3 (x.issued), .fsl 3 (x.acked)], ofc107, none⟩
theorem ceOk107 : ce107.Ok where
  rdi := @fun H ρ cs x => ⟨fun h => by
    obtain ⟨A0, n0, c0, s0, A1, n1, c1, s1, h, h0, h1⟩ := (show Dt.rd (α := history_timeline) H cs x from h)
    subst h
    exact ⟨_, _, rfl, ⟨A0, n0, c0, s0, rfl, h0⟩, _, _, rfl, ⟨A1, n1, c1, s1, rfl, h1⟩, rfl⟩, fun h => by
    obtain ⟨v0, r0, e0, ⟨A0, n0, c0, s0, p0, h0⟩, v1, r1, e1, ⟨A1, n1, c1, s1, p1, h1⟩, e⟩ := h
    have e : r1 = [] := e
    subst e
    subst e1
    subst e0
    subst p0
    subst p1
    exact (show Dt.rd (α := history_timeline) H _ x from ⟨A0, n0, c0, s0, A1, n1, c1, s1, rfl, h0, h1⟩)⟩
  cq := @fun l x h => by
    change ofc107 l = some x at h
    unfold ofc107 at h
    split at h
    · obtain ⟨v0, h0, h⟩ := bindS h
      obtain ⟨v1, h1, h⟩ := bindS h
      cases h
      exact ⟨_, _, rfl, xS_cq h0, _, _, rfl, xS_cq h1, rfl⟩
    · cases h
  eqc := fun d a b c1 c2 hd h1 h2 => by cases hd
def ofc23 : List (SV DD) → Option (DD 23)
  | [a0] => (xS 119 a0).bind fun v0 => some v0
  | _ => none
def ce23 : CE DD := ⟨23, fun x => [.fsl 119 (x)], ofc23, none⟩
theorem ceOk23 : ce23.Ok where
  rdi := @fun H ρ cs x => ⟨fun h => by
    obtain ⟨A0, n0, c0, s0, h, h0⟩ := (show Dt.rd (α := List api_Write) H cs x from h)
    subst h
    exact ⟨_, _, rfl, ⟨A0, n0, c0, s0, rfl, h0⟩, rfl⟩, fun h => by
    obtain ⟨v0, r0, e0, ⟨A0, n0, c0, s0, p0, h0⟩, e⟩ := h
    have e : r0 = [] := e
    subst e
    subst e0
    subst p0
    exact (show Dt.rd (α := List api_Write) H _ x from ⟨A0, n0, c0, s0, rfl, h0⟩)⟩
  cq := @fun l x h => by
    change ofc23 l = some x at h
    unfold ofc23 at h
    split at h
    · obtain ⟨v0, h0, h⟩ := bindS h
      cases h
      exact ⟨_, _, rfl, xS_cq h0, rfl⟩
    · cases h
  eqc := fun d a b c1 c2 hd h1 h2 => by cases hd
def tab : Tb DD := [ce4, ce3, ce123, ce119, ce58, ce26, ce22, ce29, ce30, ce109, ce117, ce71, ce70, ce203, ce185, ce210, ce100, ce80, ce9, ce94, ce91, ce24, ce89, ce86, ce46, ce5, ce107, ce23]
theorem tabOk : TbOk tab := ⟨ceOk4, ceOk3, ceOk123, ceOk119, ceOk58, ceOk26, ceOk22, ceOk29, ceOk30, ceOk109, ceOk117, ceOk71, ceOk70, ceOk203, ceOk185, ceOk210, ceOk100, ceOk80, ceOk9, ceOk94, ceOk91, ceOk24, ceOk89, ceOk86, ceOk46, ceOk5, ceOk107, ceOk23, trivial⟩
theorem rd3 : ReadsD Tryz.prog 3 (Int) := ReadsD.int Tryz.underlying3 (by kernel_rfl)
theorem rd22 : ReadsD Tryz.prog 22 (List Int) := ReadsD.slice Tryz.underlying22 (by kernel_rfl) rd3 (by decide)
theorem rd123 : ReadsD Tryz.prog 123 (Sec) := ReadsD.sec Tryz.underlying123 Tryz.underlying5 (by kernel_rfl) (by kernel_rfl)
theorem rd117 : ReadsD Tryz.prog 117 (List Sec) := ReadsD.slice Tryz.underlying117 (by kernel_rfl) rd123 (by decide)
instance rg_api_Write : Rg api_Write := ⟨fun x => Rg.rg x.Volume ∧ Rg.rg x.Start ∧ Rg.rg x.Data⟩
theorem rd119 : ReadsD Tryz.prog 119 (api_Write) := (@Reads.struct Tryz.prog 119 _ (Int × Int × List Sec × Unit) (@datProd _ _ (datD (Int)) (@datProd _ _ (datD (Int)) (@datProd _ _ (datD (List Sec)) datUnit))) Tryz.underlying119 (by kernel_rfl) (@Fields.cons _ _ _ _ _ _ (datD (Int)) _ rfl rd3 (@Fields.cons _ _ _ _ _ _ (datD (Int)) _ rfl rd3 (@Fields.cons _ _ _ _ _ _ (datD (List Sec)) _ rfl rd117 (.nil _))))).map rfl fun {H cs a} h => by
  obtain ⟨a0, a1, a2, _⟩ := a
  obtain ⟨_, _, rfl, ⟨rfl, r0⟩, _, _, rfl, ⟨rfl, r1⟩, _, _, rfl, ⟨⟨A3, n3, c3, s3, rfl, hF3⟩, r2⟩, hz⟩ := h
  cases hz
  exact ⟨⟨a0, a1, a2⟩, ⟨A3, n3, c3, s3, rfl, hF3⟩, r0, r1, r2⟩
theorem rd23 : ReadsD Tryz.prog 23 (List api_Write) := ReadsD.slice Tryz.underlying23 (by kernel_rfl) rd119 (by decide)
instance rg_api_HistoryEvent : Rg api_HistoryEvent := ⟨fun x => Rg.rg x.Kind ∧ Rg.rg x.Write⟩
theorem rd58 : ReadsD Tryz.prog 58 (api_HistoryEvent) := (@Reads.struct Tryz.prog 58 _ (Int × Int × Unit) (@datProd _ _ (datD (Int)) (@datProd _ _ (datD (Int)) datUnit)) Tryz.underlying58 (by kernel_rfl) (@Fields.cons _ _ _ _ _ _ (datD (Int)) _ rfl rd3 (@Fields.cons _ _ _ _ _ _ (datD (Int)) _ rfl rd3 (.nil _)))).map rfl fun {H cs a} h => by
  obtain ⟨a0, a1, _⟩ := a
  obtain ⟨_, _, rfl, ⟨rfl, r0⟩, _, _, rfl, ⟨rfl, r1⟩, hz⟩ := h
  cases hz
  exact ⟨⟨a0, a1⟩, rfl, r0, r1⟩
theorem rd24 : ReadsD Tryz.prog 24 (List api_HistoryEvent) := ReadsD.slice Tryz.underlying24 (by kernel_rfl) rd58 (by decide)
instance rg_api_History : Rg api_History := ⟨fun x => Rg.rg x.Sizes ∧ Rg.rg x.Writes ∧ Rg.rg x.Events⟩
theorem rd26 : ReadsD Tryz.prog 26 (api_History) := (@Reads.struct Tryz.prog 26 _ (List Int × List api_Write × List api_HistoryEvent × Unit) (@datProd _ _ (datD (List Int)) (@datProd _ _ (datD (List api_Write)) (@datProd _ _ (datD (List api_HistoryEvent)) datUnit))) Tryz.underlying26 (by kernel_rfl) (@Fields.cons _ _ _ _ _ _ (datD (List Int)) _ rfl rd22 (@Fields.cons _ _ _ _ _ _ (datD (List api_Write)) _ rfl rd23 (@Fields.cons _ _ _ _ _ _ (datD (List api_HistoryEvent)) _ rfl rd24 (.nil _))))).map rfl fun {H cs a} h => by
  obtain ⟨a0, a1, a2, _⟩ := a
  obtain ⟨_, _, rfl, ⟨⟨A7, n7, c7, s7, rfl, hF7⟩, r0⟩, _, _, rfl, ⟨⟨A9, n9, c9, s9, rfl, hF9⟩, r1⟩, _, _, rfl, ⟨⟨A11, n11, c11, s11, rfl, hF11⟩, r2⟩, hz⟩ := h
  cases hz
  exact ⟨⟨a0, a1, a2⟩, ⟨A7, n7, c7, s7, A9, n9, c9, s9, A11, n11, c11, s11, rfl, hF7, hF9, hF11⟩, r0, r1, r2⟩
instance rg_standbylaw16_Sets : Rg standbylaw16_Sets := ⟨fun x => Rg.rg x.A ∧ Rg.rg x.B⟩
end Go.Proofs.YtpmjodnmnffmhaaGreatDoor
namespace Go.Proofs.YtpmjodnmnffmhaaGreatDoor
open Go.RowKit Go.ChangeShapes Go.WideShapes Go.ChangeAt
theorem Tryz.own : ownKnob Tryz.prog.godebug = none := by kernel_rfl
theorem Tryz.laidOut : laidOutB Tryz.prog = true := by kernel_rfl
theorem Tryz.doorMet (os : Os) (args : Array Value) : laidMetH Tryz.prog [("math/bits.deBruijn32tab", Rows.laid_math_bits_deBruijn32tab), ("math/bits.deBruijn64tab", Rows.laid_math_bits_deBruijn64tab), ("internal/strconv.uint64pow10", Rows.laid_internal_strconv_uint64pow10)] ((World.doorLaid Tryz.prog 24 os).forCall (fun _ _ => 0) ⟨#[], args, []⟩).memory :=
  laidMetH_of_parts3 (fuel := 8) (laidMet_of_run' 8 (by kernel_rfl) (by kernel_rfl)) (by kernel_rfl) (by kernel_rfl)
theorem lawRes (y : TupD DD [4]) (hy : y.1 = true) {H : Hp} {v : Value} {L : List Ent} (hr : ResR Tryz.prog tab [4] [[false]] y H v L) : ∃ z, z = true ∧ v = .bool z ∧ L = [] := by
  obtain ⟨ρ, _, _, _, _, h1, h2⟩ := hr 0 (fun _ => none) (fun _ _ => rfl) _ _ _ (show resE Tryz.prog tab _ _ y 0 = some (.b y.1, [], 0) by kernel_rfl)
  exact ⟨y.1, hy, h1, h2⟩
theorem pkw26 (v : Value) (cs : List Value) : PkR Tryz.prog 26 v cs = (v = .agg cs.toArray) := by kernel_rfl
theorem pkw3 (v : Value) (cs : List Value) : PkR Tryz.prog 3 v cs = (cs = [v]) := by kernel_rfl
end Go.Proofs.YtpmjodnmnffmhaaGreatDoor
namespace Go.Proofs.YtpmjodnmnffmhaaGreatDoor
open Go.RowKit
def ref15_Few_L2 (x0 : api_History) (Φ : Bool → Prop) : (Int) → ((Int) → Prop) → Prop
  | v2, rec2 =>
    (v2 < (x0.Writes.length : Int) →
      inX v2 x0.Writes.length ∧
      (30 < (((ix x0.Writes v2).Data).length : Int) →
        Φ false) ∧
      (¬ (30 < (((ix x0.Writes v2).Data).length : Int)) →
        inI (v2 + 1) ∧
        rec2 (v2 + 1))) ∧
    (¬ (v2 < (x0.Writes.length : Int)) →
      Φ true)
def ref15_Few_L1 (x0 : api_History) (Φ : Bool → Prop) : (Int) → ((Int) → Prop) → Prop
  | v1, rec1 =>
    (v1 < (x0.Sizes.length : Int) →
      inX v1 x0.Sizes.length ∧
      (24 < (ix x0.Sizes v1) →
        Φ false) ∧
      (¬ (24 < (ix x0.Sizes v1)) →
        inI (v1 + 1) ∧
        rec1 (v1 + 1))) ∧
    (¬ (v1 < (x0.Sizes.length : Int)) →
      LoopW (ref15_Few_L2 x0 Φ) 0)
def ref15_Few_W (x0 : api_History) (Φ : Bool → Prop) : Prop :=
  (9 < (x0.Sizes.length : Int) →
    Φ false) ∧
  (¬ (9 < (x0.Sizes.length : Int)) →
    (40 < (x0.Writes.length : Int) →
      Φ false) ∧
    (¬ (40 < (x0.Writes.length : Int)) →
      (90 < (x0.Events.length : Int) →
        Φ false) ∧
      (¬ (90 < (x0.Events.length : Int)) →
        LoopW (ref15_Few_L1 x0 Φ) 0)))
def law16_few_1_W (x0 : List Int) (Φ : Bool → Prop) : Prop :=
  Φ (decide (60 < (x0.length : Int)))
def law16_few_L1 (x1 : List (List Int)) (Φ : Bool → Prop) : (Int) → ((Int) → Prop) → Prop
  | v2, rec1 =>
    (v2 < (x1.length : Int) →
      inX v2 x1.length ∧
      law16_few_1_W (ix x1 v2) fun v3 =>
        (v3 = true →
          Φ (decide (¬ (0 ≤ v2)))) ∧
        (¬ (v3 = true) →
          inI (v2 + 1) ∧
          rec1 (v2 + 1))) ∧
    (¬ (v2 < (x1.length : Int)) →
      Φ (decide (¬ (0 ≤ ((-1) : Int)))))
def law16_few_W (x0 : api_History) (x1 : List (List Int)) (Φ : Bool → Prop) : Prop :=
  ref15_Few_W x0 fun v1 =>
    (v1 = true →
      LoopW (law16_few_L1 x1 Φ) 0) ∧
    (¬ (v1 = true) →
      Φ false)
def law16_example_1_W (x0 : Int) (Φ : api_Write → Prop) : Prop :=
  inI (x0 + 1) ∧
  Φ (api_Write.mk 0 x0 ([(Sec.mk (BitVec.ofInt 8 (x0 + 1)) (0#8) (0#8) (0#8) (0#8) (0#8) (0#8) (0#8))] : List Sec))
def law16_example_2_W (x0 : Int) (Φ : api_HistoryEvent → Prop) : Prop :=
  Φ (api_HistoryEvent.mk 0 x0)
def law16_example_3_W (x0 : Int) (Φ : api_HistoryEvent → Prop) : Prop :=
  Φ (api_HistoryEvent.mk 1 x0)
def law16_example_W (Φ : api_History → Prop) : Prop :=
  law16_example_1_W 0 fun v1 =>
    law16_example_1_W 1 fun v2 =>
      law16_example_1_W 2 fun v3 =>
        law16_example_2_W 0 fun v4 =>
          law16_example_2_W 1 fun v5 =>
            law16_example_3_W 0 fun v6 =>
              law16_example_2_W 2 fun v7 =>
                law16_example_3_W 2 fun v8 =>
                  Φ (api_History.mk ([3] : List Int) ([v1, v2, v3] : List api_Write) ([v4, v5, v6, v7, v8] : List api_HistoryEvent))
def image_checkSizes_1_W (x0 : Int) (Φ : Bool → Prop) : Prop :=
  (x0 < 1 →
    Φ true) ∧
  (¬ (x0 < 1) →
    Φ (decide (4096 < x0)))
def image_checkSizes_L1 (x0 : List Int) (Φ : Int → Prop) : (Int) → ((Int) → Prop) → Prop
  | v1, rec1 =>
    (v1 < (x0.length : Int) →
      inX v1 x0.length ∧
      image_checkSizes_1_W (ix x0 v1) fun v2 =>
        (v2 = true →
          (0 ≤ v1 →
            Φ 2) ∧
          (¬ (0 ≤ v1) →
            Φ 0)) ∧
        (¬ (v2 = true) →
          inI (v1 + 1) ∧
          rec1 (v1 + 1))) ∧
    (¬ (v1 < (x0.length : Int)) →
      (0 ≤ ((-1) : Int) →
        Φ 2) ∧
      (¬ (0 ≤ ((-1) : Int)) →
        Φ 0))
def image_checkSizes_W (x0 : List Int) (Φ : Int → Prop) : Prop :=
  ((x0.length : Int) < 1 →
    Φ 6) ∧
  (¬ ((x0.length : Int) < 1) →
    (8 < (x0.length : Int) →
      Φ 6) ∧
    (¬ (8 < (x0.length : Int)) →
      LoopW (image_checkSizes_L1 x0 Φ) 0))
def image_New_1_W (x0 : Int) (Φ : List Sec → Prop) : Prop :=
  0 ≤ x0 ∧
  lenOk x0.toNat 8 ∧
  Φ (List.replicate x0.toNat (sec0 : Sec))
def image_New_L1 (x0 : List Int) (Φ : List (List Sec) × Int → Prop) : (Int × List (List Sec)) → ((Int × List (List Sec)) → Prop) → Prop
  | (v2, v3), rec1 =>
    (v2 < (x0.length : Int) →
      inX v2 x0.length ∧
      image_New_1_W (ix x0 v2) fun v4 =>
        lenOk (v3 ++ ([v4] : List (List Sec))).length 24 ∧
        inI (v2 + 1) ∧
        rec1 ((v2 + 1), (v3 ++ ([v4] : List (List Sec))))) ∧
    (¬ (v2 < (x0.length : Int)) →
      Φ (v3, 0))
def image_New_W (x0 : List Int) (Φ : List (List Sec) × Int → Prop) : Prop :=
  image_checkSizes_W x0 fun v1 =>
    (v1 ≠ 0 →
      Φ (([] : List (List Sec)), v1)) ∧
    (¬ (v1 ≠ 0) →
      0 ≤ (x0.length : Int) ∧
      lenOk (x0.length : Int).toNat 24 ∧
      LoopW (image_New_L1 x0 Φ) (0, ([] : List (List Sec))))
def image_sizes_1_W (x0 : List Sec) (Φ : Int → Prop) : Prop :=
  Φ (x0.length : Int)
def image_sizes_L1 (x0 : List (List Sec)) (Φ : List Int → Prop) : (Int × List Int) → ((Int × List Int) → Prop) → Prop
  | (v1, v2), rec1 =>
    (v1 < (x0.length : Int) →
      inX v1 x0.length ∧
      image_sizes_1_W (ix x0 v1) fun v3 =>
        lenOk (v2 ++ ([v3] : List Int)).length 8 ∧
        inI (v1 + 1) ∧
        rec1 ((v1 + 1), (v2 ++ ([v3] : List Int)))) ∧
    (¬ (v1 < (x0.length : Int)) →
      Φ v2)
def image_sizes_W (x0 : List (List Sec)) (Φ : List Int → Prop) : Prop :=
  0 ≤ (x0.length : Int) ∧
  lenOk (x0.length : Int).toNat 8 ∧
  LoopW (image_sizes_L1 x0 Φ) (0, ([] : List Int))
def image_Check_W (x0 : List (List Sec)) (Φ : Int → Prop) : Prop :=
  image_sizes_W x0 fun v1 =>
    image_checkSizes_W v1 fun v2 =>
      Φ v2
def image_fits_J1 (x0 : List (List Sec)) (x1 : api_Write) (Φ : Int → Prop) : Bool → Prop
  | v1 =>
    (v1 = true →
      Φ 7) ∧
    (¬ (v1 = true) →
      ((x1.Data.length : Int) = 0 →
        Φ 1) ∧
      (¬ ((x1.Data.length : Int) = 0) →
        (x1.Start < 0 →
          Φ 2) ∧
        (¬ (x1.Start < 0) →
          inX x1.Volume x0.length ∧
          inI (((ix x0 x1.Volume).length : Int) - (x1.Data.length : Int)) ∧
          ((((ix x0 x1.Volume).length : Int) - (x1.Data.length : Int)) < x1.Start →
            Φ 2) ∧
          (¬ ((((ix x0 x1.Volume).length : Int) - (x1.Data.length : Int)) < x1.Start) →
            Φ 0))))
def image_fits_W (x0 : List (List Sec)) (x1 : api_Write) (Φ : Int → Prop) : Prop :=
  Join (image_fits_J1 x0 x1 Φ) fun J1 =>
    (x1.Volume < 0 →
      J1 true) ∧
    (¬ (x1.Volume < 0) →
      J1 (decide ((x0.length : Int) ≤ x1.Volume)))
def image_Fits_W (x0 : List (List Sec)) (x1 : api_Write) (Φ : Int → Prop) : Prop :=
  image_Check_W x0 fun v1 =>
    (v1 ≠ 0 →
      Φ v1) ∧
    (¬ (v1 ≠ 0) →
      image_fits_W x0 x1 fun v2 =>
        Φ v2)
def history_check_J3 (v4 : Int) (rec2 : (Int × List Int × List Int) → Prop) (Φ : history_checked × Int → Prop) : Int × List Int × List Int → Prop
  | (v7, v8, v9) =>
    (v7 ≠ 0 →
      Φ ((history_checked.mk (api_History.mk ([] : List Int) ([] : List api_Write) ([] : List api_HistoryEvent)) (history_timeline.mk ([] : List Int) ([] : List Int))), v7)) ∧
    (¬ (v7 ≠ 0) →
      inI (v4 + 1) ∧
      rec2 ((v4 + 1), v8, v9))
def history_check_L2 (x0 : api_History) (Φ : history_checked × Int → Prop) : (Int × List Int × List Int) → ((Int × List Int × List Int) → Prop) → Prop
  | (v4, v5, v6), rec2 =>
    (v4 < (x0.Events.length : Int) →
      inX v4 x0.Events.length ∧
      Join (history_check_J3 v4 rec2 Φ) fun J3 =>
        (((ix x0.Events v4).Kind) = 0 →
          (((ix x0.Events v4).Write) ≠ (v5.length : Int) →
            J3 (3, v5, v6)) ∧
          (¬ (((ix x0.Events v4).Write) ≠ (v5.length : Int)) →
            ((x0.Writes.length : Int) ≤ ((ix x0.Events v4).Write) →
              J3 (3, v5, v6)) ∧
            (¬ ((x0.Writes.length : Int) ≤ ((ix x0.Events v4).Write)) →
              lenOk (v5 ++ ([v4] : List Int)).length 8 ∧
              lenOk (v6 ++ ([(-1)] : List Int)).length 8 ∧
              J3 (0, (v5 ++ ([v4] : List Int)), (v6 ++ ([(-1)] : List Int)))))) ∧
        (¬ (((ix x0.Events v4).Kind) = 0) →
          (((ix x0.Events v4).Kind) = 1 →
            (((ix x0.Events v4).Write) < 0 →
              J3 (7, v5, v6)) ∧
            (¬ (((ix x0.Events v4).Write) < 0) →
              ((v5.length : Int) ≤ ((ix x0.Events v4).Write) →
                J3 (7, v5, v6)) ∧
              (¬ ((v5.length : Int) ≤ ((ix x0.Events v4).Write)) →
                inX ((ix x0.Events v4).Write) v6.length ∧
                (0 ≤ (ix v6 ((ix x0.Events v4).Write)) →
                  J3 (8, v5, v6)) ∧
                (¬ (0 ≤ (ix v6 ((ix x0.Events v4).Write))) →
                  inX ((ix x0.Events v4).Write) v6.length ∧
                  J3 (0, v5, (put v6 ((ix x0.Events v4).Write) v4)))))) ∧
          (¬ (((ix x0.Events v4).Kind) = 1) →
            J3 (3, v5, v6)))) ∧
    (¬ (v4 < (x0.Events.length : Int)) →
      ((v5.length : Int) < (x0.Writes.length : Int) →
        Φ ((history_checked.mk (api_History.mk ([] : List Int) ([] : List api_Write) ([] : List api_HistoryEvent)) (history_timeline.mk ([] : List Int) ([] : List Int))), 3)) ∧
      (¬ ((v5.length : Int) < (x0.Writes.length : Int)) →
        Φ ((history_checked.mk x0 (history_timeline.mk v5 v6)), 0)))
def history_check_L1 (x0 : api_History) (v1 : List (List Sec) × Int) (Φ : history_checked × Int → Prop) : (Int) → ((Int) → Prop) → Prop
  | v2, rec1 =>
    (v2 < (x0.Writes.length : Int) →
      inX v2 x0.Writes.length ∧
      image_Fits_W v1.1 (ix x0.Writes v2) fun v3 =>
        (v3 ≠ 0 →
          Φ ((history_checked.mk (api_History.mk ([] : List Int) ([] : List api_Write) ([] : List api_HistoryEvent)) (history_timeline.mk ([] : List Int) ([] : List Int))), v3)) ∧
        (¬ (v3 ≠ 0) →
          inI (v2 + 1) ∧
          rec1 (v2 + 1))) ∧
    (¬ (v2 < (x0.Writes.length : Int)) →
      LoopW (history_check_L2 x0 Φ) (0, ([] : List Int), ([] : List Int)))
def history_check_W (x0 : api_History) (Φ : history_checked × Int → Prop) : Prop :=
  image_New_W x0.Sizes fun v1 =>
    (v1.2 ≠ 0 →
      Φ ((history_checked.mk (api_History.mk ([] : List Int) ([] : List api_Write) ([] : List api_HistoryEvent)) (history_timeline.mk ([] : List Int) ([] : List Int))), v1.2)) ∧
    (¬ (v1.2 ≠ 0) →
      (4096 < (x0.Writes.length : Int) →
        Φ ((history_checked.mk (api_History.mk ([] : List Int) ([] : List api_Write) ([] : List api_HistoryEvent)) (history_timeline.mk ([] : List Int) ([] : List Int))), 6)) ∧
      (¬ (4096 < (x0.Writes.length : Int)) →
        LoopW (history_check_L1 x0 v1 Φ) 0))
def history_Check_W (x0 : api_History) (Φ : Int → Prop) : Prop :=
  history_check_W x0 fun v1 =>
    Φ v1.2
def math_bits_Mul64_W (x0 : BitVec 64) (x1 : BitVec 64) (Φ : BitVec 64 × BitVec 64 → Prop) : Prop :=
  Φ (((((x0 >>> ((32#64).toNat : Int).toNat) * (x1 >>> ((32#64).toNat : Int).toNat)) + ((((x0 >>> ((32#64).toNat : Int).toNat) * (x1 &&& (4294967295#64))) + (((x0 &&& (4294967295#64)) * (x1 &&& (4294967295#64))) >>> ((32#64).toNat : Int).toNat)) >>> ((32#64).toNat : Int).toNat)) + ((((((x0 >>> ((32#64).toNat : Int).toNat) * (x1 &&& (4294967295#64))) + (((x0 &&& (4294967295#64)) * (x1 &&& (4294967295#64))) >>> ((32#64).toNat : Int).toNat)) &&& (4294967295#64)) + ((x0 &&& (4294967295#64)) * (x1 >>> ((32#64).toNat : Int).toNat))) >>> ((32#64).toNat : Int).toNat)), (x0 * x1))
def math_bits_Mul_W (x0 : BitVec 64) (x1 : BitVec 64) (Φ : BitVec 64 × BitVec 64 → Prop) : Prop :=
  math_bits_Mul64_W x0 x1 fun v1 =>
    Φ (v1.1, v1.2)
def slices_Repeat_int_int_L2 (Φ : List Int → Prop) : (Int × List Int) → ((Int × List Int) → Prop) → Prop
  | (v3, v4), rec2 =>
    (v3 < (v4.length : Int) →
      inS v3 (v4.length : Int) v4.length ∧
      inS 0 v3 v4.length ∧
      inI (v3 + ((min (sub v4 0 v3).length (v4.length - (v3 : Int).toNat) : Nat) : Int)) ∧
      rec2 ((v3 + ((min (sub v4 0 v3).length (v4.length - (v3 : Int).toNat) : Nat) : Int)), (paste v4 v3 (sub v4 0 v3)))) ∧
    (¬ (v3 < (v4.length : Int)) →
      Φ v4)
def slices_Repeat_int_int_J1 (x0 : List Int) (v1 : BitVec 64 × BitVec 64) (Φ : List Int → Prop) : Bool → Prop
  | v2 =>
    (v2 = true →
      False) ∧
    (¬ (v2 = true) →
      0 ≤ v1.2.toInt ∧
      lenOk v1.2.toInt.toNat 8 ∧
      LoopW (slices_Repeat_int_int_L2 Φ) (((min x0.length ((List.replicate v1.2.toInt.toNat (0 : Int)).length - (0 : Int).toNat) : Nat) : Int), (paste (List.replicate v1.2.toInt.toNat (0 : Int)) 0 x0)))
def slices_Repeat_int_int_W (x0 : List Int) (x1 : Int) (Φ : List Int → Prop) : Prop :=
  (x1 < 0 →
    False) ∧
  (¬ (x1 < 0) →
    math_bits_Mul_W (BitVec.ofInt 64 (x0.length : Int)) (BitVec.ofInt 64 x1) fun v1 =>
      Join (slices_Repeat_int_int_J1 x0 v1 Φ) fun J1 =>
        ((0#64) < v1.1 →
          J1 true) ∧
        (¬ ((0#64) < v1.1) →
          J1 (decide ((9223372036854775807#64) < v1.2))))
def cut_relation_mark_J2 (x1 : List Int) (v1 : Int) (v2 : List Bool) (rec1 : (Int × List Bool) → Prop) (Φ : List Bool × Bool → Prop) : Bool → Prop
  | v3 =>
    (v3 = true →
      Φ (([] : List Bool), false)) ∧
    (¬ (v3 = true) →
      inX (ix x1 v1) v2.length ∧
      inI (v1 + 1) ∧
      rec1 ((v1 + 1), (put v2 (ix x1 v1) true)))
def cut_relation_mark_L1 (x0 : Ptr cut_relation) (x1 : List Int) (Φ : List Bool × Bool → Prop) : (Int × List Bool) → ((Int × List Bool) → Prop) → Prop
  | (v1, v2), rec1 =>
    (v1 < (x1.length : Int) →
      inX v1 x1.length ∧
      Join (cut_relation_mark_J2 x1 v1 v2 rec1 Φ) fun J2 =>
        ((ix x1 v1) < 0 →
          J2 true) ∧
        (¬ ((ix x1 v1) < 0) →
          (x0.val.n ≤ (ix x1 v1) →
            J2 true) ∧
          (¬ (x0.val.n ≤ (ix x1 v1)) →
            (0 < v1 →
              inI (v1 - 1) ∧
              inX (v1 - 1) x1.length ∧
              J2 (decide ((ix x1 v1) ≤ (ix x1 (v1 - 1))))) ∧
            (¬ (0 < v1) →
              J2 false)))) ∧
    (¬ (v1 < (x1.length : Int)) →
      Φ (v2, true))
def cut_relation_mark_W (x0 : Ptr cut_relation) (x1 : List Int) (Φ : List Bool × Bool → Prop) : Prop :=
  0 ≤ x0.val.n ∧
  lenOk x0.val.n.toNat 1 ∧
  LoopW (cut_relation_mark_L1 x0 x1 Φ) (0, (List.replicate x0.val.n.toNat (false : Bool)))
def cut_relation_before_W (x0 : Ptr cut_relation) (x1 : Int) (x2 : Int) (Φ : Bool → Prop) : Prop :=
  inX x1 x0.val.acked.length ∧
  inX x2 x0.val.issued.length ∧
  Φ (decide ((ix x0.val.acked x1) < (ix x0.val.issued x2)))
def cut_relation_ready_L1 (x0 : Ptr cut_relation) (x1 : List Bool) (x2 : Int) (Φ : Bool → Prop) : (Int) → ((Int) → Prop) → Prop
  | v1, rec1 =>
    (v1 < x0.val.n →
      cut_relation_before_W x0 v1 x2 fun v2 =>
        (v2 = true →
          inX v1 x1.length ∧
          (¬ ((ix x1 v1) = true) →
            Φ false) ∧
          (¬ (¬ ((ix x1 v1) = true)) →
            inI (v1 + 1) ∧
            rec1 (v1 + 1))) ∧
        (¬ (v2 = true) →
          inI (v1 + 1) ∧
          rec1 (v1 + 1))) ∧
    (¬ (v1 < x0.val.n) →
      Φ true)
def cut_relation_ready_W (x0 : Ptr cut_relation) (x1 : List Bool) (x2 : Int) (Φ : Bool → Prop) : Prop :=
  LoopW (cut_relation_ready_L1 x0 x1 x2 Φ) 0
def slices_Clone_int_int_W (x0 : List Int) (Φ : List Int → Prop) : Prop :=
  (x0 = [] →
    Φ ([] : List Int)) ∧
  (
    lenOk (([] : List Int) ++ x0).length 8 ∧
    Φ (([] : List Int) ++ x0))
def slices_Sort_int_int_W (xs : List (Int)) (Φ : List (Int) → Prop) : Prop := xs.length ≤ 1099511627776 ∧ Φ (sortI xs)
def digS (n : Int) : List UInt8 := if n < 10 then [UInt8.ofNat (48 + n.toNat), 32] else [UInt8.ofNat (48 + n.toNat / 10), UInt8.ofNat (48 + n.toNat % 10), 32]
def textS (l : List Int) : ByteArray := ⟨(l.flatMap digS).toArray⟩
def smallB (l : List Int) : Bool := Nat.ble l.length 4096 && l.all fun n => decide (0 ≤ n) && decide (n < 100)
def cut_text_W (x0 : List Int) (Φ : ByteArray → Prop) : Prop :=
  smallB x0 = true ∧ Φ (textS x0)
def slices_SortFunc_int_int_W (xs : List (List Int)) (Φ : List (List Int) → Prop) : Prop := xs.length ≤ 1099511627776 ∧ Φ (sortL xs)
def cut_relation_next_J4 (x2 : Int) (v5 : Int) (rec2 : (Int × (List (ByteArray × Bool)) × List (List Int)) → Prop) (Φ : List (List Int) × Bool → Prop) : (List (ByteArray × Bool)) × List (List Int) → Prop
  | (v11, v12) =>
    (x2 < (v12.length : Int) →
      Φ (([] : List (List Int)), false)) ∧
    (¬ (x2 < (v12.length : Int)) →
      inI (v5 + 1) ∧
      rec2 ((v5 + 1), v11, v12))
def cut_relation_next_J3 (x1 : List (List Int)) (x2 : Int) (v1 : Int) (v5 : Int) (v6 : List (ByteArray × Bool)) (v7 : List (List Int)) (rec2 : (Int × (List (ByteArray × Bool)) × List (List Int)) → Prop) (Φ : List (List Int) × Bool → Prop) : Bool → Prop
  | v8 =>
    (v8 = true →
      inI (v5 + 1) ∧
      rec2 ((v5 + 1), v6, v7)) ∧
    (¬ (v8 = true) →
      slices_Clone_int_int_W (ix x1 v1) fun v9 =>
        lenOk (v9 ++ ([v5] : List Int)).length 8 ∧
        slices_Sort_int_int_W (v9 ++ ([v5] : List Int)) fun v10 =>
          Join (cut_relation_next_J4 x2 v5 rec2 Φ) fun J4 =>
            cut_text_W v10 fun v13 =>
              (¬ ((mget v6 v13 false) = true) →
                lenOk (v7 ++ ([v10] : List (List Int))).length 24 ∧
                J4 ((mput v6 v13 true), (v7 ++ ([v10] : List (List Int))))) ∧
              (¬ (¬ ((mget v6 v13 false) = true)) →
                J4 (v6, v7)))
def cut_relation_next_L2 (x0 : Ptr cut_relation) (x1 : List (List Int)) (x2 : Int) (v1 : Int) (rec1 : (Int × (List (ByteArray × Bool)) × List (List Int)) → Prop) (v4 : List Bool × Bool) (Φ : List (List Int) × Bool → Prop) : (Int × (List (ByteArray × Bool)) × List (List Int)) → ((Int × (List (ByteArray × Bool)) × List (List Int)) → Prop) → Prop
  | (v5, v6, v7), rec2 =>
    (v5 < x0.val.n →
      Join (cut_relation_next_J3 x1 x2 v1 v5 v6 v7 rec2 Φ) fun J3 =>
        inX v5 v4.1.length ∧
        ((ix v4.1 v5) = true →
          J3 true) ∧
        (¬ ((ix v4.1 v5) = true) →
          cut_relation_ready_W x0 v4.1 v5 fun v14 =>
            J3 (decide (¬ (v14 = true))))) ∧
    (¬ (v5 < x0.val.n) →
      inI (v1 + 1) ∧
      rec1 ((v1 + 1), v6, v7))
def cut_relation_next_L1 (x0 : Ptr cut_relation) (x1 : List (List Int)) (x2 : Int) (Φ : List (List Int) × Bool → Prop) : (Int × (List (ByteArray × Bool)) × List (List Int)) → ((Int × (List (ByteArray × Bool)) × List (List Int)) → Prop) → Prop
  | (v1, v2, v3), rec1 =>
    (v1 < (x1.length : Int) →
      inX v1 x1.length ∧
      cut_relation_mark_W x0 (ix x1 v1) fun v4 =>
        LoopW (cut_relation_next_L2 x0 x1 x2 v1 rec1 v4 Φ) (0, v2, v3)) ∧
    (¬ (v1 < (x1.length : Int)) →
      slices_SortFunc_int_int_W v3 fun v15 =>
        Φ (v15, true))
def cut_relation_next_W (x0 : Ptr cut_relation) (x1 : List (List Int)) (x2 : Int) (Φ : List (List Int) × Bool → Prop) : Prop :=
  LoopW (cut_relation_next_L1 x0 x1 x2 Φ) (0, ([] : List (ByteArray × Bool)), ([] : List (List Int)))
def cut_All_L2 (x1 : Int) (Φ : List (List Int) × Int → Prop) : (Unit) → ((Unit) → Prop) → Prop
  | _, _ =>
    (0 < (([([] : List Int)] : List (List Int)).length : Int) →
      inI (0 + (([([] : List Int)] : List (List Int)).length : Int)) ∧
      (x1 < (0 + (([([] : List Int)] : List (List Int)).length : Int)) →
        Φ (([] : List (List Int)), 6)) ∧
      (¬ (x1 < (0 + (([([] : List Int)] : List (List Int)).length : Int))) →
        lenOk ([([] : List Int)] : List (List Int)).length 24 ∧
        inI (x1 - (([([] : List Int)] : List (List Int)).length : Int)) ∧
        False)) ∧
    (¬ (0 < (([([] : List Int)] : List (List Int)).length : Int)) →
      Φ (([] : List (List Int)), 0))
def cut_All_J1 (x1 : Int) (Φ : List (List Int) × Int → Prop) : Bool → Prop
  | v2 =>
    (v2 = true →
      Φ (([] : List (List Int)), 2)) ∧
    (¬ (v2 = true) →
      LoopW (cut_All_L2 x1 Φ) ())
def cut_All_L5 (x0 : api_History) (x1 : Int) (v6 : List Int) (v7 : List Int) (Φ : List (List Int) × Int → Prop) : (List (List Int) × List (List Int)) → ((List (List Int) × List (List Int)) → Prop) → Prop
  | (v9, v10), rec5 =>
    (0 < (v10.length : Int) →
      inI ((v9.length : Int) + (v10.length : Int)) ∧
      (x1 < ((v9.length : Int) + (v10.length : Int)) →
        Φ (([] : List (List Int)), 6)) ∧
      (¬ (x1 < ((v9.length : Int) + (v10.length : Int))) →
        lenOk (v9 ++ v10).length 24 ∧
        inI (x1 - ((v9 ++ v10).length : Int)) ∧
        cut_relation_next_W (Ptr.mk (cut_relation.mk (x0.Writes.length : Int) (x0.Events.length : Int) v6 v7)) v10 (x1 - ((v9 ++ v10).length : Int)) fun v11 =>
          (¬ (v11.2 = true) →
            Φ (([] : List (List Int)), 6)) ∧
          (¬ (¬ (v11.2 = true)) →
            rec5 ((v9 ++ v10), v11.1)))) ∧
    (¬ (0 < (v10.length : Int)) →
      Φ (v9, 0))
def cut_All_J4 (x0 : api_History) (x1 : Int) (v6 : List Int) (v7 : List Int) (Φ : List (List Int) × Int → Prop) : Bool → Prop
  | v8 =>
    (v8 = true →
      Φ (([] : List (List Int)), 2)) ∧
    (¬ (v8 = true) →
      LoopW (cut_All_L5 x0 x1 v6 v7 Φ) (([] : List (List Int)), ([([] : List Int)] : List (List Int))))
def cut_All_L3 (x0 : api_History) (x1 : Int) (Φ : List (List Int) × Int → Prop) : (Int × List Int × List Int) → ((Int × List Int × List Int) → Prop) → Prop
  | (v5, v6, v7), rec3 =>
    (v5 < (x0.Events.length : Int) →
      inX v5 x0.Events.length ∧
      (((ix x0.Events v5).Kind) = 0 →
        inX ((ix x0.Events v5).Write) v6.length ∧
        inI (v5 + 1) ∧
        rec3 ((v5 + 1), (put v6 ((ix x0.Events v5).Write) v5), v7)) ∧
      (¬ (((ix x0.Events v5).Kind) = 0) →
        inX ((ix x0.Events v5).Write) v7.length ∧
        inI (v5 + 1) ∧
        rec3 ((v5 + 1), v6, (put v7 ((ix x0.Events v5).Write) v5)))) ∧
    (¬ (v5 < (x0.Events.length : Int)) →
      ((0 : Int) ≠ 0 →
        Φ (([] : List (List Int)), 0)) ∧
      (¬ ((0 : Int) ≠ 0) →
        Join (cut_All_J4 x0 x1 v6 v7 Φ) fun J4 =>
          (x1 < 0 →
            J4 true) ∧
          (¬ (x1 < 0) →
            J4 (decide (4096 < x1)))))
def cut_All_W (x0 : api_History) (x1 : Int) (Φ : List (List Int) × Int → Prop) : Prop :=
  history_Check_W x0 fun v1 =>
    (v1 ≠ 0 →
      (v1 ≠ 0 →
        Φ (([] : List (List Int)), v1)) ∧
      (¬ (v1 ≠ 0) →
        Join (cut_All_J1 x1 Φ) fun J1 =>
          (x1 < 0 →
            J1 true) ∧
          (¬ (x1 < 0) →
            J1 (decide (4096 < x1))))) ∧
    (¬ (v1 ≠ 0) →
      ∃ v3 : List Int × Unit, slices_Repeat_int_int_W ([(x0.Events.length : Int)] : List Int) (x0.Writes.length : Int) (fun z => (z, ()) = v3) ∧
      ∃ v4 : List Int × Unit, slices_Repeat_int_int_W ([(x0.Events.length : Int)] : List Int) (x0.Writes.length : Int) (fun z => (z, ()) = v4) ∧
      LoopW (cut_All_L3 x0 x1 Φ) (0, v3.1, v4.1))
def slices_Clone_cut_marks_bool_W (x0 : List Bool) (Φ : List Bool → Prop) : Prop :=
  (x0 = [] →
    Φ ([] : List Bool)) ∧
  (
    lenOk (([] : List Bool) ++ x0).length 1 ∧
    Φ (([] : List Bool) ++ x0))
def cut_marks_members_1_L1 (x0 : List Bool) : (List (Int × Unit) × Int) → ((List (Int × Unit) × Int) → Prop) → Prop
  | (l1, v1), rec1 =>
    (v1 < (x0.length : Int) →
      inX v1 x0.length ∧
      ((ix x0 v1) = true →
        Yl l1 fun v2 r3 => (v1, ()) = v2 ∧ (
          inI (v1 + 1) ∧
          rec1 (r3, (v1 + 1))) ∧ (
          True)) ∧
      (¬ ((ix x0 v1) = true) →
        inI (v1 + 1) ∧
        rec1 (l1, (v1 + 1)))) ∧
    (¬ (v1 < (x0.length : Int)) →
      l1 = [])
def cut_marks_members_1_I (x0 : List Bool) (l : List (Int × Unit)) : Prop :=
  LoopW (cut_marks_members_1_L1 x0) (l, 0)
def cut_marks_list_L1 (Φ : List Int → Prop) : (List (Int × Unit) × List Int) → ((List (Int × Unit) × List Int) → Prop) → Prop
  | (lst, v1), rec1 =>
    match lst with
    | [] =>
      Φ v1
    | v2 :: r3 =>
      lenOk (v1 ++ ([v2.1] : List Int)).length 8 ∧
      rec1 (r3, (v1 ++ ([v2.1] : List Int)))
def cut_marks_list_W (x0 : List Bool) (Φ : List Int → Prop) : Prop :=
  ∃ l4 : List (Int × Unit), cut_marks_members_1_I x0 l4 ∧
  LoopW (cut_marks_list_L1 Φ) (l4, ([] : List Int))
def cut_Least_L1 (x1 : List Int) (Φ : List Int × Int → Prop) : (Unit) → ((Unit) → Prop) → Prop
  | _, _ =>
    (0 < (([x1] : List (List Int)).length : Int) →
      inX 0 ([x1] : List (List Int)).length ∧
      False) ∧
    (¬ (0 < (([x1] : List (List Int)).length : Int)) →
      ((0 : Int) ≠ 0 →
        Φ (([] : List Int), 0)) ∧
      (¬ ((0 : Int) ≠ 0) →
        False))
def cut_Least_L5 (x0 : api_History) (v5 : List Int) (v6 : List Int) (rec4 : (List (Int × Unit) × List Bool) → Prop) (v12 : Int × Unit) (r13 : List (Int × Unit)) (_ : List Int × Int → Prop) : (Int × List Bool) → ((Int × List Bool) → Prop) → Prop
  | (v14, v15), rec5 =>
    (v14 < (x0.Writes.length : Int) →
      inX v14 v15.length ∧
      ((ix v15 v14) = true →
        inX v14 v15.length ∧
        inI (v14 + 1) ∧
        rec5 ((v14 + 1), (put v15 v14 true))) ∧
      (¬ ((ix v15 v14) = true) →
        ∃ v16 : Bool × Unit, cut_relation_before_W (Ptr.mk (cut_relation.mk (x0.Writes.length : Int) (x0.Events.length : Int) v5 v6)) v14 v12.1 (fun z => (z, ()) = v16) ∧
        inX v14 v15.length ∧
        inI (v14 + 1) ∧
        rec5 ((v14 + 1), (put v15 v14 v16.1)))) ∧
    (¬ (v14 < (x0.Writes.length : Int)) →
      rec4 (r13, v15))
def cut_Least_L4 (x0 : api_History) (v5 : List Int) (v6 : List Int) (Φ : List Int × Int → Prop) : (List (Int × Unit) × List Bool) → ((List (Int × Unit) × List Bool) → Prop) → Prop
  | (lst, v11), rec4 =>
    match lst with
    | [] =>
      cut_marks_list_W v11 fun v17 =>
        Φ (v17, 0)
    | v12 :: r13 =>
      LoopW (cut_Least_L5 x0 v5 v6 rec4 v12 r13 Φ) (0, v11)
def cut_Least_L3 (x0 : api_History) (x1 : List Int) (v5 : List Int) (v6 : List Int) (Φ : List Int × Int → Prop) : (Int × List (List Bool)) → ((Int × List (List Bool)) → Prop) → Prop
  | (v7, v8), rec3 =>
    (v7 < (([x1] : List (List Int)).length : Int) →
      inX v7 ([x1] : List (List Int)).length ∧
      cut_relation_mark_W (Ptr.mk (cut_relation.mk (x0.Writes.length : Int) (x0.Events.length : Int) v5 v6)) (ix ([x1] : List (List Int)) v7) fun v9 =>
        (¬ (v9.2 = true) →
          ((2 : Int) ≠ 0 →
            Φ (([] : List Int), 2)) ∧
          (¬ ((2 : Int) ≠ 0) →
            False)) ∧
        (¬ (¬ (v9.2 = true)) →
          lenOk (v8 ++ ([v9.1] : List (List Bool))).length 24 ∧
          inI (v7 + 1) ∧
          rec3 ((v7 + 1), (v8 ++ ([v9.1] : List (List Bool)))))) ∧
    (¬ (v7 < (([x1] : List (List Int)).length : Int)) →
      ((0 : Int) ≠ 0 →
        Φ (([] : List Int), 0)) ∧
      (¬ ((0 : Int) ≠ 0) →
        inX 0 v8.length ∧
        slices_Clone_cut_marks_bool_W (ix v8 0) fun v10 =>
          inX 0 v8.length ∧
          ∃ l18 : List (Int × Unit), cut_marks_members_1_I (ix v8 0) l18 ∧
          LoopW (cut_Least_L4 x0 v5 v6 Φ) (l18, v10)))
def cut_Least_L2 (x0 : api_History) (x1 : List Int) (Φ : List Int × Int → Prop) : (Int × List Int × List Int) → ((Int × List Int × List Int) → Prop) → Prop
  | (v4, v5, v6), rec2 =>
    (v4 < (x0.Events.length : Int) →
      inX v4 x0.Events.length ∧
      (((ix x0.Events v4).Kind) = 0 →
        inX ((ix x0.Events v4).Write) v5.length ∧
        inI (v4 + 1) ∧
        rec2 ((v4 + 1), (put v5 ((ix x0.Events v4).Write) v4), v6)) ∧
      (¬ (((ix x0.Events v4).Kind) = 0) →
        inX ((ix x0.Events v4).Write) v6.length ∧
        inI (v4 + 1) ∧
        rec2 ((v4 + 1), v5, (put v6 ((ix x0.Events v4).Write) v4)))) ∧
    (¬ (v4 < (x0.Events.length : Int)) →
      ((0 : Int) ≠ 0 →
        ((0 : Int) ≠ 0 →
          Φ (([] : List Int), 0)) ∧
        (¬ ((0 : Int) ≠ 0) →
          False)) ∧
      (¬ ((0 : Int) ≠ 0) →
        LoopW (cut_Least_L3 x0 x1 v5 v6 Φ) (0, ([] : List (List Bool)))))
def cut_Least_W (x0 : api_History) (x1 : List Int) (Φ : List Int × Int → Prop) : Prop :=
  history_Check_W x0 fun v1 =>
    (v1 ≠ 0 →
      (v1 ≠ 0 →
        (v1 ≠ 0 →
          Φ (([] : List Int), v1)) ∧
        (¬ (v1 ≠ 0) →
          False)) ∧
      (¬ (v1 ≠ 0) →
        LoopW (cut_Least_L1 x1 Φ) ())) ∧
    (¬ (v1 ≠ 0) →
      ∃ v2 : List Int × Unit, slices_Repeat_int_int_W ([(x0.Events.length : Int)] : List Int) (x0.Writes.length : Int) (fun z => (z, ()) = v2) ∧
      ∃ v3 : List Int × Unit, slices_Repeat_int_int_W ([(x0.Events.length : Int)] : List Int) (x0.Writes.length : Int) (fun z => (z, ()) = v3) ∧
      LoopW (cut_Least_L2 x0 x1 Φ) (0, v2.1, v3.1))
def cut_Greatest_L1 (x1 : List Int) (Φ : List Int × Int → Prop) : (Unit) → ((Unit) → Prop) → Prop
  | _, _ =>
    (0 < (([x1] : List (List Int)).length : Int) →
      inX 0 ([x1] : List (List Int)).length ∧
      False) ∧
    (¬ (0 < (([x1] : List (List Int)).length : Int)) →
      ((0 : Int) ≠ 0 →
        Φ (([] : List Int), 0)) ∧
      (¬ ((0 : Int) ≠ 0) →
        False))
def cut_Greatest_L5 (x0 : api_History) (v5 : List Int) (v6 : List Int) (v8 : List (List Bool)) (rec4 : (List (Int × Unit) × List Bool) → Prop) (v12 : Int × Unit) (r13 : List (Int × Unit)) (_ : List Int × Int → Prop) : (Int × List Bool) → ((Int × List Bool) → Prop) → Prop
  | (v14, v15), rec5 =>
    (v14 < (x0.Writes.length : Int) →
      inX v12.1 v15.length ∧
      ((ix v15 v12.1) = true →
        inX 0 v8.length ∧
        inX v14 (ix v8 0).length ∧
        ((ix (ix v8 0) v14) = true →
          inX v12.1 v15.length ∧
          inI (v14 + 1) ∧
          rec5 ((v14 + 1), (put v15 v12.1 true))) ∧
        (¬ ((ix (ix v8 0) v14) = true) →
          ∃ v16 : Bool × Unit, cut_relation_before_W (Ptr.mk (cut_relation.mk (x0.Writes.length : Int) (x0.Events.length : Int) v5 v6)) v14 v12.1 (fun z => (z, ()) = v16) ∧
          inX v12.1 v15.length ∧
          inI (v14 + 1) ∧
          rec5 ((v14 + 1), (put v15 v12.1 (decide (¬ (v16.1 = true))))))) ∧
      (¬ ((ix v15 v12.1) = true) →
        inX v12.1 v15.length ∧
        inI (v14 + 1) ∧
        rec5 ((v14 + 1), (put v15 v12.1 false)))) ∧
    (¬ (v14 < (x0.Writes.length : Int)) →
      rec4 (r13, v15))
def cut_Greatest_L4 (x0 : api_History) (v5 : List Int) (v6 : List Int) (v8 : List (List Bool)) (Φ : List Int × Int → Prop) : (List (Int × Unit) × List Bool) → ((List (Int × Unit) × List Bool) → Prop) → Prop
  | (lst, v11), rec4 =>
    match lst with
    | [] =>
      cut_marks_list_W v11 fun v17 =>
        Φ (v17, 0)
    | v12 :: r13 =>
      LoopW (cut_Greatest_L5 x0 v5 v6 v8 rec4 v12 r13 Φ) (0, v11)
def cut_Greatest_L3 (x0 : api_History) (x1 : List Int) (v5 : List Int) (v6 : List Int) (Φ : List Int × Int → Prop) : (Int × List (List Bool)) → ((Int × List (List Bool)) → Prop) → Prop
  | (v7, v8), rec3 =>
    (v7 < (([x1] : List (List Int)).length : Int) →
      inX v7 ([x1] : List (List Int)).length ∧
      cut_relation_mark_W (Ptr.mk (cut_relation.mk (x0.Writes.length : Int) (x0.Events.length : Int) v5 v6)) (ix ([x1] : List (List Int)) v7) fun v9 =>
        (¬ (v9.2 = true) →
          ((2 : Int) ≠ 0 →
            Φ (([] : List Int), 2)) ∧
          (¬ ((2 : Int) ≠ 0) →
            False)) ∧
        (¬ (¬ (v9.2 = true)) →
          lenOk (v8 ++ ([v9.1] : List (List Bool))).length 24 ∧
          inI (v7 + 1) ∧
          rec3 ((v7 + 1), (v8 ++ ([v9.1] : List (List Bool)))))) ∧
    (¬ (v7 < (([x1] : List (List Int)).length : Int)) →
      ((0 : Int) ≠ 0 →
        Φ (([] : List Int), 0)) ∧
      (¬ ((0 : Int) ≠ 0) →
        inX 0 v8.length ∧
        slices_Clone_cut_marks_bool_W (ix v8 0) fun v10 =>
          inX 0 v8.length ∧
          ∃ l18 : List (Int × Unit), cut_marks_members_1_I (ix v8 0) l18 ∧
          LoopW (cut_Greatest_L4 x0 v5 v6 v8 Φ) (l18, v10)))
def cut_Greatest_L2 (x0 : api_History) (x1 : List Int) (Φ : List Int × Int → Prop) : (Int × List Int × List Int) → ((Int × List Int × List Int) → Prop) → Prop
  | (v4, v5, v6), rec2 =>
    (v4 < (x0.Events.length : Int) →
      inX v4 x0.Events.length ∧
      (((ix x0.Events v4).Kind) = 0 →
        inX ((ix x0.Events v4).Write) v5.length ∧
        inI (v4 + 1) ∧
        rec2 ((v4 + 1), (put v5 ((ix x0.Events v4).Write) v4), v6)) ∧
      (¬ (((ix x0.Events v4).Kind) = 0) →
        inX ((ix x0.Events v4).Write) v6.length ∧
        inI (v4 + 1) ∧
        rec2 ((v4 + 1), v5, (put v6 ((ix x0.Events v4).Write) v4)))) ∧
    (¬ (v4 < (x0.Events.length : Int)) →
      ((0 : Int) ≠ 0 →
        ((0 : Int) ≠ 0 →
          Φ (([] : List Int), 0)) ∧
        (¬ ((0 : Int) ≠ 0) →
          False)) ∧
      (¬ ((0 : Int) ≠ 0) →
        LoopW (cut_Greatest_L3 x0 x1 v5 v6 Φ) (0, ([] : List (List Bool)))))
def cut_Greatest_W (x0 : api_History) (x1 : List Int) (Φ : List Int × Int → Prop) : Prop :=
  history_Check_W x0 fun v1 =>
    (v1 ≠ 0 →
      (v1 ≠ 0 →
        (v1 ≠ 0 →
          Φ (([] : List Int), v1)) ∧
        (¬ (v1 ≠ 0) →
          False)) ∧
      (¬ (v1 ≠ 0) →
        LoopW (cut_Greatest_L1 x1 Φ) ())) ∧
    (¬ (v1 ≠ 0) →
      ∃ v2 : List Int × Unit, slices_Repeat_int_int_W ([(x0.Events.length : Int)] : List Int) (x0.Writes.length : Int) (fun z => (z, ()) = v2) ∧
      ∃ v3 : List Int × Unit, slices_Repeat_int_int_W ([(x0.Events.length : Int)] : List Int) (x0.Writes.length : Int) (fun z => (z, ()) = v3) ∧
      LoopW (cut_Greatest_L2 x0 x1 Φ) (0, v2.1, v3.1))
def cut_relation_closed_L2 (x0 : Ptr cut_relation) (x1 : List Bool) (rec1 : (List (Int × Unit) × Unit) → Prop) (v1 : Int × Unit) (r2 : List (Int × Unit)) (Φ : Bool → Prop) : (Int) → ((Int) → Prop) → Prop
  | v3, rec2 =>
    (v3 < x0.val.n →
      cut_relation_before_W x0 v3 v1.1 fun v4 =>
        (v4 = true →
          inX v3 x1.length ∧
          (¬ ((ix x1 v3) = true) →
            Φ false) ∧
          (¬ (¬ ((ix x1 v3) = true)) →
            inI (v3 + 1) ∧
            rec2 (v3 + 1))) ∧
        (¬ (v4 = true) →
          inI (v3 + 1) ∧
          rec2 (v3 + 1))) ∧
    (¬ (v3 < x0.val.n) →
      rec1 (r2, ()))
def cut_relation_closed_L1 (x0 : Ptr cut_relation) (x1 : List Bool) (Φ : Bool → Prop) : (List (Int × Unit) × Unit) → ((List (Int × Unit) × Unit) → Prop) → Prop
  | (lst, _), rec1 =>
    match lst with
    | [] =>
      Φ true
    | v1 :: r2 =>
      LoopW (cut_relation_closed_L2 x0 x1 rec1 v1 r2 Φ) 0
def cut_relation_closed_W (x0 : Ptr cut_relation) (x1 : List Bool) (Φ : Bool → Prop) : Prop :=
  ∃ l5 : List (Int × Unit), cut_marks_members_1_I x1 l5 ∧
  LoopW (cut_relation_closed_L1 x0 x1 Φ) (l5, ())
def cut_Frontier_L2 (Φ : List Int × Int → Prop) : (Unit) → ((Unit) → Prop) → Prop
  | _, _ =>
    ((0 : Int) < 0 →
      False) ∧
    (¬ ((0 : Int) < 0) →
      (0 ≤ ((-1) : Int) →
        ((27 : Int) ≠ 0 →
          Φ (([] : List Int), 27)) ∧
        (¬ ((27 : Int) ≠ 0) →
          False)) ∧
      (¬ (0 ≤ ((-1) : Int)) →
        ((0 : Int) ≠ 0 →
          Φ (([] : List Int), 0)) ∧
        (¬ ((0 : Int) ≠ 0) →
          False)))
def cut_Frontier_L1 (x1 : List Int) (Φ : List Int × Int → Prop) : (Unit) → ((Unit) → Prop) → Prop
  | _, _ =>
    (0 < (([x1] : List (List Int)).length : Int) →
      inX 0 ([x1] : List (List Int)).length ∧
      False) ∧
    (¬ (0 < (([x1] : List (List Int)).length : Int)) →
      LoopW (cut_Frontier_L2 Φ) ())
def cut_Frontier_L7 (x0 : api_History) (v5 : List Int) (v6 : List Int) (rec6 : (List (Int × Unit) × List Bool) → Prop) (v13 : Int × Unit) (r14 : List (Int × Unit)) (_ : List Int × Int → Prop) : (Int × List Bool) → ((Int × List Bool) → Prop) → Prop
  | (v15, v16), rec7 =>
    (v15 < (x0.Writes.length : Int) →
      inX v15 v16.length ∧
      ((ix v16 v15) = true →
        ∃ v17 : Bool × Unit, cut_relation_before_W (Ptr.mk (cut_relation.mk (x0.Writes.length : Int) (x0.Events.length : Int) v5 v6)) v15 v13.1 (fun z => (z, ()) = v17) ∧
        inX v15 v16.length ∧
        inI (v15 + 1) ∧
        rec7 ((v15 + 1), (put v16 v15 (decide (¬ (v17.1 = true)))))) ∧
      (¬ ((ix v16 v15) = true) →
        inX v15 v16.length ∧
        inI (v15 + 1) ∧
        rec7 ((v15 + 1), (put v16 v15 false)))) ∧
    (¬ (v15 < (x0.Writes.length : Int)) →
      rec6 (r14, v16))
def cut_Frontier_L6 (x0 : api_History) (v5 : List Int) (v6 : List Int) (Φ : List Int × Int → Prop) : (List (Int × Unit) × List Bool) → ((List (Int × Unit) × List Bool) → Prop) → Prop
  | (lst, v12), rec6 =>
    match lst with
    | [] =>
      cut_marks_list_W v12 fun v18 =>
        Φ (v18, 0)
    | v13 :: r14 =>
      LoopW (cut_Frontier_L7 x0 v5 v6 rec6 v13 r14 Φ) (0, v12)
def cut_Frontier_J5 (x0 : api_History) (v5 : List Int) (v6 : List Int) (v8 : List (List Bool)) (Φ : List Int × Int → Prop) : Bool → Prop
  | v10 =>
    (v10 = true →
      ((27 : Int) ≠ 0 →
        Φ (([] : List Int), 27)) ∧
      (¬ ((27 : Int) ≠ 0) →
        False)) ∧
    (¬ (v10 = true) →
      ((0 : Int) ≠ 0 →
        Φ (([] : List Int), 0)) ∧
      (¬ ((0 : Int) ≠ 0) →
        inX 0 v8.length ∧
        slices_Clone_cut_marks_bool_W (ix v8 0) fun v11 =>
          inX 0 v8.length ∧
          ∃ l19 : List (Int × Unit), cut_marks_members_1_I (ix v8 0) l19 ∧
          LoopW (cut_Frontier_L6 x0 v5 v6 Φ) (l19, v11)))
def cut_Frontier_L8 (x0 : api_History) (v5 : List Int) (v6 : List Int) (v8 : List (List Bool)) (Φ : List Int × Int → Prop) : (Int) → ((Int) → Prop) → Prop
  | v20, rec8 =>
    (v20 < (v8.length : Int) →
      inX v20 v8.length ∧
      cut_relation_closed_W (Ptr.mk (cut_relation.mk (x0.Writes.length : Int) (x0.Events.length : Int) v5 v6)) (ix v8 v20) fun v21 =>
        (¬ (v21 = true) →
          cut_Frontier_J5 x0 v5 v6 v8 Φ (decide (0 ≤ v20))) ∧
        (¬ (¬ (v21 = true)) →
          inI (v20 + 1) ∧
          rec8 (v20 + 1))) ∧
    (¬ (v20 < (v8.length : Int)) →
      cut_Frontier_J5 x0 v5 v6 v8 Φ (decide (0 ≤ ((-1) : Int))))
def cut_Frontier_L4 (x0 : api_History) (x1 : List Int) (v5 : List Int) (v6 : List Int) (Φ : List Int × Int → Prop) : (Int × List (List Bool)) → ((Int × List (List Bool)) → Prop) → Prop
  | (v7, v8), rec4 =>
    (v7 < (([x1] : List (List Int)).length : Int) →
      inX v7 ([x1] : List (List Int)).length ∧
      cut_relation_mark_W (Ptr.mk (cut_relation.mk (x0.Writes.length : Int) (x0.Events.length : Int) v5 v6)) (ix ([x1] : List (List Int)) v7) fun v9 =>
        (¬ (v9.2 = true) →
          ((2 : Int) ≠ 0 →
            Φ (([] : List Int), 2)) ∧
          (¬ ((2 : Int) ≠ 0) →
            False)) ∧
        (¬ (¬ (v9.2 = true)) →
          lenOk (v8 ++ ([v9.1] : List (List Bool))).length 24 ∧
          inI (v7 + 1) ∧
          rec4 ((v7 + 1), (v8 ++ ([v9.1] : List (List Bool)))))) ∧
    (¬ (v7 < (([x1] : List (List Int)).length : Int)) →
      LoopW (cut_Frontier_L8 x0 v5 v6 v8 Φ) 0)
def cut_Frontier_L3 (x0 : api_History) (x1 : List Int) (Φ : List Int × Int → Prop) : (Int × List Int × List Int) → ((Int × List Int × List Int) → Prop) → Prop
  | (v4, v5, v6), rec3 =>
    (v4 < (x0.Events.length : Int) →
      inX v4 x0.Events.length ∧
      (((ix x0.Events v4).Kind) = 0 →
        inX ((ix x0.Events v4).Write) v5.length ∧
        inI (v4 + 1) ∧
        rec3 ((v4 + 1), (put v5 ((ix x0.Events v4).Write) v4), v6)) ∧
      (¬ (((ix x0.Events v4).Kind) = 0) →
        inX ((ix x0.Events v4).Write) v6.length ∧
        inI (v4 + 1) ∧
        rec3 ((v4 + 1), v5, (put v6 ((ix x0.Events v4).Write) v4)))) ∧
    (¬ (v4 < (x0.Events.length : Int)) →
      ((0 : Int) ≠ 0 →
        ((0 : Int) ≠ 0 →
          Φ (([] : List Int), 0)) ∧
        (¬ ((0 : Int) ≠ 0) →
          False)) ∧
      (¬ ((0 : Int) ≠ 0) →
        LoopW (cut_Frontier_L4 x0 x1 v5 v6 Φ) (0, ([] : List (List Bool)))))
def cut_Frontier_W (x0 : api_History) (x1 : List Int) (Φ : List Int × Int → Prop) : Prop :=
  history_Check_W x0 fun v1 =>
    (v1 ≠ 0 →
      (v1 ≠ 0 →
        (v1 ≠ 0 →
          Φ (([] : List Int), v1)) ∧
        (¬ (v1 ≠ 0) →
          False)) ∧
      (¬ (v1 ≠ 0) →
        LoopW (cut_Frontier_L1 x1 Φ) ())) ∧
    (¬ (v1 ≠ 0) →
      ∃ v2 : List Int × Unit, slices_Repeat_int_int_W ([(x0.Events.length : Int)] : List Int) (x0.Writes.length : Int) (fun z => (z, ()) = v2) ∧
      ∃ v3 : List Int × Unit, slices_Repeat_int_int_W ([(x0.Events.length : Int)] : List Int) (x0.Writes.length : Int) (fun z => (z, ()) = v3) ∧
      LoopW (cut_Frontier_L3 x0 x1 Φ) (0, v2.1, v3.1))
def cut_Age_L2 (Φ : Int × Int → Prop) : (Unit) → ((Unit) → Prop) → Prop
  | _, _ =>
    ((0 : Int) < 0 →
      False) ∧
    (¬ ((0 : Int) < 0) →
      (0 ≤ ((-1) : Int) →
        ((27 : Int) ≠ 0 →
          Φ (0, 27)) ∧
        (¬ ((27 : Int) ≠ 0) →
          False)) ∧
      (¬ (0 ≤ ((-1) : Int)) →
        ((0 : Int) ≠ 0 →
          Φ (0, 0)) ∧
        (¬ ((0 : Int) ≠ 0) →
          False)))
def cut_Age_L1 (x1 : List Int) (Φ : Int × Int → Prop) : (Unit) → ((Unit) → Prop) → Prop
  | _, _ =>
    (0 < (([x1] : List (List Int)).length : Int) →
      inX 0 ([x1] : List (List Int)).length ∧
      False) ∧
    (¬ (0 < (([x1] : List (List Int)).length : Int)) →
      LoopW (cut_Age_L2 Φ) ())
def cut_Age_J7 (v11 : Int) (v12 : Int) (rec6 : (Int × Int) → Prop) (_ : Int × Int → Prop) : Bool → Prop
  | v13 =>
    (v13 = true →
      inI (v11 + 1) ∧
      inI (v12 + 1) ∧
      rec6 ((v11 + 1), (v12 + 1))) ∧
    (¬ (v13 = true) →
      inI (v12 + 1) ∧
      rec6 (v11, (v12 + 1)))
def cut_Age_L6 (x0 : api_History) (v6 : List Int) (v8 : List (List Bool)) (Φ : Int × Int → Prop) : (Int × Int) → ((Int × Int) → Prop) → Prop
  | (v11, v12), rec6 =>
    (v12 < (x0.Writes.length : Int) →
      Join (cut_Age_J7 v11 v12 rec6 Φ) fun J7 =>
        inX v12 v6.length ∧
        ((ix v6 v12) < (x0.Events.length : Int) →
          inX 0 v8.length ∧
          inX v12 (ix v8 0).length ∧
          J7 (decide (¬ ((ix (ix v8 0) v12) = true)))) ∧
        (¬ ((ix v6 v12) < (x0.Events.length : Int)) →
          J7 false)) ∧
    (¬ (v12 < (x0.Writes.length : Int)) →
      Φ (v11, 0))
def cut_Age_J5 (x0 : api_History) (v6 : List Int) (v8 : List (List Bool)) (Φ : Int × Int → Prop) : Bool → Prop
  | v10 =>
    (v10 = true →
      ((27 : Int) ≠ 0 →
        Φ (0, 27)) ∧
      (¬ ((27 : Int) ≠ 0) →
        False)) ∧
    (¬ (v10 = true) →
      ((0 : Int) ≠ 0 →
        Φ (0, 0)) ∧
      (¬ ((0 : Int) ≠ 0) →
        LoopW (cut_Age_L6 x0 v6 v8 Φ) (0, 0)))
def cut_Age_L8 (x0 : api_History) (v5 : List Int) (v6 : List Int) (v8 : List (List Bool)) (Φ : Int × Int → Prop) : (Int) → ((Int) → Prop) → Prop
  | v14, rec8 =>
    (v14 < (v8.length : Int) →
      inX v14 v8.length ∧
      cut_relation_closed_W (Ptr.mk (cut_relation.mk (x0.Writes.length : Int) (x0.Events.length : Int) v5 v6)) (ix v8 v14) fun v15 =>
        (¬ (v15 = true) →
          cut_Age_J5 x0 v6 v8 Φ (decide (0 ≤ v14))) ∧
        (¬ (¬ (v15 = true)) →
          inI (v14 + 1) ∧
          rec8 (v14 + 1))) ∧
    (¬ (v14 < (v8.length : Int)) →
      cut_Age_J5 x0 v6 v8 Φ (decide (0 ≤ ((-1) : Int))))
def cut_Age_L4 (x0 : api_History) (x1 : List Int) (v5 : List Int) (v6 : List Int) (Φ : Int × Int → Prop) : (Int × List (List Bool)) → ((Int × List (List Bool)) → Prop) → Prop
  | (v7, v8), rec4 =>
    (v7 < (([x1] : List (List Int)).length : Int) →
      inX v7 ([x1] : List (List Int)).length ∧
      cut_relation_mark_W (Ptr.mk (cut_relation.mk (x0.Writes.length : Int) (x0.Events.length : Int) v5 v6)) (ix ([x1] : List (List Int)) v7) fun v9 =>
        (¬ (v9.2 = true) →
          ((2 : Int) ≠ 0 →
            Φ (0, 2)) ∧
          (¬ ((2 : Int) ≠ 0) →
            False)) ∧
        (¬ (¬ (v9.2 = true)) →
          lenOk (v8 ++ ([v9.1] : List (List Bool))).length 24 ∧
          inI (v7 + 1) ∧
          rec4 ((v7 + 1), (v8 ++ ([v9.1] : List (List Bool)))))) ∧
    (¬ (v7 < (([x1] : List (List Int)).length : Int)) →
      LoopW (cut_Age_L8 x0 v5 v6 v8 Φ) 0)
def cut_Age_L3 (x0 : api_History) (x1 : List Int) (Φ : Int × Int → Prop) : (Int × List Int × List Int) → ((Int × List Int × List Int) → Prop) → Prop
  | (v4, v5, v6), rec3 =>
    (v4 < (x0.Events.length : Int) →
      inX v4 x0.Events.length ∧
      (((ix x0.Events v4).Kind) = 0 →
        inX ((ix x0.Events v4).Write) v5.length ∧
        inI (v4 + 1) ∧
        rec3 ((v4 + 1), (put v5 ((ix x0.Events v4).Write) v4), v6)) ∧
      (¬ (((ix x0.Events v4).Kind) = 0) →
        inX ((ix x0.Events v4).Write) v6.length ∧
        inI (v4 + 1) ∧
        rec3 ((v4 + 1), v5, (put v6 ((ix x0.Events v4).Write) v4)))) ∧
    (¬ (v4 < (x0.Events.length : Int)) →
      ((0 : Int) ≠ 0 →
        ((0 : Int) ≠ 0 →
          Φ (0, 0)) ∧
        (¬ ((0 : Int) ≠ 0) →
          False)) ∧
      (¬ ((0 : Int) ≠ 0) →
        LoopW (cut_Age_L4 x0 x1 v5 v6 Φ) (0, ([] : List (List Bool)))))
def cut_Age_W (x0 : api_History) (x1 : List Int) (Φ : Int × Int → Prop) : Prop :=
  history_Check_W x0 fun v1 =>
    (v1 ≠ 0 →
      (v1 ≠ 0 →
        (v1 ≠ 0 →
          Φ (0, v1)) ∧
        (¬ (v1 ≠ 0) →
          False)) ∧
      (¬ (v1 ≠ 0) →
        LoopW (cut_Age_L1 x1 Φ) ())) ∧
    (¬ (v1 ≠ 0) →
      ∃ v2 : List Int × Unit, slices_Repeat_int_int_W ([(x0.Events.length : Int)] : List Int) (x0.Writes.length : Int) (fun z => (z, ()) = v2) ∧
      ∃ v3 : List Int × Unit, slices_Repeat_int_int_W ([(x0.Events.length : Int)] : List Int) (x0.Writes.length : Int) (fun z => (z, ()) = v3) ∧
      LoopW (cut_Age_L3 x0 x1 Φ) (0, v2.1, v3.1))
def ref15_SameInts_L1 (x0 : List Int) (x1 : List Int) (Φ : Bool → Prop) : (Int) → ((Int) → Prop) → Prop
  | v1, rec1 =>
    (v1 < (x0.length : Int) →
      inX v1 x0.length ∧
      inX v1 x1.length ∧
      ((ix x0 v1) ≠ (ix x1 v1) →
        Φ false) ∧
      (¬ ((ix x0 v1) ≠ (ix x1 v1)) →
        inI (v1 + 1) ∧
        rec1 (v1 + 1))) ∧
    (¬ (v1 < (x0.length : Int)) →
      Φ true)
def ref15_SameInts_W (x0 : List Int) (x1 : List Int) (Φ : Bool → Prop) : Prop :=
  ((x0.length : Int) ≠ (x1.length : Int) →
    Φ false) ∧
  (¬ ((x0.length : Int) ≠ (x1.length : Int)) →
    LoopW (ref15_SameInts_L1 x0 x1 Φ) 0)
def ref16_SameLists_L1 (x0 : List (List Int)) (x1 : List (List Int)) (Φ : Bool → Prop) : (Int) → ((Int) → Prop) → Prop
  | v1, rec1 =>
    (v1 < (x0.length : Int) →
      inX v1 x0.length ∧
      inX v1 x1.length ∧
      ∃ v2 : Bool × Unit, ref15_SameInts_W (ix x0 v1) (ix x1 v1) (fun z => (z, ()) = v2) ∧
      (¬ (v2.1 = true) →
        Φ false) ∧
      (¬ (¬ (v2.1 = true)) →
        inI (v1 + 1) ∧
        rec1 (v1 + 1))) ∧
    (¬ (v1 < (x0.length : Int)) →
      Φ true)
def ref16_SameLists_W (x0 : List (List Int)) (x1 : List (List Int)) (Φ : Bool → Prop) : Prop :=
  ((x0.length : Int) ≠ (x1.length : Int) →
    Φ false) ∧
  (¬ ((x0.length : Int) ≠ (x1.length : Int)) →
    LoopW (ref16_SameLists_L1 x0 x1 Φ) 0)
def slices_Equal_int_int_L1 (x0 : List Int) (x1 : List Int) (Φ : Bool → Prop) : (Int) → ((Int) → Prop) → Prop
  | v1, rec1 =>
    (v1 < (x0.length : Int) →
      inX v1 x0.length ∧
      inX v1 x1.length ∧
      ((ix x0 v1) ≠ (ix x1 v1) →
        Φ false) ∧
      (¬ ((ix x0 v1) ≠ (ix x1 v1)) →
        inI (v1 + 1) ∧
        rec1 (v1 + 1))) ∧
    (¬ (v1 < (x0.length : Int)) →
      Φ true)
def slices_Equal_int_int_W (x0 : List Int) (x1 : List Int) (Φ : Bool → Prop) : Prop :=
  ((x0.length : Int) ≠ (x1.length : Int) →
    Φ false) ∧
  (¬ ((x0.length : Int) ≠ (x1.length : Int)) →
    LoopW (slices_Equal_int_int_L1 x0 x1 Φ) 0)
def law16_awake_J1 (v4 : List Int × Int) (v5 : List Int × Int) (v6 : List Int × Int) (v7 : Int × Int) (v8 : Int × Int) (Φ : Bool → Prop) : Bool → Prop
  | v9 =>
    (v9 = true →
      slices_Equal_int_int_W v4.1 ([0, 2] : List Int) fun v10 =>
        (v10 = true →
          slices_Equal_int_int_W v5.1 ([1] : List Int) fun v11 =>
            (v11 = true →
              slices_Equal_int_int_W v6.1 ([1, 2] : List Int) fun v12 =>
                (v12 = true →
                  (v7.1 = 2 →
                    Φ (decide (v8.1 = 0))) ∧
                  (¬ (v7.1 = 2) →
                    Φ false)) ∧
                (¬ (v12 = true) →
                  Φ false)) ∧
            (¬ (v11 = true) →
              Φ false)) ∧
        (¬ (v10 = true) →
          Φ false)) ∧
    (¬ (v9 = true) →
      Φ false)
def law16_awake_W (Φ : Bool → Prop) : Prop :=
  law16_example_W fun v1 =>
    cut_All_W v1 6 fun v2 =>
      cut_All_W v1 5 fun v3 =>
        cut_Least_W v1 ([2] : List Int) fun v4 =>
          cut_Greatest_W v1 ([1, 2] : List Int) fun v5 =>
            cut_Frontier_W v1 ([0, 1, 2] : List Int) fun v6 =>
              cut_Age_W v1 ([1] : List Int) fun v7 =>
                cut_Age_W v1 ([0, 2] : List Int) fun v8 =>
                  Join (law16_awake_J1 v4 v5 v6 v7 v8 Φ) fun J1 =>
                    inI (v2.2 + v4.2) ∧
                    inI ((v2.2 + v4.2) + v5.2) ∧
                    inI (((v2.2 + v4.2) + v5.2) + v6.2) ∧
                    inI ((((v2.2 + v4.2) + v5.2) + v6.2) + v7.2) ∧
                    inI (((((v2.2 + v4.2) + v5.2) + v6.2) + v7.2) + v8.2) ∧
                    ((((((v2.2 + v4.2) + v5.2) + v6.2) + v7.2) + v8.2) = 0 →
                      (v3.2 = 6 →
                        ref16_SameLists_W v2.1 ([([] : List Int), ([0] : List Int), ([1] : List Int), ([0, 1] : List Int), ([0, 2] : List Int), ([0, 1, 2] : List Int)] : List (List Int)) fun v13 =>
                          J1 v13) ∧
                      (¬ (v3.2 = 6) →
                        J1 false)) ∧
                    (¬ ((((((v2.2 + v4.2) + v5.2) + v6.2) + v7.2) + v8.2) = 0) →
                      J1 false)
def ref07_Sizes_L1 (x0 : List Int) (Φ : Int → Prop) : (Int) → ((Int) → Prop) → Prop
  | v1, rec1 =>
    (v1 < (x0.length : Int) →
      inX v1 x0.length ∧
      ((ix x0 v1) < 1 →
        Φ 2) ∧
      (¬ ((ix x0 v1) < 1) →
        inX v1 x0.length ∧
        (4096 < (ix x0 v1) →
          Φ 2) ∧
        (¬ (4096 < (ix x0 v1)) →
          inI (v1 + 1) ∧
          rec1 (v1 + 1)))) ∧
    (¬ (v1 < (x0.length : Int)) →
      Φ 0)
def ref07_Sizes_W (x0 : List Int) (Φ : Int → Prop) : Prop :=
  ((x0.length : Int) < 1 →
    Φ 6) ∧
  (¬ ((x0.length : Int) < 1) →
    (8 < (x0.length : Int) →
      Φ 6) ∧
    (¬ (8 < (x0.length : Int)) →
      LoopW (ref07_Sizes_L1 x0 Φ) 0))
def ref07_FitsSizes_W (x0 : List Int) (x1 : api_Write) (Φ : Int → Prop) : Prop :=
  (x1.Volume < 0 →
    Φ 7) ∧
  (¬ (x1.Volume < 0) →
    ((x0.length : Int) ≤ x1.Volume →
      Φ 7) ∧
    (¬ ((x0.length : Int) ≤ x1.Volume) →
      ((x1.Data.length : Int) = 0 →
        Φ 1) ∧
      (¬ ((x1.Data.length : Int) = 0) →
        (x1.Start < 0 →
          Φ 2) ∧
        (¬ (x1.Start < 0) →
          inX x1.Volume x0.length ∧
          ((ix x0 x1.Volume) ≤ x1.Start →
            Φ 2) ∧
          (¬ ((ix x0 x1.Volume) ≤ x1.Start) →
            inX x1.Volume x0.length ∧
            inI ((ix x0 x1.Volume) - x1.Start) ∧
            (((ix x0 x1.Volume) - x1.Start) < (x1.Data.length : Int) →
              Φ 2) ∧
            (¬ (((ix x0 x1.Volume) - x1.Start) < (x1.Data.length : Int)) →
              Φ 0))))))
def ref15_issue_W (x0 : Int) (Φ : api_HistoryEvent → Prop) : Prop :=
  Φ (api_HistoryEvent.mk 0 x0)
def ref15_At_L1 (x0 : List api_HistoryEvent) (x1 : api_HistoryEvent) (Φ : Int → Prop) : (Int) → ((Int) → Prop) → Prop
  | v1, rec1 =>
    (v1 < (x0.length : Int) →
      inX v1 x0.length ∧
      ((ix x0 v1) = x1 →
        Φ v1) ∧
      (¬ ((ix x0 v1) = x1) →
        inI (v1 + 1) ∧
        rec1 (v1 + 1))) ∧
    (¬ (v1 < (x0.length : Int)) →
      Φ (-1))
def ref15_At_W (x0 : List api_HistoryEvent) (x1 : api_HistoryEvent) (Φ : Int → Prop) : Prop :=
  LoopW (ref15_At_L1 x0 x1 Φ) 0
def ref15_Check_L2 (x0 : api_History) (Φ : Int → Prop) : (Int × Int) → ((Int × Int) → Prop) → Prop
  | (v4, v5), rec2 =>
    (v5 < (x0.Events.length : Int) →
      inX v5 x0.Events.length ∧
      (((ix x0.Events v5).Kind) = 0 →
        (((ix x0.Events v5).Write) ≠ v4 →
          Φ 3) ∧
        (¬ (((ix x0.Events v5).Write) ≠ v4) →
          ((x0.Writes.length : Int) ≤ v4 →
            Φ 3) ∧
          (¬ ((x0.Writes.length : Int) ≤ v4) →
            inI (v4 + 1) ∧
            inI (v5 + 1) ∧
            rec2 ((v4 + 1), (v5 + 1))))) ∧
      (¬ (((ix x0.Events v5).Kind) = 0) →
        (((ix x0.Events v5).Kind) ≠ 1 →
          Φ 3) ∧
        (¬ (((ix x0.Events v5).Kind) ≠ 1) →
          inS 0 v5 x0.Events.length ∧
          ∃ v6 : api_HistoryEvent × Unit, ref15_issue_W ((ix x0.Events v5).Write) (fun z => (z, ()) = v6) ∧
          ∃ v7 : Int × Unit, ref15_At_W (sub x0.Events 0 v5) v6.1 (fun z => (z, ()) = v7) ∧
          (v7.1 < 0 →
            Φ 7) ∧
          (¬ (v7.1 < 0) →
            inS 0 v5 x0.Events.length ∧
            ∃ v8 : Int × Unit, ref15_At_W (sub x0.Events 0 v5) (ix x0.Events v5) (fun z => (z, ()) = v8) ∧
            (0 ≤ v8.1 →
              Φ 8) ∧
            (¬ (0 ≤ v8.1) →
              inI (v5 + 1) ∧
              rec2 (v4, (v5 + 1))))))) ∧
    (¬ (v5 < (x0.Events.length : Int)) →
      (v4 < (x0.Writes.length : Int) →
        Φ 3) ∧
      (¬ (v4 < (x0.Writes.length : Int)) →
        Φ 0))
def ref15_Check_L1 (x0 : api_History) (Φ : Int → Prop) : (Int) → ((Int) → Prop) → Prop
  | v2, rec1 =>
    (v2 < (x0.Writes.length : Int) →
      inX v2 x0.Writes.length ∧
      ∃ v3 : Int × Unit, ref07_FitsSizes_W x0.Sizes (ix x0.Writes v2) (fun z => (z, ()) = v3) ∧
      (v3.1 ≠ 0 →
        Φ v3.1) ∧
      (¬ (v3.1 ≠ 0) →
        inI (v2 + 1) ∧
        rec1 (v2 + 1))) ∧
    (¬ (v2 < (x0.Writes.length : Int)) →
      LoopW (ref15_Check_L2 x0 Φ) (0, 0))
def ref15_Check_W (x0 : api_History) (Φ : Int → Prop) : Prop :=
  ref07_Sizes_W x0.Sizes fun v1 =>
    (v1 ≠ 0 →
      Φ v1) ∧
    (¬ (v1 ≠ 0) →
      (4096 < (x0.Writes.length : Int) →
        Φ 6) ∧
      (¬ (4096 < (x0.Writes.length : Int)) →
        LoopW (ref15_Check_L1 x0 Φ) 0))
def ref16_Table_L4 (x0 : api_History) (v4 : List Int) (v5 : List Int) (v6 : Int) (v7 : List (List Bool)) (rec3 : (Int × List (List Bool)) → Prop) (_ : List (List Bool) → Prop) : (Int × List Bool) → ((Int × List Bool) → Prop) → Prop
  | (v8, v9), rec4 =>
    (v8 < (x0.Writes.length : Int) →
      inX v6 v4.length ∧
      (0 ≤ (ix v4 v6) →
        inX v6 v4.length ∧
        inX v8 v5.length ∧
        inX v8 v9.length ∧
        inI (v8 + 1) ∧
        rec4 ((v8 + 1), (put v9 v8 (decide ((ix v4 v6) < (ix v5 v8)))))) ∧
      (¬ (0 ≤ (ix v4 v6)) →
        inX v8 v9.length ∧
        inI (v8 + 1) ∧
        rec4 ((v8 + 1), (put v9 v8 false)))) ∧
    (¬ (v8 < (x0.Writes.length : Int)) →
      lenOk (v7 ++ ([v9] : List (List Bool))).length 24 ∧
      inI (v6 + 1) ∧
      rec3 ((v6 + 1), (v7 ++ ([v9] : List (List Bool)))))
def ref16_Table_L3 (x0 : api_History) (v4 : List Int) (v5 : List Int) (Φ : List (List Bool) → Prop) : (Int × List (List Bool)) → ((Int × List (List Bool)) → Prop) → Prop
  | (v6, v7), rec3 =>
    (v6 < (x0.Writes.length : Int) →
      0 ≤ (x0.Writes.length : Int) ∧
      lenOk (x0.Writes.length : Int).toNat 1 ∧
      LoopW (ref16_Table_L4 x0 v4 v5 v6 v7 rec3 Φ) (0, (List.replicate (x0.Writes.length : Int).toNat (false : Bool)))) ∧
    (¬ (v6 < (x0.Writes.length : Int)) →
      Φ v7)
def ref16_Table_L2 (x0 : api_History) (Φ : List (List Bool) → Prop) : (Int × List Int × List Int) → ((Int × List Int × List Int) → Prop) → Prop
  | (v3, v4, v5), rec2 =>
    (v3 < (x0.Events.length : Int) →
      inX v3 x0.Events.length ∧
      (((ix x0.Events v3).Kind) = 1 →
        inX v3 x0.Events.length ∧
        inX ((ix x0.Events v3).Write) v4.length ∧
        inI (v3 + 1) ∧
        rec2 ((v3 + 1), (put v4 ((ix x0.Events v3).Write) v3), v5)) ∧
      (¬ (((ix x0.Events v3).Kind) = 1) →
        inX v3 x0.Events.length ∧
        inX ((ix x0.Events v3).Write) v5.length ∧
        inI (v3 + 1) ∧
        rec2 ((v3 + 1), v4, (put v5 ((ix x0.Events v3).Write) v3)))) ∧
    (¬ (v3 < (x0.Events.length : Int)) →
      LoopW (ref16_Table_L3 x0 v4 v5 Φ) (0, ([] : List (List Bool))))
def ref16_Table_L1 (x0 : api_History) (Φ : List (List Bool) → Prop) : (Int × List Int) → ((Int × List Int) → Prop) → Prop
  | (v1, v2), rec1 =>
    (v1 < (x0.Writes.length : Int) →
      inX v1 v2.length ∧
      inI (v1 + 1) ∧
      rec1 ((v1 + 1), (put v2 v1 (-1)))) ∧
    (¬ (v1 < (x0.Writes.length : Int)) →
      LoopW (ref16_Table_L2 x0 Φ) (0, v2, (List.replicate (x0.Writes.length : Int).toNat (0 : Int))))
def ref16_Table_W (x0 : api_History) (Φ : List (List Bool) → Prop) : Prop :=
  0 ≤ (x0.Writes.length : Int) ∧
  lenOk (x0.Writes.length : Int).toNat 8 ∧
  0 ≤ (x0.Writes.length : Int) ∧
  lenOk (x0.Writes.length : Int).toNat 8 ∧
  LoopW (ref16_Table_L1 x0 Φ) (0, (List.replicate (x0.Writes.length : Int).toNat (0 : Int)))
def ref15_Has_L1 (x0 : List Int) (x1 : Int) (Φ : Bool → Prop) : (Int) → ((Int) → Prop) → Prop
  | v1, rec1 =>
    (v1 < (x0.length : Int) →
      inX v1 x0.length ∧
      ((ix x0 v1) = x1 →
        Φ true) ∧
      (¬ ((ix x0 v1) = x1) →
        inI (v1 + 1) ∧
        rec1 (v1 + 1))) ∧
    (¬ (v1 < (x0.length : Int)) →
      Φ false)
def ref15_Has_W (x0 : List Int) (x1 : Int) (Φ : Bool → Prop) : Prop :=
  LoopW (ref15_Has_L1 x0 x1 Φ) 0
def ref16_with_J2 (x0 : List Int) (v2 : Int) (rec1 : (Bool × Int × List Int) → Prop) (_ : List Int → Prop) : Bool × List Int → Prop
  | (v4, v5) =>
    inX v2 x0.length ∧
    lenOk (v5 ++ ([(ix x0 v2)] : List Int)).length 8 ∧
    inI (v2 + 1) ∧
    rec1 (v4, (v2 + 1), (v5 ++ ([(ix x0 v2)] : List Int)))
def ref16_with_J3 (x0 : List Int) (x1 : Int) (v1 : Bool) (v2 : Int) (v3 : List Int) (rec1 : (Bool × Int × List Int) → Prop) (Φ : List Int → Prop) : Bool → Prop
  | v6 =>
    (v6 = true →
      lenOk (v3 ++ ([x1] : List Int)).length 8 ∧
      ref16_with_J2 x0 v2 rec1 Φ (true, (v3 ++ ([x1] : List Int)))) ∧
    (¬ (v6 = true) →
      ref16_with_J2 x0 v2 rec1 Φ (v1, v3))
def ref16_with_L1 (x0 : List Int) (x1 : Int) (Φ : List Int → Prop) : (Bool × Int × List Int) → ((Bool × Int × List Int) → Prop) → Prop
  | (v1, v2, v3), rec1 =>
    (v2 < (x0.length : Int) →
      Join (ref16_with_J3 x0 x1 v1 v2 v3 rec1 Φ) fun J3 =>
        (¬ (v1 = true) →
          inX v2 x0.length ∧
          J3 (decide (x1 < (ix x0 v2)))) ∧
        (¬ (¬ (v1 = true)) →
          J3 false)) ∧
    (¬ (v2 < (x0.length : Int)) →
      (¬ (v1 = true) →
        lenOk (v3 ++ ([x1] : List Int)).length 8 ∧
        Φ (v3 ++ ([x1] : List Int))) ∧
      (¬ (¬ (v1 = true)) →
        Φ v3))
def ref16_with_W (x0 : List Int) (x1 : Int) (Φ : List Int → Prop) : Prop :=
  LoopW (ref16_with_L1 x0 x1 Φ) (false, 0, ([] : List Int))
def ref16_less_L1 (x0 : List Int) (x1 : List Int) (Φ : Bool → Prop) : (Int) → ((Int) → Prop) → Prop
  | v1, rec1 =>
    (v1 < (x0.length : Int) →
      inX v1 x0.length ∧
      inX v1 x1.length ∧
      ((ix x0 v1) ≠ (ix x1 v1) →
        inX v1 x0.length ∧
        inX v1 x1.length ∧
        Φ (decide ((ix x0 v1) < (ix x1 v1)))) ∧
      (¬ ((ix x0 v1) ≠ (ix x1 v1)) →
        inI (v1 + 1) ∧
        rec1 (v1 + 1))) ∧
    (¬ (v1 < (x0.length : Int)) →
      Φ false)
def ref16_less_W (x0 : List Int) (x1 : List Int) (Φ : Bool → Prop) : Prop :=
  LoopW (ref16_less_L1 x0 x1 Φ) 0
def ref16_insert_J2 (x0 : List (List Int)) (v2 : Int) (rec1 : (Bool × Int × List (List Int)) → Prop) (_ : List (List Int) → Prop) : Bool × List (List Int) → Prop
  | (v5, v6) =>
    inX v2 x0.length ∧
    lenOk (v6 ++ ([(ix x0 v2)] : List (List Int))).length 24 ∧
    inI (v2 + 1) ∧
    rec1 (v5, (v2 + 1), (v6 ++ ([(ix x0 v2)] : List (List Int))))
def ref16_insert_J3 (x0 : List (List Int)) (x1 : List Int) (v1 : Bool) (v2 : Int) (v3 : List (List Int)) (rec1 : (Bool × Int × List (List Int)) → Prop) (Φ : List (List Int) → Prop) : Bool → Prop
  | v7 =>
    (v7 = true →
      lenOk (v3 ++ ([x1] : List (List Int))).length 24 ∧
      ref16_insert_J2 x0 v2 rec1 Φ (true, (v3 ++ ([x1] : List (List Int))))) ∧
    (¬ (v7 = true) →
      ref16_insert_J2 x0 v2 rec1 Φ (v1, v3))
def ref16_insert_L1 (x0 : List (List Int)) (x1 : List Int) (Φ : List (List Int) → Prop) : (Bool × Int × List (List Int)) → ((Bool × Int × List (List Int)) → Prop) → Prop
  | (v1, v2, v3), rec1 =>
    (v2 < (x0.length : Int) →
      inX v2 x0.length ∧
      ref15_SameInts_W (ix x0 v2) x1 fun v4 =>
        (v4 = true →
          Φ x0) ∧
        (¬ (v4 = true) →
          Join (ref16_insert_J3 x0 x1 v1 v2 v3 rec1 Φ) fun J3 =>
            (¬ (v1 = true) →
              inX v2 x0.length ∧
              ref16_less_W x1 (ix x0 v2) fun v8 =>
                J3 v8) ∧
            (¬ (¬ (v1 = true)) →
              J3 false))) ∧
    (¬ (v2 < (x0.length : Int)) →
      (¬ (v1 = true) →
        lenOk (v3 ++ ([x1] : List (List Int))).length 24 ∧
        Φ (v3 ++ ([x1] : List (List Int)))) ∧
      (¬ (¬ (v1 = true)) →
        Φ v3))
def ref16_insert_W (x0 : List (List Int)) (x1 : List Int) (Φ : List (List Int) → Prop) : Prop :=
  LoopW (ref16_insert_L1 x0 x1 Φ) (false, 0, ([] : List (List Int)))
def ref16_All_L6 (x0 : api_History) (v3 : List (List Bool)) (v4 : List (List Int)) (v7 : Int) (v9 : List (List Int)) (v10 : Int) (rec5 : (List (List Int) × Int) → Prop) (_ : List (List Int) × Int → Prop) : (Bool × Int) → ((Bool × Int) → Prop) → Prop
  | (v12, v13), rec6 =>
    (v13 < (x0.Writes.length : Int) →
      (v12 = true →
        inX v13 v3.length ∧
        inX v10 (ix v3 v13).length ∧
        (¬ ((ix (ix v3 v13) v10) = true) →
          inI (v13 + 1) ∧
          rec6 (true, (v13 + 1))) ∧
        (¬ (¬ ((ix (ix v3 v13) v10) = true)) →
          inX v7 v4.length ∧
          ref15_Has_W (ix v4 v7) v13 fun v14 =>
            inI (v13 + 1) ∧
            rec6 (v14, (v13 + 1)))) ∧
      (¬ (v12 = true) →
        inI (v13 + 1) ∧
        rec6 (false, (v13 + 1)))) ∧
    (¬ (v13 < (x0.Writes.length : Int)) →
      (v12 = true →
        inX v7 v4.length ∧
        ref16_with_W (ix v4 v7) v10 fun v15 =>
          ref16_insert_W v9 v15 fun v16 =>
            inI (v10 + 1) ∧
            rec5 (v16, (v10 + 1))) ∧
      (¬ (v12 = true) →
        inI (v10 + 1) ∧
        rec5 (v9, (v10 + 1))))
def ref16_All_L5 (x0 : api_History) (v3 : List (List Bool)) (v4 : List (List Int)) (v7 : Int) (rec3 : (List (List Int) × Int) → Prop) (Φ : List (List Int) × Int → Prop) : (List (List Int) × Int) → ((List (List Int) × Int) → Prop) → Prop
  | (v9, v10), rec5 =>
    (v10 < (x0.Writes.length : Int) →
      inX v7 v4.length ∧
      ref15_Has_W (ix v4 v7) v10 fun v11 =>
        LoopW (ref16_All_L6 x0 v3 v4 v7 v9 v10 rec5 Φ) (decide (¬ (v11 = true)), 0)) ∧
    (¬ (v10 < (x0.Writes.length : Int)) →
      inI (v7 + 1) ∧
      rec3 (v9, (v7 + 1)))
def ref16_All_J4 (x0 : api_History) (v3 : List (List Bool)) (v4 : List (List Int)) (v5 : List (List Int)) (rec2 : (List (List Int) × List (List Int)) → Prop) (v6 : List (List Int)) (v7 : Int) (rec3 : (List (List Int) × Int) → Prop) (Φ : List (List Int) × Int → Prop) : Bool → Prop
  | v8 =>
    (v8 = true →
      LoopW (ref16_All_L5 x0 v3 v4 v7 rec3 Φ) (v6, 0)) ∧
    (¬ (v8 = true) →
      rec2 (v6, (v5 ++ v4)))
def ref16_All_L3 (x0 : api_History) (x1 : Int) (v3 : List (List Bool)) (v4 : List (List Int)) (v5 : List (List Int)) (rec2 : (List (List Int) × List (List Int)) → Prop) (Φ : List (List Int) × Int → Prop) : (List (List Int) × Int) → ((List (List Int) × Int) → Prop) → Prop
  | (v6, v7), rec3 =>
    Join (ref16_All_J4 x0 v3 v4 v5 rec2 v6 v7 rec3 Φ) fun J4 =>
      (v7 < (v4.length : Int) →
        inI (((v5 ++ v4).length : Int) + (v6.length : Int)) ∧
        J4 (decide ((((v5 ++ v4).length : Int) + (v6.length : Int)) ≤ x1))) ∧
      (¬ (v7 < (v4.length : Int)) →
        J4 false)
def ref16_All_L2 (x0 : api_History) (x1 : Int) (v3 : List (List Bool)) (Φ : List (List Int) × Int → Prop) : (List (List Int) × List (List Int)) → ((List (List Int) × List (List Int)) → Prop) → Prop
  | (v4, v5), rec2 =>
    (0 < (v4.length : Int) →
      lenOk (v5 ++ v4).length 24 ∧
      (x1 < ((v5 ++ v4).length : Int) →
        Φ (([] : List (List Int)), 6)) ∧
      (¬ (x1 < ((v5 ++ v4).length : Int)) →
        LoopW (ref16_All_L3 x0 x1 v3 v4 v5 rec2 Φ) (([] : List (List Int)), 0))) ∧
    (¬ (0 < (v4.length : Int)) →
      Φ (v5, 0))
def ref16_All_J1 (x0 : api_History) (x1 : Int) (Φ : List (List Int) × Int → Prop) : Bool → Prop
  | v2 =>
    (v2 = true →
      Φ (([] : List (List Int)), 2)) ∧
    (¬ (v2 = true) →
      ref16_Table_W x0 fun v3 =>
        LoopW (ref16_All_L2 x0 x1 v3 Φ) (([([] : List Int)] : List (List Int)), ([] : List (List Int))))
def ref16_All_W (x0 : api_History) (x1 : Int) (Φ : List (List Int) × Int → Prop) : Prop :=
  ref15_Check_W x0 fun v1 =>
    (v1 ≠ 0 →
      Φ (([] : List (List Int)), v1)) ∧
    (¬ (v1 ≠ 0) →
      Join (ref16_All_J1 x0 x1 Φ) fun J1 =>
        (x1 < 0 →
          J1 true) ∧
        (¬ (x1 < 0) →
          J1 (decide (4096 < x1))))
def law16_CutLists_J1 (x0 : api_History) (x1 : Int) (Φ : Bool → Prop) : Bool → Prop
  | v1 =>
    (v1 = true →
      law16_awake_W fun v2 =>
        Φ v2) ∧
    (¬ (v1 = true) →
      cut_All_W x0 x1 fun v3 =>
        ref16_All_W x0 x1 fun v4 =>
          ref16_SameLists_W v3.1 v4.1 fun v5 =>
            (v5 = true →
              (v3.2 = v4.2 →
                law16_awake_W fun v6 =>
                  Φ v6) ∧
              (¬ (v3.2 = v4.2) →
                Φ false)) ∧
            (¬ (v5 = true) →
              Φ false))
def law16_CutLists_W (x0 : api_History) (x1 : Int) (Φ : Bool → Prop) : Prop :=
  Join (law16_CutLists_J1 x0 x1 Φ) fun J1 =>
    law16_few_W x0 ([] : List (List Int)) fun v7 =>
      (¬ (v7 = true) →
        J1 true) ∧
      (¬ (¬ (v7 = true)) →
        (200 < x1 →
          J1 (decide (x1 ≤ 4096))) ∧
        (¬ (200 < x1) →
          J1 false))
def gh : Hp → Prop := fun _ => True
theorem ghUp : GUp gh := fun _ _ _ _ => trivial
def ct56 : Ct DD := ⟨56, [26], [4], [[false]], true, fun x Φ => ref15_Few_W x.1 fun y => Φ (y, ())⟩
def pl56 : List PE := [⟨[4, 1, 0, 1, 1], [], [0], ⟨[.int], [(1, .kp 2), (3, .v .int)], [], [], []⟩, false⟩, ⟨[4, 1, 0, 1, 1, 1], [], [0], ⟨[.int], [(1, .kp 2), (4, .v .int)], [], [], []⟩, false⟩]
def ct57 : Ct DD := ⟨57, [22], [4], [[false]], true, fun x Φ => law16_few_1_W x.1 fun y => Φ (y, ())⟩
def pl57 : List PE := []
def ct12 : Ct DD := ⟨12, [26, 29], [4], [[false]], true, fun x Φ => law16_few_W x.1 x.2.1 fun y => Φ (y, ())⟩
def pl12 : List PE := [⟨[4, 1, 0, 1, 12, 0, 1, 14, 0, 1], [], [0], ⟨[.int], [(0, .kp 1), (1, .kp 2), (7, .kp 5), (8, .v .int)], [], [], []⟩, false⟩]
def ct103 : Ct DD := ⟨103, [3], [119], [[false, false, true]], false, fun x Φ => law16_example_1_W x.1 fun y => Φ (y, ())⟩
def pl103 : List PE := []
def ct104 : Ct DD := ⟨104, [3], [58], [[false, false]], true, fun x Φ => law16_example_2_W x.1 fun y => Φ (y, ())⟩
def pl104 : List PE := []
def ct105 : Ct DD := ⟨105, [3], [58], [[false, false]], true, fun x Φ => law16_example_3_W x.1 fun y => Φ (y, ())⟩
def pl105 : List PE := []
def ct58 : Ct DD := ⟨58, [], [26], [[true, true, true]], false, fun _ Φ => law16_example_W fun y => Φ (y, ())⟩
def pl58 : List PE := []
def ct161 : Ct DD := ⟨161, [3], [4], [[false]], true, fun x Φ => image_checkSizes_1_W x.1 fun y => Φ (y, ())⟩
def pl161 : List PE := []
def ct142 : Ct DD := ⟨142, [22], [30], [[false]], true, fun x Φ => image_checkSizes_W x.1 fun y => Φ (y, ())⟩
def pl142 : List PE := [⟨[4, 1, 0, 1, 12, 0, 1, 11, 0, 0, 1, 1], [], [], ⟨[.int], [(0, .kp 0), (1, .kp 1), (7, .kp 4), (8, .v .int)], [], [], []⟩, false⟩]
def ct144 : Ct DD := ⟨144, [3], [117], [[true]], false, fun x Φ => image_New_1_W x.1 fun y => Φ (y, ())⟩
def pl144 : List PE := []
def ct97 : Ct DD := ⟨97, [22], [71, 30], [[true], [false]], false, fun x Φ => image_New_W x.1 fun y => Φ (y.1, y.2, ())⟩
def pl97 : List PE := [⟨[4, 1, 0, 1, 1, 11, 0, 1, 1], [], [], ⟨[.int, .lst 117], [(1, .kp 2), (5, .own 0), (11, .kp 8), (12, .kp 9), (13, .v .int)], [], [117], []⟩, false⟩]
def ct189 : Ct DD := ⟨189, [117], [3], [[false]], true, fun x Φ => image_sizes_1_W x.1 fun y => Φ (y, ())⟩
def pl189 : List PE := []
def ct160 : Ct DD := ⟨160, [71], [22], [[true]], false, fun x Φ => image_sizes_W x.1 fun y => Φ (y, ())⟩
def pl160 : List PE := [⟨[4, 1, 0, 1, 1, 11, 0, 1], [], [], ⟨[.int, .lst 3], [(1, .kp 2), (5, .own 0), (11, .kp 8), (12, .kp 9), (13, .v .int)], [], [3], []⟩, false⟩]
def ct133 : Ct DD := ⟨133, [71], [30], [[false]], true, fun x Φ => image_Check_W x.1 fun y => Φ (y, ())⟩
def pl133 : List PE := []
def ct147 : Ct DD := ⟨147, [71, 119], [30], [[false]], true, fun x Φ => image_fits_W x.1 x.2.1 fun y => Φ (y, ())⟩
def pl147 : List PE := [⟨[4, 0, 1], [], [0], ⟨[.bool], [(0, .kp 1), (3, .kp 3), (5, .v .bool)], [], [], []⟩, true⟩]
def ct126 : Ct DD := ⟨126, [71, 119], [30], [[false]], true, fun x Φ => image_Fits_W x.1 x.2.1 fun y => Φ (y, ())⟩
def pl126 : List PE := []
def ct79 : Ct DD := ⟨79, [26], [109, 30], [[false, false, false, true, true], [false]], false, fun x Φ => history_check_W x.1 fun y => Φ (y.1, y.2, ())⟩
def pl79 : List PE := [⟨[4, 1, 0, 1, 1, 1, 1, 1], [3], [3, 2, 0], ⟨[.int], [(1, .kp 5), (2, .kp 6), (4, .kp 10), (5, .kp 17), (31, .kp 26), (32, .kp 27), (33, .v .int)], [(1, 109, [.kp 34,.kp 35,.kp 36,.kp 37,.kp 38])], [], []⟩, false⟩, ⟨[4, 1, 0, 1, 1, 1, 1, 1, 1], [], [3, 0], ⟨[.int, .lst 3, .lst 3], [(1, .kp 5), (2, .kp 6), (4, .kp 10), (46, .kp 41), (47, .kp 45), (48, .v .int)], [(1, 109, [.kp 34,.kp 35,.kp 36,.kp 37,.kp 38]), (2, 109, [.kp 29,.kp 30,.kp 31,.own 0,.own 1])], [3, 3], []⟩, false⟩, ⟨[1, 4, 0, 1, 1, 5, 4, 1, 0, 1, 1, 1, 1, 1, 1], [], [49, 1], ⟨[.int, .lst 3, .lst 3], [(1, .kp 5), (2, .kp 6), (4, .kp 10), (12, .v .int), (46, .kp 41), (47, .kp 45), (48, .kp 50)], [(2, 109, [.kp 29,.kp 30,.kp 31,.own 0,.own 1])], [3, 3], []⟩, true⟩]
def ct32 : Ct DD := ⟨32, [26], [30], [[false]], true, fun x Φ => history_Check_W x.1 fun y => Φ (y, ())⟩
def pl32 : List PE := []
def ct165 : Ct DD := ⟨165, [210, 210], [210, 210], [[false], [false]], true, fun x Φ => math_bits_Mul64_W x.1 x.2.1 fun y => Φ (y.1, y.2, ())⟩
def pl165 : List PE := []
def ct148 : Ct DD := ⟨148, [185, 185], [185, 185], [[false], [false]], true, fun x Φ => math_bits_Mul_W x.1 x.2.1 fun y => Φ (y.1, y.2, ())⟩
def pl148 : List PE := []
def ct106 : Ct DD := ⟨106, [22, 3], [22], [[true]], false, fun x Φ => slices_Repeat_int_int_W x.1 x.2.1 fun y => Φ (y, ())⟩
def pl106 : List PE := [⟨[4, 0, 1, 1, 1, 1, 1, 1], [], [], ⟨[.int, .lst 3], [(7, .own 0), (8, .v .int)], [], [3], []⟩, false⟩, ⟨[0, 1, 1, 1], [], [], ⟨[.bool], [(0, .kp 0), (6, .kp 15), (26, .v .bool)], [], [], []⟩, true⟩]
def ct107 : Ct DD := ⟨107, [80, 22], [94, 4], [[true], [false]], false, fun x Φ => cut_relation_mark_W x.1 x.2.1 fun y => Φ (y.1, y.2, ())⟩
def pl107 : List PE := [⟨[4, 1, 0, 1, 1], [], [], ⟨[.int, .lst 4], [(0, .kp 1), (1, .kp 2), (6, .own 0), (14, .kp 11), (15, .kp 12), (16, .v .int)], [], [4], []⟩, false⟩, ⟨[0, 1, 4, 0, 1, 1, 5, 4, 1, 0, 1, 1], [], [14], ⟨[.bool], [(0, .kp 1), (1, .kp 2), (6, .kp 15), (8, .kp 22), (14, .kp 11), (15, .kp 12), (16, .kp 16), (43, .v .bool)], [], [], []⟩, true⟩]
def ct70 : Ct DD := ⟨70, [80, 3, 3], [4], [[false]], true, fun x Φ => cut_relation_before_W x.1 x.2.1 x.2.2.1 fun y => Φ (y, ())⟩
def pl70 : List PE := []
def ct108 : Ct DD := ⟨108, [80, 94, 3], [4], [[false]], true, fun x Φ => cut_relation_ready_W x.1 x.2.1 x.2.2.1 fun y => Φ (y, ())⟩
def pl108 : List PE := [⟨[4, 1, 0, 1], [], [], ⟨[.int], [(0, .kp 0), (1, .kp 1), (2, .kp 2), (11, .kp 7), (12, .v .int)], [], [], []⟩, false⟩]
def ct43 : Ct DD := ⟨43, [22], [22], [[true]], false, fun x Φ => slices_Clone_int_int_W x.1 fun y => Φ (y, ())⟩
def pl43 : List PE := []
def tn109 : Tn DD := ⟨109, 3, [], fun xs Φ => slices_Sort_int_int_W xs Φ⟩
def ct110 : Ct DD := ⟨110, [22], [9], [[false]], true, fun x Φ => cut_text_W x.1 fun y => Φ (y, ())⟩
def tn111 : Tn DD := ⟨111, 22, [112], fun xs Φ => slices_SortFunc_int_int_W xs Φ⟩
def ct60 : Ct DD := ⟨60, [80, 29, 3], [29, 4], [[true], [false]], false, fun x Φ => cut_relation_next_W x.1 x.2.1 x.2.2.1 fun y => Φ (y.1, y.2, ())⟩
def pl60 : List PE := [⟨[4, 1, 0, 1, 1, 1], [], [], ⟨[.int, .mp 9 4, .lst 22], [(0, .kp 1), (2, .kp 3), (8, .kp 7), (9, .own 0), (18, .kp 9), (19, .kp 10), (20, .v .int)], [], [22], [(0, .map 9 4 false false)]⟩, false⟩, ⟨[4, 1, 1, 1, 4, 0, 1, 1, 5, 4, 1, 0, 1, 1, 1], [13], [13], ⟨[.int, .mp 9 4, .lst 22], [(0, .kp 1), (2, .kp 3), (8, .kp 7), (9, .own 0), (11, .kp 19), (12, .kp 25), (18, .kp 9), (19, .kp 10), (20, .kp 15), (33, .kp 29), (34, .v .int)], [], [22], [(0, .map 9 4 false false)]⟩, false⟩, ⟨[1, 1, 1, 1, 4, 0, 1, 1, 5, 4, 1, 1, 1, 4, 0, 1, 1, 5, 4, 1, 0, 1, 1, 1], [39], [38, 39], ⟨[.mp 9 4, .lst 22], [(0, .kp 1), (2, .kp 3), (8, .kp 7), (9, .own 0), (11, .kp 19), (12, .kp 25), (18, .kp 9), (19, .kp 10), (20, .kp 15), (33, .kp 29), (34, .kp 33)], [], [22], [(0, .map 9 4 false false)]⟩, true⟩, ⟨[0, 1, 4, 0, 1, 1, 5, 4, 1, 1, 1, 4, 0, 1, 1, 5, 4, 1, 0, 1, 1, 1], [], [0, 31], ⟨[.bool], [(0, .kp 1), (2, .kp 3), (8, .kp 7), (9, .kp 32), (11, .kp 19), (12, .kp 25), (14, .kp 36), (18, .kp 9), (19, .kp 10), (20, .kp 15), (33, .kp 29), (34, .kp 33), (47, .v .bool)], [], [], []⟩, true⟩]
def ct14 : Ct DD := ⟨14, [26, 3], [29, 30], [[true], [false]], false, fun x Φ => cut_All_W x.1 x.2.1 fun y => Φ (y.1, y.2, ())⟩
def pl14 : List PE := [⟨[4, 1, 0, 1, 1, 1, 1, 1], [23], [23, 22, 1, 0], ⟨[], [(1, .kp 3), (6, .kp 12), (8, .kp 25), (9, .kp 28)], [], [], []⟩, false⟩, ⟨[0, 1, 1, 1], [], [1, 0], ⟨[.bool], [(1, .kp 3), (6, .kp 12), (25, .v .bool)], [], [], []⟩, false⟩, ⟨[4, 1, 0, 1, 1, 1, 1, 1, 11, 0, 1], [], [5, 3, 1, 0], ⟨[.int, .lst 3, .lst 3], [(5, .kp 24), (48, .kp 52), (49, .kp 53), (50, .v .int)], [(2, 100, [.kp 55,.kp 56,.own 0,.own 1])], [3, 3], []⟩, false⟩, ⟨[4, 1, 0, 1, 1, 1, 1, 1], [2, 65, 66], [81, 2, 65, 66, 5, 3, 1, 0], ⟨[.lst 22, .lst 22], [(1, .kp 68), (6, .kp 24), (8, .own 0), (9, .own 1)], [], [22, 22], []⟩, false⟩, ⟨[0, 1, 1, 1], [], [2, 65, 66, 5, 3, 1, 0], ⟨[.bool], [(1, .kp 68), (6, .kp 24), (25, .v .bool)], [], [], []⟩, false⟩]
def ct68 : Ct DD := ⟨68, [94], [94], [[true]], false, fun x Φ => slices_Clone_cut_marks_bool_W x.1 fun y => Φ (y, ())⟩
def pl68 : List PE := []
def it121 : It DD := ⟨121, [94], [3], fun x l => cut_marks_members_1_I x.1 l⟩
def pl121 : List PE := [⟨[4, 1], [], [], ⟨[.int], [(0, .kp 0), (5, .kp 3), (6, .kp 4), (7, .v .int)], [], [], []⟩, false⟩]
def ct71 : Ct DD := ⟨71, [94], [22], [[true]], false, fun x Φ => cut_marks_list_W x.1 fun y => Φ (y, ())⟩
def pl71 : List PE := [⟨[4, 1, 0, 1, 11, 0, 1, 12, 0, 1], [0], [0], ⟨[.lst 3], [], [(1, 22, [.own 0])], [3], []⟩, false⟩]
def ct17 : Ct DD := ⟨17, [26, 22], [22, 30], [[true], [false]], false, fun x Φ => cut_Least_W x.1 x.2.1 fun y => Φ (y.1, y.2, ())⟩
def pl17 : List PE := [⟨[4, 1, 0, 1, 1, 1, 1, 13, 0, 1], [], [4, 3, 2, 1, 0], ⟨[], [(1, .kp 6), (9, .kp 17), (11, .kp 21), (24, .kp 22), (25, .kp 23), (26, .kp 24)], [], [], []⟩, false⟩, ⟨[4, 1, 0, 1, 1, 1, 1, 1, 11, 0, 1, 13, 0, 1], [], [7, 5, 3, 2, 1, 0], ⟨[.int, .lst 3, .lst 3], [(5, .kp 26), (48, .kp 54), (49, .kp 55), (50, .v .int)], [(4, 100, [.kp 57,.kp 58,.own 0,.own 1])], [3, 3], []⟩, false⟩, ⟨[4, 1, 0, 1, 1, 1, 1, 13, 0, 1], [4, 70, 71], [72, 4, 70, 71, 7, 5, 3, 2, 1, 0], ⟨[.int, .lst 94], [(1, .kp 74), (9, .kp 84), (11, .own 0), (24, .kp 89), (25, .kp 90), (26, .v .int)], [], [94], []⟩, false⟩, ⟨[4, 1, 0, 1, 1, 1, 1], [97], [97, 94, 93, 72, 4, 70, 71, 7, 5, 3, 2, 1, 0], ⟨[.lst 4], [], [(96, 94, [.own 0])], [4], []⟩, false⟩, ⟨[4, 1, 4, 7, 4, 1, 0, 1, 1, 1, 1], [], [], ⟨[.int, .lst 4], [(6, .kp 110), (9, .kp 119), (10, .kp 128), (35, .kp 57), (36, .v .int)], [(96, 94, [.own 0])], [4], []⟩, false⟩]
def ct19 : Ct DD := ⟨19, [26, 22], [22, 30], [[true], [false]], false, fun x Φ => cut_Greatest_W x.1 x.2.1 fun y => Φ (y.1, y.2, ())⟩
def pl19 : List PE := [⟨[4, 1, 0, 1, 1, 1, 1, 13, 0, 1], [], [4, 3, 2, 1, 0], ⟨[], [(1, .kp 6), (9, .kp 17), (11, .kp 21), (24, .kp 22), (25, .kp 23), (26, .kp 24)], [], [], []⟩, false⟩, ⟨[4, 1, 0, 1, 1, 1, 1, 1, 11, 0, 1, 13, 0, 1], [], [7, 5, 3, 2, 1, 0], ⟨[.int, .lst 3, .lst 3], [(5, .kp 26), (48, .kp 54), (49, .kp 55), (50, .v .int)], [(4, 100, [.kp 57,.kp 58,.own 0,.own 1])], [3, 3], []⟩, false⟩, ⟨[4, 1, 0, 1, 1, 1, 1, 13, 0, 1], [4, 70, 71], [72, 4, 70, 71, 7, 5, 3, 2, 1, 0], ⟨[.int, .lst 94], [(1, .kp 74), (9, .kp 84), (11, .own 0), (24, .kp 89), (25, .kp 90), (26, .v .int)], [], [94], []⟩, false⟩, ⟨[4, 1, 0, 1, 1, 1, 1], [98], [98, 95, 94, 93, 72, 4, 70, 71, 7, 5, 3, 2, 1, 0], ⟨[.lst 4], [], [(97, 94, [.own 0])], [4], []⟩, false⟩, ⟨[4, 1, 4, 7, 4, 1, 0, 1, 1, 1, 1], [], [], ⟨[.int, .lst 4], [(6, .kp 111), (7, .kp 112), (9, .kp 120), (10, .kp 130), (35, .kp 57), (36, .v .int)], [(97, 94, [.own 0])], [4], []⟩, false⟩]
def ct120 : Ct DD := ⟨120, [80, 94], [4], [[false]], true, fun x Φ => cut_relation_closed_W x.1 x.2.1 fun y => Φ (y, ())⟩
def pl120 : List PE := [⟨[4, 1, 0, 1], [3], [3, 1, 0], ⟨[], [], [(2, 4, [.kp 11])], [], []⟩, false⟩, ⟨[4, 1, 4, 7, 4, 1, 0, 1], [], [], ⟨[.int], [(2, .kp 6), (3, .kp 7), (4, .kp 8), (5, .kp 15), (13, .kp 18), (14, .v .int)], [(2, 4, [.kp 11])], [], []⟩, false⟩]
def ct28 : Ct DD := ⟨28, [26, 22], [22, 30], [[true], [false]], false, fun x Φ => cut_Frontier_W x.1 x.2.1 fun y => Φ (y.1, y.2, ())⟩
def pl28 : List PE := [⟨[4, 1, 0, 1, 1, 1, 1, 13, 0, 1], [], [4, 3, 2, 1, 0], ⟨[], [(1, .kp 6), (9, .kp 17), (11, .kp 21), (24, .kp 22), (25, .kp 23), (26, .kp 24)], [], [], []⟩, false⟩, ⟨[4, 1, 0, 1, 12, 0, 1, 14, 0, 0, 1, 1, 1, 1, 1, 13, 0, 1], [], [4, 3, 2, 1, 0], ⟨[], [(0, .kp 21), (1, .kp 35), (7, .kp 37), (8, .kp 38)], [], [], []⟩, false⟩, ⟨[4, 1, 0, 1, 1, 1, 1, 1, 11, 0, 1, 13, 0, 1], [], [7, 5, 3, 2, 1, 0], ⟨[.int, .lst 3, .lst 3], [(5, .kp 26), (48, .kp 54), (49, .kp 55), (50, .v .int)], [(4, 100, [.kp 57,.kp 58,.own 0,.own 1])], [3, 3], []⟩, false⟩, ⟨[4, 1, 0, 1, 1, 1, 1, 13, 0, 1], [4, 70, 71], [72, 4, 70, 71, 7, 5, 3, 2, 1, 0], ⟨[.int, .lst 94], [(1, .kp 74), (9, .kp 84), (11, .own 0), (24, .kp 89), (25, .kp 90), (26, .v .int)], [], [94], []⟩, false⟩, ⟨[4, 1, 0, 1, 1, 1, 1], [100], [100, 97, 93, 72, 4, 70, 71, 7, 5, 3, 2, 1, 0], ⟨[.lst 4], [], [(99, 94, [.own 0])], [4], []⟩, false⟩, ⟨[4, 1, 4, 7, 4, 1, 0, 1, 1, 1, 1], [], [], ⟨[.int, .lst 4], [(6, .kp 112), (9, .kp 119), (10, .kp 127), (35, .kp 57), (36, .v .int)], [(99, 94, [.own 0])], [4], []⟩, false⟩, ⟨[0, 1, 1, 1, 1, 1, 13, 0, 1], [], [93, 72, 4, 70, 71, 7, 5, 3, 2, 1, 0], ⟨[.bool], [(9, .kp 84), (11, .kp 94), (48, .v .bool)], [], [], []⟩, false⟩, ⟨[4, 1, 0, 1, 12, 0, 1, 14, 0, 0, 1, 1, 1, 1, 1, 13, 0, 1], [], [], ⟨[.int], [(0, .kp 94), (1, .kp 97), (7, .kp 99), (8, .v .int)], [], [], []⟩, false⟩]
def ct30 : Ct DD := ⟨30, [26, 22], [3, 30], [[false], [false]], true, fun x Φ => cut_Age_W x.1 x.2.1 fun y => Φ (y.1, y.2, ())⟩
def pl30 : List PE := [⟨[4, 1, 0, 1, 1, 1, 1, 13, 0, 1], [], [4, 3, 2, 1, 0], ⟨[], [(1, .kp 6), (9, .kp 17), (11, .kp 21), (24, .kp 22), (25, .kp 23), (26, .kp 24)], [], [], []⟩, false⟩, ⟨[4, 1, 0, 1, 12, 0, 1, 14, 0, 0, 1, 1, 1, 1, 1, 13, 0, 1], [], [4, 3, 2, 1, 0], ⟨[], [(0, .kp 21), (1, .kp 35), (7, .kp 37), (8, .kp 38)], [], [], []⟩, false⟩, ⟨[4, 1, 0, 1, 1, 1, 1, 1, 11, 0, 1, 13, 0, 1], [], [7, 5, 3, 2, 1, 0], ⟨[.int, .lst 3, .lst 3], [(5, .kp 26), (48, .kp 54), (49, .kp 55), (50, .v .int)], [(4, 100, [.kp 57,.kp 58,.own 0,.own 1])], [3, 3], []⟩, false⟩, ⟨[4, 1, 0, 1, 1, 1, 1, 13, 0, 1], [4, 70, 71], [72, 4, 70, 71, 7, 5, 3, 2, 1, 0], ⟨[.int, .lst 94], [(1, .kp 74), (9, .kp 84), (11, .own 0), (24, .kp 89), (25, .kp 90), (26, .v .int)], [], [94], []⟩, false⟩, ⟨[4, 1, 0, 1, 1, 1, 1], [], [93, 72, 4, 70, 71, 7, 5, 3, 2, 1, 0], ⟨[.int, .int], [(6, .kp 92), (7, .kp 94), (9, .v .int), (25, .kp 57), (26, .v .int)], [], [], []⟩, false⟩, ⟨[1, 4, 0, 1, 1, 5, 4, 1, 0, 1, 1, 1, 1], [], [], ⟨[.bool], [(6, .kp 92), (7, .kp 94), (9, .kp 115), (25, .kp 57), (26, .kp 116), (49, .v .bool)], [], [], []⟩, true⟩, ⟨[0, 1, 1, 1, 1, 1, 13, 0, 1], [], [93, 72, 4, 70, 71, 7, 5, 3, 2, 1, 0], ⟨[.bool], [(9, .kp 84), (11, .kp 94), (48, .v .bool)], [], [], []⟩, false⟩, ⟨[4, 1, 0, 1, 12, 0, 1, 14, 0, 0, 1, 1, 1, 1, 1, 13, 0, 1], [], [], ⟨[.int], [(0, .kp 94), (1, .kp 97), (7, .kp 99), (8, .v .int)], [], [], []⟩, false⟩]
def ct66 : Ct DD := ⟨66, [22, 22], [4], [[false]], true, fun x Φ => ref15_SameInts_W x.1 x.2.1 fun y => Φ (y, ())⟩
def pl66 : List PE := [⟨[4, 1, 0, 1, 1], [], [], ⟨[.int], [(0, .kp 0), (1, .kp 1), (5, .v .int)], [], [], []⟩, false⟩]
def ct16 : Ct DD := ⟨16, [29, 29], [4], [[false]], true, fun x Φ => ref16_SameLists_W x.1 x.2.1 fun y => Φ (y, ())⟩
def pl16 : List PE := [⟨[4, 1, 0, 1, 1], [], [], ⟨[.int], [(0, .kp 0), (1, .kp 1), (5, .v .int)], [], [], []⟩, false⟩]
def ct23 : Ct DD := ⟨23, [22, 22], [4], [[false]], true, fun x Φ => slices_Equal_int_int_W x.1 x.2.1 fun y => Φ (y, ())⟩
def pl23 : List PE := [⟨[4, 1, 0, 1, 1], [], [], ⟨[.int], [(0, .kp 0), (1, .kp 1), (12, .kp 9), (13, .v .int)], [], [], []⟩, false⟩]
def ct13 : Ct DD := ⟨13, [], [4], [[false]], true, fun _ Φ => law16_awake_W fun y => Φ (y, ())⟩
def pl13 : List PE := [⟨[1, 1, 1, 1, 1, 1, 1, 1, 1], [4], [13, 12, 11, 10, 9, 8, 7, 6, 5, 4, 3, 0, 1, 2], ⟨[.bool], [(6, .kp 37), (8, .kp 45), (10, .kp 53), (12, .kp 61), (14, .kp 69), (16, .v .bool)], [], [], []⟩, true⟩]
def ct113 : Ct DD := ⟨113, [22], [3], [[false]], true, fun x Φ => ref07_Sizes_W x.1 fun y => Φ (y, ())⟩
def pl113 : List PE := [⟨[4, 1, 0, 1, 1], [], [], ⟨[.int], [(0, .kp 0), (3, .v .int)], [], [], []⟩, false⟩]
def ct114 : Ct DD := ⟨114, [22, 119], [3], [[false]], true, fun x Φ => ref07_FitsSizes_W x.1 x.2.1 fun y => Φ (y, ())⟩
def pl114 : List PE := []
def ct116 : Ct DD := ⟨116, [3], [58], [[false, false]], true, fun x Φ => ref15_issue_W x.1 fun y => Φ (y, ())⟩
def pl116 : List PE := []
def ct115 : Ct DD := ⟨115, [24, 58], [3], [[false]], true, fun x Φ => ref15_At_W x.1 x.2.1 fun y => Φ (y, ())⟩
def pl115 : List PE := [⟨[4, 1, 0, 1], [], [0], ⟨[.int], [(0, .kp 1), (3, .kp 3), (5, .v .int)], [], [], []⟩, false⟩]
def ct61 : Ct DD := ⟨61, [26], [3], [[false]], true, fun x Φ => ref15_Check_W x.1 fun y => Φ (y, ())⟩
def pl61 : List PE := [⟨[4, 1, 0, 1, 1, 1], [], [0], ⟨[.int], [(1, .kp 2), (4, .v .int)], [], [], []⟩, false⟩, ⟨[4, 1, 0, 1, 1, 1, 1, 1], [], [0], ⟨[.int, .int], [(1, .kp 2), (6, .v .int), (7, .v .int)], [], [], []⟩, false⟩]
def ct62 : Ct DD := ⟨62, [26], [86], [[true]], false, fun x Φ => ref16_Table_W x.1 fun y => Φ (y, ())⟩
def pl62 : List PE := [⟨[4, 1, 0, 1, 1, 1], [], [2, 0], ⟨[.int, .lst 3], [(1, .kp 4), (3, .kp 9), (4, .own 0), (5, .kp 15), (6, .v .int)], [], [3], []⟩, false⟩, ⟨[4, 1, 0, 1, 1, 1, 1], [], [0], ⟨[.int, .lst 3, .lst 3], [(1, .kp 4), (3, .kp 9), (4, .own 0), (5, .own 1), (7, .v .int)], [], [3, 3], []⟩, false⟩, ⟨[4, 1, 0, 1, 1, 1, 1, 1, 1], [], [26, 27, 0], ⟨[.int, .lst 89], [(3, .kp 9), (4, .kp 28), (5, .kp 29), (8, .own 0), (9, .v .int)], [], [89], []⟩, false⟩, ⟨[4, 1, 0, 1, 4, 0, 1, 5, 4, 1, 0, 1, 1, 1, 1, 1, 1], [], [37], ⟨[.int, .lst 4], [(3, .kp 9), (4, .kp 28), (5, .kp 29), (8, .kp 39), (9, .kp 40), (10, .own 0), (11, .v .int)], [], [4], []⟩, false⟩]
def ct63 : Ct DD := ⟨63, [22, 3], [4], [[false]], true, fun x Φ => ref15_Has_W x.1 x.2.1 fun y => Φ (y, ())⟩
def pl63 : List PE := [⟨[4, 1, 0, 1], [], [], ⟨[.int], [(0, .kp 0), (1, .kp 1), (5, .v .int)], [], [], []⟩, false⟩]
def ct65 : Ct DD := ⟨65, [22, 3], [22], [[true]], false, fun x Φ => ref16_with_W x.1 x.2.1 fun y => Φ (y, ())⟩
def pl65 : List PE := [⟨[4, 1, 0, 1, 1, 1], [], [], ⟨[.bool, .int, .lst 3], [(0, .kp 0), (1, .kp 1), (5, .own 0), (6, .v .bool), (7, .v .int)], [], [3], []⟩, false⟩, ⟨[4, 0, 1, 5, 4, 1, 0, 1, 1, 1], [], [], ⟨[.bool, .lst 3], [(0, .kp 0), (1, .kp 1), (5, .own 0), (6, .v .bool), (7, .kp 9)], [], [3], []⟩, true⟩, ⟨[0, 4, 0, 1, 5, 4, 1, 0, 1, 1, 1], [], [6], ⟨[.bool], [(0, .kp 0), (1, .kp 1), (5, .kp 7), (6, .kp 8), (7, .kp 9), (23, .v .bool)], [], [], []⟩, true⟩]
def ct117 : Ct DD := ⟨117, [22, 22], [4], [[false]], true, fun x Φ => ref16_less_W x.1 x.2.1 fun y => Φ (y, ())⟩
def pl117 : List PE := [⟨[4, 1, 0, 1], [], [], ⟨[.int], [(0, .kp 0), (1, .kp 1), (5, .v .int)], [], [], []⟩, false⟩]
def ct64 : Ct DD := ⟨64, [29, 22], [29], [[false]], false, fun x Φ => ref16_insert_W x.1 x.2.1 fun y => Φ (y, ())⟩
def pl64 : List PE := [⟨[4, 1, 0, 1, 1, 1], [], [], ⟨[.bool, .int, .lst 22], [(0, .kp 0), (1, .kp 1), (5, .own 0), (6, .v .bool), (7, .v .int)], [], [22], []⟩, false⟩, ⟨[1, 4, 0, 1, 5, 4, 1, 0, 1, 1, 1], [], [], ⟨[.bool, .lst 22], [(0, .kp 0), (1, .kp 1), (5, .own 0), (6, .v .bool), (7, .kp 9)], [], [22], []⟩, true⟩, ⟨[0, 1, 4, 0, 1, 5, 4, 1, 0, 1, 1, 1], [], [6], ⟨[.bool], [(0, .kp 0), (1, .kp 1), (5, .kp 7), (6, .kp 8), (7, .kp 9), (30, .v .bool)], [], [], []⟩, true⟩]
def ct15 : Ct DD := ⟨15, [26, 3], [29, 3], [[true], [false]], false, fun x Φ => ref16_All_W x.1 x.2.1 fun y => Φ (y.1, y.2, ())⟩
def pl15 : List PE := [⟨[4, 0, 1, 1, 1, 1, 1, 1], [15], [15, 14, 0], ⟨[.lst 22, .lst 22], [(1, .kp 2), (2, .kp 3), (7, .kp 19), (8, .own 0), (9, .v (.lst 22))], [], [22], []⟩, false⟩, ⟨[4, 1, 0, 1, 1, 1, 4, 1, 5, 4, 0, 1, 1, 1, 1, 1, 1], [], [24], ⟨[.lst 22, .int], [(1, .kp 2), (2, .kp 3), (7, .kp 19), (8, .kp 25), (9, .kp 26), (10, .v (.lst 22)), (11, .v .int)], [], [], []⟩, false⟩, ⟨[4, 1, 4, 0, 1, 5, 4, 1, 0, 1, 1, 1, 4, 1, 5, 4, 0, 1, 1, 1, 1, 1, 1], [], [], ⟨[.lst 22, .int], [(1, .kp 2), (2, .kp 3), (7, .kp 19), (8, .kp 25), (9, .kp 26), (10, .v (.lst 22)), (11, .kp 39), (12, .v .int)], [], [], []⟩, false⟩, ⟨[4, 1, 0, 1, 4, 0, 1, 5, 4, 1, 4, 0, 1, 5, 4, 1, 0, 1, 1, 1, 4, 1, 5, 4, 0, 1, 1, 1, 1, 1, 1], [], [], ⟨[.bool, .int], [(1, .kp 2), (2, .kp 3), (7, .kp 19), (8, .kp 25), (9, .kp 26), (10, .kp 42), (11, .kp 39), (12, .kp 43), (13, .v .bool), (14, .v .int)], [], [], []⟩, false⟩, ⟨[0, 5, 4, 1, 0, 1, 1, 1, 4, 1, 5, 4, 0, 1, 1, 1, 1, 1, 1], [], [], ⟨[.bool], [(1, .kp 2), (2, .kp 3), (7, .kp 19), (8, .kp 25), (9, .kp 26), (10, .kp 38), (11, .kp 39), (51, .v .bool)], [], [], []⟩, true⟩, ⟨[0, 1, 1], [], [0], ⟨[.bool], [(1, .kp 2), (2, .kp 3), (25, .v .bool)], [], [], []⟩, true⟩]
def ct3 : Ct DD := ⟨3, [26, 3], [4], [[false]], true, fun x Φ => law16_CutLists_W x.1 x.2.1 fun y => Φ (y, ())⟩
def pl3 : List PE := [⟨[0, 1], [], [0], ⟨[.bool], [(1, .kp 2), (2, .kp 3), (19, .v .bool)], [], [], []⟩, true⟩]
theorem eq17 (x : TupD DD ct17.ps) (Φ : TupD DD ct17.rs → Prop) : ct17.W x Φ = topF ⟨Tryz.prog, tab, [ct32, ct68, ct70, ct71, ct106, ct107], pl17, [it121], gh, []⟩ 9 ct17.f ct17.ps ct17.rs ct17.own x Φ := by kernel_rfl
theorem eq15 (x : TupD DD ct15.ps) (Φ : TupD DD ct15.rs → Prop) : ct15.W x Φ = topF ⟨Tryz.prog, tab, [ct61, ct62, ct63, ct64, ct65], pl15, [], gh, []⟩ 9 ct15.f ct15.ps ct15.rs ct15.own x Φ := by kernel_rfl
theorem eq60 (x : TupD DD ct60.ps) (Φ : TupD DD ct60.rs → Prop) : ct60.W x Φ = topF ⟨Tryz.prog, tab, [ct43, ct107, ct108, ct110], pl60, [], gh, [tn109, tn111]⟩ 9 ct60.f ct60.ps ct60.rs ct60.own x Φ := by kernel_rfl
theorem eq106 (x : TupD DD ct106.ps) (Φ : TupD DD ct106.rs → Prop) : ct106.W x Φ = topF ⟨Tryz.prog, tab, [ct148], pl106, [], gh, []⟩ 9 ct106.f ct106.ps ct106.rs ct106.own x Φ := by kernel_rfl
theorem eq147 (x : TupD DD ct147.ps) (Φ : TupD DD ct147.rs → Prop) : ct147.W x Φ = topF ⟨Tryz.prog, tab, [], pl147, [], gh, []⟩ 9 ct147.f ct147.ps ct147.rs ct147.own x Φ := by kernel_rfl
theorem eq114 (x : TupD DD ct114.ps) (Φ : TupD DD ct114.rs → Prop) : ct114.W x Φ = topF ⟨Tryz.prog, tab, [], pl114, [], gh, []⟩ 9 ct114.f ct114.ps ct114.rs ct114.own x Φ := by kernel_rfl
theorem eq165 (x : TupD DD ct165.ps) (Φ : TupD DD ct165.rs → Prop) : ct165.W x Φ = topF ⟨Tryz.prog, tab, [], pl165, [], gh, []⟩ 9 ct165.f ct165.ps ct165.rs ct165.own x Φ := by kernel_rfl
theorem eq23 (x : TupD DD ct23.ps) (Φ : TupD DD ct23.rs → Prop) : ct23.W x Φ = topF ⟨Tryz.prog, tab, [], pl23, [], gh, []⟩ 9 ct23.f ct23.ps ct23.rs ct23.own x Φ := by kernel_rfl
theorem eq160 (x : TupD DD ct160.ps) (Φ : TupD DD ct160.rs → Prop) : ct160.W x Φ = topF ⟨Tryz.prog, tab, [ct189], pl160, [], gh, []⟩ 9 ct160.f ct160.ps ct160.rs ct160.own x Φ := by kernel_rfl
theorem eq58 (x : TupD DD ct58.ps) (Φ : TupD DD ct58.rs → Prop) : ct58.W x Φ = topF ⟨Tryz.prog, tab, [ct103, ct104, ct105], pl58, [], gh, []⟩ 9 ct58.f ct58.ps ct58.rs ct58.own x Φ := by kernel_rfl
theorem eq126 (x : TupD DD ct126.ps) (Φ : TupD DD ct126.rs → Prop) : ct126.W x Φ = topF ⟨Tryz.prog, tab, [ct133, ct147], pl126, [], gh, []⟩ 9 ct126.f ct126.ps ct126.rs ct126.own x Φ := by kernel_rfl
theorem eq68 (x : TupD DD ct68.ps) (Φ : TupD DD ct68.rs → Prop) : ct68.W x Φ = topF ⟨Tryz.prog, tab, [], pl68, [], gh, []⟩ 9 ct68.f ct68.ps ct68.rs ct68.own x Φ := by kernel_rfl
theorem eq161 (x : TupD DD ct161.ps) (Φ : TupD DD ct161.rs → Prop) : ct161.W x Φ = topF ⟨Tryz.prog, tab, [], pl161, [], gh, []⟩ 9 ct161.f ct161.ps ct161.rs ct161.own x Φ := by kernel_rfl
theorem eq105 (x : TupD DD ct105.ps) (Φ : TupD DD ct105.rs → Prop) : ct105.W x Φ = topF ⟨Tryz.prog, tab, [], pl105, [], gh, []⟩ 9 ct105.f ct105.ps ct105.rs ct105.own x Φ := by kernel_rfl
theorem eq28 (x : TupD DD ct28.ps) (Φ : TupD DD ct28.rs → Prop) : ct28.W x Φ = topF ⟨Tryz.prog, tab, [ct32, ct68, ct70, ct71, ct106, ct107, ct120], pl28, [it121], gh, []⟩ 9 ct28.f ct28.ps ct28.rs ct28.own x Φ := by kernel_rfl
theorem eq14 (x : TupD DD ct14.ps) (Φ : TupD DD ct14.rs → Prop) : ct14.W x Φ = topF ⟨Tryz.prog, tab, [ct32, ct60, ct106], pl14, [], gh, []⟩ 9 ct14.f ct14.ps ct14.rs ct14.own x Φ := by kernel_rfl
theorem eq62 (x : TupD DD ct62.ps) (Φ : TupD DD ct62.rs → Prop) : ct62.W x Φ = topF ⟨Tryz.prog, tab, [], pl62, [], gh, []⟩ 9 ct62.f ct62.ps ct62.rs ct62.own x Φ := by kernel_rfl
theorem eq61 (x : TupD DD ct61.ps) (Φ : TupD DD ct61.rs → Prop) : ct61.W x Φ = topF ⟨Tryz.prog, tab, [ct113, ct114, ct115, ct116], pl61, [], gh, []⟩ 9 ct61.f ct61.ps ct61.rs ct61.own x Φ := by kernel_rfl
theorem eq107 (x : TupD DD ct107.ps) (Φ : TupD DD ct107.rs → Prop) : ct107.W x Φ = topF ⟨Tryz.prog, tab, [], pl107, [], gh, []⟩ 9 ct107.f ct107.ps ct107.rs ct107.own x Φ := by kernel_rfl
theorem eq97 (x : TupD DD ct97.ps) (Φ : TupD DD ct97.rs → Prop) : ct97.W x Φ = topF ⟨Tryz.prog, tab, [ct142, ct144], pl97, [], gh, []⟩ 9 ct97.f ct97.ps ct97.rs ct97.own x Φ := by kernel_rfl
theorem eq16 (x : TupD DD ct16.ps) (Φ : TupD DD ct16.rs → Prop) : ct16.W x Φ = topF ⟨Tryz.prog, tab, [ct66], pl16, [], gh, []⟩ 9 ct16.f ct16.ps ct16.rs ct16.own x Φ := by kernel_rfl
theorem eq113 (x : TupD DD ct113.ps) (Φ : TupD DD ct113.rs → Prop) : ct113.W x Φ = topF ⟨Tryz.prog, tab, [], pl113, [], gh, []⟩ 9 ct113.f ct113.ps ct113.rs ct113.own x Φ := by kernel_rfl
theorem eq12 (x : TupD DD ct12.ps) (Φ : TupD DD ct12.rs → Prop) : ct12.W x Φ = topF ⟨Tryz.prog, tab, [ct56, ct57], pl12, [], gh, []⟩ 9 ct12.f ct12.ps ct12.rs ct12.own x Φ := by kernel_rfl
theorem eqi121 (x : TupD DD it121.cs) (l : List (TupD DD it121.ts)) : it121.W x l = iterF ⟨Tryz.prog, tab, [], pl121, [], gh, []⟩ it121.f it121.cs it121.ts x l := by kernel_rfl
theorem eq117 (x : TupD DD ct117.ps) (Φ : TupD DD ct117.rs → Prop) : ct117.W x Φ = topF ⟨Tryz.prog, tab, [], pl117, [], gh, []⟩ 9 ct117.f ct117.ps ct117.rs ct117.own x Φ := by kernel_rfl
theorem eq63 (x : TupD DD ct63.ps) (Φ : TupD DD ct63.rs → Prop) : ct63.W x Φ = topF ⟨Tryz.prog, tab, [], pl63, [], gh, []⟩ 9 ct63.f ct63.ps ct63.rs ct63.own x Φ := by kernel_rfl
theorem eq70 (x : TupD DD ct70.ps) (Φ : TupD DD ct70.rs → Prop) : ct70.W x Φ = topF ⟨Tryz.prog, tab, [], pl70, [], gh, []⟩ 9 ct70.f ct70.ps ct70.rs ct70.own x Φ := by kernel_rfl
theorem eq148 (x : TupD DD ct148.ps) (Φ : TupD DD ct148.rs → Prop) : ct148.W x Φ = topF ⟨Tryz.prog, tab, [ct165], pl148, [], gh, []⟩ 9 ct148.f ct148.ps ct148.rs ct148.own x Φ := by kernel_rfl
theorem eq104 (x : TupD DD ct104.ps) (Φ : TupD DD ct104.rs → Prop) : ct104.W x Φ = topF ⟨Tryz.prog, tab, [], pl104, [], gh, []⟩ 9 ct104.f ct104.ps ct104.rs ct104.own x Φ := by kernel_rfl
theorem eq30 (x : TupD DD ct30.ps) (Φ : TupD DD ct30.rs → Prop) : ct30.W x Φ = topF ⟨Tryz.prog, tab, [ct32, ct106, ct107, ct120], pl30, [], gh, []⟩ 9 ct30.f ct30.ps ct30.rs ct30.own x Φ := by kernel_rfl
theorem eq79 (x : TupD DD ct79.ps) (Φ : TupD DD ct79.rs → Prop) : ct79.W x Φ = topF ⟨Tryz.prog, tab, [ct97, ct126], pl79, [], gh, []⟩ 9 ct79.f ct79.ps ct79.rs ct79.own x Φ := by kernel_rfl
theorem eq142 (x : TupD DD ct142.ps) (Φ : TupD DD ct142.rs → Prop) : ct142.W x Φ = topF ⟨Tryz.prog, tab, [ct161], pl142, [], gh, []⟩ 9 ct142.f ct142.ps ct142.rs ct142.own x Φ := by kernel_rfl
theorem eq66 (x : TupD DD ct66.ps) (Φ : TupD DD ct66.rs → Prop) : ct66.W x Φ = topF ⟨Tryz.prog, tab, [], pl66, [], gh, []⟩ 9 ct66.f ct66.ps ct66.rs ct66.own x Φ := by kernel_rfl
theorem eq43 (x : TupD DD ct43.ps) (Φ : TupD DD ct43.rs → Prop) : ct43.W x Φ = topF ⟨Tryz.prog, tab, [], pl43, [], gh, []⟩ 9 ct43.f ct43.ps ct43.rs ct43.own x Φ := by kernel_rfl
theorem eq133 (x : TupD DD ct133.ps) (Φ : TupD DD ct133.rs → Prop) : ct133.W x Φ = topF ⟨Tryz.prog, tab, [ct142, ct160], pl133, [], gh, []⟩ 9 ct133.f ct133.ps ct133.rs ct133.own x Φ := by kernel_rfl
theorem eq32 (x : TupD DD ct32.ps) (Φ : TupD DD ct32.rs → Prop) : ct32.W x Φ = topF ⟨Tryz.prog, tab, [ct79], pl32, [], gh, []⟩ 9 ct32.f ct32.ps ct32.rs ct32.own x Φ := by kernel_rfl
theorem eq57 (x : TupD DD ct57.ps) (Φ : TupD DD ct57.rs → Prop) : ct57.W x Φ = topF ⟨Tryz.prog, tab, [], pl57, [], gh, []⟩ 9 ct57.f ct57.ps ct57.rs ct57.own x Φ := by kernel_rfl
theorem eq189 (x : TupD DD ct189.ps) (Φ : TupD DD ct189.rs → Prop) : ct189.W x Φ = topF ⟨Tryz.prog, tab, [], pl189, [], gh, []⟩ 9 ct189.f ct189.ps ct189.rs ct189.own x Φ := by kernel_rfl
theorem eq19 (x : TupD DD ct19.ps) (Φ : TupD DD ct19.rs → Prop) : ct19.W x Φ = topF ⟨Tryz.prog, tab, [ct32, ct68, ct70, ct71, ct106, ct107], pl19, [it121], gh, []⟩ 9 ct19.f ct19.ps ct19.rs ct19.own x Φ := by kernel_rfl
theorem eq13 (x : TupD DD ct13.ps) (Φ : TupD DD ct13.rs → Prop) : ct13.W x Φ = topF ⟨Tryz.prog, tab, [ct14, ct16, ct17, ct19, ct23, ct28, ct30, ct58], pl13, [], gh, []⟩ 9 ct13.f ct13.ps ct13.rs ct13.own x Φ := by kernel_rfl
theorem eq64 (x : TupD DD ct64.ps) (Φ : TupD DD ct64.rs → Prop) : ct64.W x Φ = topF ⟨Tryz.prog, tab, [ct66, ct117], pl64, [], gh, []⟩ 9 ct64.f ct64.ps ct64.rs ct64.own x Φ := by kernel_rfl
theorem eq65 (x : TupD DD ct65.ps) (Φ : TupD DD ct65.rs → Prop) : ct65.W x Φ = topF ⟨Tryz.prog, tab, [], pl65, [], gh, []⟩ 9 ct65.f ct65.ps ct65.rs ct65.own x Φ := by kernel_rfl
theorem eq56 (x : TupD DD ct56.ps) (Φ : TupD DD ct56.rs → Prop) : ct56.W x Φ = topF ⟨Tryz.prog, tab, [], pl56, [], gh, []⟩ 9 ct56.f ct56.ps ct56.rs ct56.own x Φ := by kernel_rfl
theorem eq120 (x : TupD DD ct120.ps) (Φ : TupD DD ct120.rs → Prop) : ct120.W x Φ = topF ⟨Tryz.prog, tab, [ct70], pl120, [it121], gh, []⟩ 9 ct120.f ct120.ps ct120.rs ct120.own x Φ := by kernel_rfl
theorem eq3 (x : TupD DD ct3.ps) (Φ : TupD DD ct3.rs → Prop) : ct3.W x Φ = topF ⟨Tryz.prog, tab, [ct12, ct13, ct14, ct15, ct16], pl3, [], gh, []⟩ 9 ct3.f ct3.ps ct3.rs ct3.own x Φ := by kernel_rfl
theorem eq108 (x : TupD DD ct108.ps) (Φ : TupD DD ct108.rs → Prop) : ct108.W x Φ = topF ⟨Tryz.prog, tab, [ct70], pl108, [], gh, []⟩ 9 ct108.f ct108.ps ct108.rs ct108.own x Φ := by kernel_rfl
theorem eq71 (x : TupD DD ct71.ps) (Φ : TupD DD ct71.rs → Prop) : ct71.W x Φ = topF ⟨Tryz.prog, tab, [], pl71, [it121], gh, []⟩ 9 ct71.f ct71.ps ct71.rs ct71.own x Φ := by kernel_rfl
theorem eq115 (x : TupD DD ct115.ps) (Φ : TupD DD ct115.rs → Prop) : ct115.W x Φ = topF ⟨Tryz.prog, tab, [], pl115, [], gh, []⟩ 9 ct115.f ct115.ps ct115.rs ct115.own x Φ := by kernel_rfl
theorem eq103 (x : TupD DD ct103.ps) (Φ : TupD DD ct103.rs → Prop) : ct103.W x Φ = topF ⟨Tryz.prog, tab, [], pl103, [], gh, []⟩ 9 ct103.f ct103.ps ct103.rs ct103.own x Φ := by kernel_rfl
theorem eq144 (x : TupD DD ct144.ps) (Φ : TupD DD ct144.rs → Prop) : ct144.W x Φ = topF ⟨Tryz.prog, tab, [], pl144, [], gh, []⟩ 9 ct144.f ct144.ps ct144.rs ct144.own x Φ := by kernel_rfl
theorem eq116 (x : TupD DD ct116.ps) (Φ : TupD DD ct116.rs → Prop) : ct116.W x Φ = topF ⟨Tryz.prog, tab, [], pl116, [], gh, []⟩ 9 ct116.f ct116.ps ct116.rs ct116.own x Φ := by kernel_rfl
end Go.Proofs.YtpmjodnmnffmhaaGreatDoor
namespace Go.Proofs.YtpmjodnmnffmhaaGreatDoor
open Go.RowKit Go.Shelf
def Tryz.layC_ren : Go.Shelf.Ren := ⟨fun | 5 => 155 | 7 => 187 | n => n, fun | 22 => 3 | 3 => 3 | 4 => 4 | n => n, fun | n => n⟩
theorem Tryz.layC : Go.Proofs.SlLaysC2.n5 Tryz.prog Tryz.layC_ren := {
  mixed := by kernel_rfl
  f5 := ⟨Tryz.f155.name, by decide, Tryz.func155.trans (congrArg some (by kernel_rfl))⟩
  f7 := ⟨Tryz.f187.name, by decide, Tryz.func187.trans (congrArg some (by kernel_rfl))⟩
  t3 := Tryz.underlying3
  a3 := Tryz.isAgg3
  z3 := Tryz.sizeOf3
  v3 := Tryz.zeroValue3
  t4 := Tryz.underlying4
  a4 := Tryz.isAgg4
  z4 := Tryz.sizeOf4
  v4 := Tryz.zeroValue4
  t22 := Tryz.underlying3
  a22 := Tryz.isAgg3
  z22 := Tryz.sizeOf3
  v22 := Tryz.zeroValue3 }
theorem cmpI_calls (x y : Int) (W : World) : Calls Tryz.prog 155 #[.int .i64 x, .int .i64 y] W fun e w' => e = .returned (.int .i64 (Lib.compareInt x y)) ∧ w' = W :=
  AnyG.cmp_Compare_int Tryz.layC x y W
theorem cmpL_cons (x y : Int) (a b : List Int) : cmpL (x :: a) (y :: b) = if x < y then -1 else if y < x then 1 else cmpL a b := by rw [cmpL]
theorem cmpL_step {xs ys : List Int} {k : Nat} (h1 : k < xs.length) (h2 : k < ys.length) : cmpL (xs.drop k) (ys.drop k) = if Lib.compareInt xs[k] ys[k] ≠ 0 then Lib.compareInt xs[k] ys[k] else cmpL (xs.drop (k + 1)) (ys.drop (k + 1)) := by
  rw [List.drop_eq_getElem_cons h1, List.drop_eq_getElem_cons h2, cmpL_cons]
  unfold Lib.compareInt
  by_cases a : xs[k] < ys[k]
  · simp [a]
  · by_cases b : ys[k] < xs[k]
    · simp [a, b]
    · simp [a, b]
set_option maxRecDepth 100000 in
theorem cmp_calls {H : Hp} (p q : ElL H) (W : World) (hag : ∀ b o, H b = some o → W.heap[b]? = some o) : Calls Tryz.prog 112 #[p.1.1, q.1.1] W fun e w' => e = .returned (.int .i64 (cmpL p.1.2 q.1.2)) ∧ ∃ k os, w' = Sort.grow (W.drewN k) os := by
  obtain ⟨⟨v1, xs⟩, A1, n1, c1, s1, e1, h1⟩ := p
  obtain ⟨⟨v2, ys⟩, A2, n2, c2, s2, e2, h2⟩ := q
  have e1 : v1 = .slice A1 n1 c1 := (List.cons.inj e1).1
  have e2 : v2 = .slice A2 n2 c2 := (List.cons.inj e2).1
  subst e1 e2
  have l1 : n1 = xs.length := h1.hn
  have l2 : n2 = ys.length := h2.hn
  obtain rfl := DtL.ints h1.dat
  obtain rfl := DtL.ints h2.dat
  refine (calls_of_code Tryz.func112 rfl (Nat.le_of_ble_eq_true rfl) (R := fun v w' => v = .int .i64 (cmpL xs ys) ∧ w' = W) ?_).mono fun e w' ⟨v, h3, h4, h5⟩ => ⟨by rw [h3, h4], 0, #[], by rw [h5]; simp [World.drewN]⟩
  have hM : Mem W H W H [] := Mem.start hag
  refine CW.seq (CW.region (RW.step (Ex.assign (.int .i64 0) rfl) rfl rfl rfl (RW.nil ?_)))
  refine CW.seq (CW.seq (CW.region (RW.step (Ex.move (.slice A1 n1 c1) rfl) rfl rfl rfl (RW.step (Ex.len Tryz.underlying22 rfl) rfl rfl rfl (RW.step (Ex.move (.int .i64 0) rfl) rfl rfl rfl (RW.nil ?_))))))
  refine CW.block (CW.loop (β := Nat) (fun k σ w => w = W ∧ k ≤ n1 ∧ k ≤ n2 ∧ cmpL xs ys = cmpL (xs.drop k) (ys.drop k) ∧ ∃ τ, σ = sl [(0, .slice A1 n1 c1), (1, .slice A2 n2 c2), (9, .slice A1 n1 c1), (10, .int .i64 (n1 : Int)), (11, .int .i64 (k : Int))] τ) (fun k => n1 - k) 0 ⟨rfl, Nat.zero_le _, Nat.zero_le _, rfl, sl_canon ⟨rfl, rfl, rfl, rfl, rfl, trivial⟩⟩ ?_)
  rintro k σ w ⟨rfl, hk, hk2, hc, τ, rfl⟩
  refine CW.seq (CW.region (RW.step (Ex.lss (a := (k : Int)) (b := (n1 : Int)) rfl rfl) rfl rfl rfl (RW.nil ?_)))
  refine CW.seq (CW.cond_dec (p := (k : Int) < (n1 : Int)) rfl (fun hlt => CW.skip ?_) fun hge => CW.exit ?_)
  · have hk1 : k < n1 := by omega
    have hx : (xs.map (Value.int .i64))[k * 1 + 0]? = some (.int .i64 (xs[k]'(by omega))) := by simp [show k < xs.length by omega]
    refine CW.seq (CW.block (CW.seq (CW.region ?_)))
    refine RW.step (Ex.move (.int .i64 (k : Int)) rfl) rfl rfl rfl ?_
    refine RW.step (Ex.index st22 rfl rfl k (h1.rdc.ne (Nat.lt_of_le_of_lt (Nat.zero_le _) hk1)) rfl hk1) rfl rfl rfl ?_
    refine RW.step (Ex.loadE hM (Hp.le.refl _) h1.rdc to3 rfl hx) rfl rfl rfl ?_
    refine RW.step (Ex.assign (.int .i64 (k : Int)) rfl) rfl rfl rfl ?_
    refine RW.step (Ex.assign (.int .i64 (xs[k]'(by omega))) rfl) rfl rfl rfl (RW.nil ?_)
    refine CW.seq (CW.seq (CW.region ?_))
    refine RW.step (Ex.move (.int .i64 (k : Int)) rfl) rfl rfl rfl ?_
    refine RW.step (Ex.move (.slice A2 n2 c2) rfl) rfl rfl rfl ?_
    refine RW.step (Ex.len Tryz.underlying22 rfl) rfl rfl rfl ?_
    refine RW.step (Ex.geq (a := (k : Int)) (b := (n2 : Int)) rfl rfl) rfl rfl rfl (RW.nil ?_)
    refine (CW.cond_dec (p := (n2 : Int) ≤ (k : Int)) rfl (fun hge => ?_) fun hlt2 => CW.skip ?_)
    · refine CW.seq (CW.region (RW.step (Ex.assign (.int .i64 1) rfl) rfl rfl rfl (RW.nil ?_)))
      refine CW.ret ?_
      repeat (first | refine thenQ_ret ?_ | refine blockQ_ret ?_)
      refine end_tmp (.inl rfl) rfl (.int .i64 1) rfl ⟨?_, rfl⟩
      rw [hc, List.drop_eq_nil_of_le (show ys.length ≤ k by omega), List.drop_eq_getElem_cons (show k < xs.length by omega)]
      rfl
    · have hk3 : k < n2 := by omega
      have hy : (ys.map (Value.int .i64))[k * 1 + 0]? = some (.int .i64 (ys[k]'(by omega))) := by simp [show k < ys.length by omega]
      refine CW.seq (CW.region ?_)
      refine RW.step (Ex.move (.slice A2 n2 c2) rfl) rfl rfl rfl ?_
      refine RW.step (Ex.move (.int .i64 (k : Int)) rfl) rfl rfl rfl ?_
      refine RW.step (Ex.index st22 rfl rfl k (h2.rdc.ne (Nat.lt_of_le_of_lt (Nat.zero_le _) hk3)) rfl hk3) rfl rfl rfl ?_
      refine RW.step (Ex.loadE hM (Hp.le.refl _) h2.rdc to3 rfl hy) rfl rfl rfl ?_
      refine RW.step (Ex.assign (.int .i64 (ys[k]'(by omega))) rfl) rfl rfl rfl (RW.nil ?_)
      have hst := cmpL_step (xs := xs) (ys := ys) (k := k) (by omega) (by omega)
      refine CW.seq (CW.region ?_)
      refine RW.step (Ex.move (.int .i64 (xs[k]'(by omega))) rfl) rfl rfl rfl ?_
      refine RW.step (Ex.move (.int .i64 (ys[k]'(by omega))) rfl) rfl rfl rfl ?_
      refine RW.enter (R := fun v w' => v = .int .i64 (Lib.compareInt (xs[k]'(by omega)) (ys[k]'(by omega))) ∧ w' = w) (entB_ok (f := 155) (by kernel_rfl)) rfl rfl rfl rfl ((cmpI_calls _ _ _).mono fun e w' ⟨h3, h4⟩ => ⟨_, h3, rfl, h4⟩) fun v w' ⟨h3, h4⟩ => ?_
      subst h3 h4
      refine RW.step (Ex.assign (.int .i64 (Lib.compareInt (xs[k]'(by omega)) (ys[k]'(by omega)))) rfl) rfl rfl rfl (RW.nil ?_)
      generalize Lib.compareInt (xs[k]'(by omega)) (ys[k]'(by omega)) = r at hst ⊢
      refine CW.seq (CW.region ?_)
      refine RW.step (Ex.move (.int .i64 r) rfl) rfl rfl rfl ?_
      refine RW.step (Ex.neq (a := r) (b := 0) rfl rfl) rfl rfl rfl (RW.nil ?_)
      refine CW.cond_dec (p := r ≠ 0) rfl (fun hr => ?_) fun hr => CW.skip ?_
      · refine CW.seq (CW.region (RW.step (Ex.move (.int .i64 r) rfl) rfl rfl rfl (RW.step (Ex.assign (.int .i64 r) rfl) rfl rfl rfl (RW.nil ?_))))
        refine CW.ret ?_
        repeat (first | refine thenQ_ret ?_ | refine blockQ_ret ?_)
        refine end_tmp (.inl rfl) rfl (.int .i64 r) rfl ⟨?_, rfl⟩
        rw [hc, hst, if_pos hr]
      · refine CW.region (RW.step (Ex.add (a := (k : Int)) (b := 1) rfl rfl (by omega) (by have := h1.rdc.2.1; have := h1.rdc.2.2.1; have : maxLen = 9223372036854775807 := rfl; omega)) rfl rfl rfl (RW.step (Ex.move (.int .i64 ((k : Int) + 1)) rfl) rfl rfl rfl (RW.nil ?_)))
        exact ⟨rfl, k + 1, ⟨rfl, by omega, by omega, by rw [hc, hst, if_neg hr], sl_canon ⟨rfl, rfl, rfl, rfl, rfl, trivial⟩⟩, by omega⟩
  · have hx : xs.drop k = [] := List.drop_eq_nil_of_le (by omega)
    refine CW.seq (CW.seq (CW.region ?_))
    refine RW.step (Ex.move (.slice A1 n1 c1) rfl) rfl rfl rfl ?_
    refine RW.step (Ex.len Tryz.underlying22 rfl) rfl rfl rfl ?_
    refine RW.step (Ex.move (.slice A2 n2 c2) rfl) rfl rfl rfl ?_
    refine RW.step (Ex.len Tryz.underlying22 rfl) rfl rfl rfl ?_
    refine RW.step (Ex.lss (a := (n1 : Int)) (b := (n2 : Int)) rfl rfl) rfl rfl rfl (RW.nil ?_)
    refine (CW.cond_dec (p := (n1 : Int) < (n2 : Int)) rfl (fun hlt => ?_) fun hge2 => CW.skip ?_)
    · refine CW.seq (CW.region (RW.step (Ex.assign (.int .i64 (-1)) rfl) rfl rfl rfl (RW.nil ?_)))
      refine CW.ret ?_
      repeat (first | refine thenQ_ret ?_ | refine blockQ_ret ?_)
      refine end_tmp (.inl rfl) rfl (.int .i64 (-1)) rfl ⟨?_, rfl⟩
      rw [hc, hx, List.drop_eq_getElem_cons (show k < ys.length by omega)]
      rfl
    · refine CW.seq (CW.region (RW.step (Ex.assign (.int .i64 0) rfl) rfl rfl rfl (RW.nil ?_)))
      refine CW.ret ?_
      repeat (first | refine thenQ_ret ?_ | refine blockQ_ret ?_)
      refine end_tmp (.inl rfl) rfl (.int .i64 0) rfl ⟨?_, rfl⟩
      rw [hc, hx, List.drop_eq_nil_of_le (show ys.length ≤ k by omega)]
      rfl
def Tryz.lays171_ren : Go.Shelf.Ren := ⟨fun | 171 => 152 | 243 => 178 | 246 => 196 | 283 => 201 | 284 => 202 | 285 => 203 | 286 => 204 | 129 => 176 | 317 => 206 | 318 => 207 | 319 => 208 | 320 => 209 | 337 => 210 | 338 => 211 | n => n, fun | 3 => 3 | 9 => 9 | 2 => 2 | 4 => 4 | 171 => 243 | 0 => 0 | 53 => 210 | 37 => 157 | 5 => 5 | 173 => 245 | 212 => 250 | 51 => 207 | 20 => 20 | 213 => 251 | 46 => 185 | 232 => 252 | 233 => 253 | n => n, fun | 17 => 0 | 18 => 1 | 19 => 2 | n => n⟩
theorem Tryz.lays171 : Go.Proofs.Lays.n171 Tryz.prog Tryz.lays171_ren := {
  mixed := by kernel_rfl
  f129 := Tryz.func176.trans (congrArg some (by kernel_rfl))
  f171 := Tryz.func152.trans (congrArg some (by kernel_rfl))
  f243 := Tryz.func178.trans (congrArg some (by kernel_rfl))
  f246 := Tryz.func196.trans (congrArg some (by kernel_rfl))
  f283 := Tryz.func201.trans (congrArg some (by kernel_rfl))
  f284 := Tryz.func202.trans (congrArg some (by kernel_rfl))
  f285 := Tryz.func203.trans (congrArg some (by kernel_rfl))
  f286 := Tryz.func204.trans (congrArg some (by kernel_rfl))
  f317 := Tryz.func206.trans (congrArg some (by kernel_rfl))
  f318 := Tryz.func207.trans (congrArg some (by kernel_rfl))
  f319 := Tryz.func208.trans (congrArg some (by kernel_rfl))
  f320 := Tryz.func209.trans (congrArg some (by kernel_rfl))
  f337 := Tryz.func210.trans (congrArg some (by kernel_rfl))
  f338 := Tryz.func211.trans (congrArg some (by kernel_rfl))
  t0 := Tryz.underlying0
  a0 := Tryz.isAgg0
  z0 := Tryz.sizeOf0
  v0 := Tryz.zeroValue0
  t2 := Tryz.underlying2
  a2 := Tryz.isAgg2
  z2 := Tryz.sizeOf2
  v2 := Tryz.zeroValue2
  t3 := Tryz.underlying3
  a3 := Tryz.isAgg3
  z3 := Tryz.sizeOf3
  v3 := Tryz.zeroValue3
  t4 := Tryz.underlying4
  a4 := Tryz.isAgg4
  z4 := Tryz.sizeOf4
  v4 := Tryz.zeroValue4
  t5 := Tryz.underlying5
  a5 := Tryz.isAgg5
  z5 := Tryz.sizeOf5
  v5 := Tryz.zeroValue5
  t9 := Tryz.underlying9
  a9 := Tryz.isAgg9
  z9 := Tryz.sizeOf9
  v9 := Tryz.zeroValue9
  t20 := Tryz.underlying20
  a20 := Tryz.isAgg20
  z20 := Tryz.sizeOf20
  v20 := Tryz.zeroValue20
  t37 := Tryz.underlying157
  a37 := Tryz.isAgg157
  z37 := Tryz.sizeOf157
  v37 := Tryz.zeroValue157
  t46 := Tryz.underlying185
  a46 := Tryz.isAgg185
  z46 := Tryz.sizeOf185
  v46 := Tryz.zeroValue185
  t51 := Tryz.underlying207
  a51 := Tryz.isAgg207
  z51 := Tryz.sizeOf207
  v51 := Tryz.zeroValue207
  t53 := Tryz.underlying210
  a53 := Tryz.isAgg210
  z53 := Tryz.sizeOf210
  v53 := Tryz.zeroValue210
  t171 := Tryz.underlying243
  a171 := Tryz.isAgg243
  z171 := Tryz.sizeOf243
  v171 := Tryz.zeroValue243
  t173 := Tryz.underlying245
  a173 := Tryz.isAgg245
  z173 := Tryz.sizeOf245
  v173 := Tryz.zeroValue245
  t212 := Tryz.underlying250
  a212 := Tryz.isAgg250
  z212 := Tryz.sizeOf250
  v212 := Tryz.zeroValue250
  t213 := Tryz.underlying251
  a213 := Tryz.isAgg251
  z213 := Tryz.sizeOf251
  t232 := Tryz.underlying252
  a232 := Tryz.isAgg252
  z232 := Tryz.sizeOf252
  v232 := Tryz.zeroValue252
  t233 := Tryz.underlying253
  a233 := Tryz.isAgg253
  z233 := Tryz.sizeOf253
  v233 := Tryz.zeroValue253
  g17 := by kernel_rfl
  g18 := by kernel_rfl
  g19 := by kernel_rfl }
def Tryz.lays169_ren : Go.Shelf.Ren := ⟨fun | 169 => 153 | n => n, fun | 70 => 190 | 9 => 9 | 0 => 0 | 72 => 192 | 37 => 157 | 127 => 222 | 3 => 3 | 5 => 5 | n => n, fun | n => n⟩
theorem Tryz.lays169 : Go.Proofs.Lays.n169 Tryz.prog Tryz.lays169_ren := {
  mixed := by kernel_rfl
  f169 := Tryz.func153.trans (congrArg some (by kernel_rfl))
  t0 := Tryz.underlying0
  a0 := Tryz.isAgg0
  z0 := Tryz.sizeOf0
  v0 := Tryz.zeroValue0
  t3 := Tryz.underlying3
  a3 := Tryz.isAgg3
  z3 := Tryz.sizeOf3
  v3 := Tryz.zeroValue3
  t9 := Tryz.underlying9
  a9 := Tryz.isAgg9
  z9 := Tryz.sizeOf9
  v9 := Tryz.zeroValue9
  t37 := Tryz.underlying157
  a37 := Tryz.isAgg157
  z37 := Tryz.sizeOf157
  v37 := Tryz.zeroValue157
  t70 := Tryz.underlying190
  a70 := Tryz.isAgg190
  z70 := Tryz.sizeOf190
  v70 := Tryz.zeroValue190
  t72 := Tryz.underlying192
  a72 := Tryz.isAgg192
  z72 := Tryz.sizeOf192
  v72 := Tryz.zeroValue192
  t127 := Tryz.underlying222
  a127 := Tryz.isAgg222
  z127 := Tryz.sizeOf222
  v127 := Tryz.zeroValue222 }
theorem bx169 : Builder.Extra Tryz.prog Tryz.lays169_ren where
  sizeBuilder := by kernel_rfl
  liesBuilder := by kernel_rfl
  t5 := Tryz.underlying5
  a5 := Tryz.isAgg5
  z5 := Tryz.sizeOf5
  v5 := Tryz.zeroValue5
  infoByte := by kernel_rfl
  cellsByte := by kernel_rfl
  sizeByte := by kernel_rfl
  neB5 := by decide
theorem itoa_calls (i : Nat) (hi : i < 100) (w : World) : Calls Tryz.prog 152 #[.int .i64 i] w fun e w' => e = .returned (.string ⟨(Lib.decDigits i).toArray⟩) ∧ w' = w := Any.strconv_Itoa_small Tryz.lays171 i hi w
theorem bx_info : (Tryz.prog.info? 5).map (fun i => (i.zero, i.size, i.bytes)) = some (some (.int .u8 0), 1, 1) := by kernel_rfl
set_option maxHeartbeats 1000000 in
set_option maxRecDepth 100000 in
theorem copyCheck_used (b : Nat) (w : World) (h0 : w.cell? ⟨b, 0, none⟩ = some (.pointer (some ⟨b, 0, none⟩))) : Calls Tryz.prog 177 #[.pointer (some ⟨b, 0, none⟩)] w fun e w' => e = .returned (.tuple #[]) ∧ w' = w := by
  obtain ⟨j, hj, _⟩ := Option.map_eq_some_iff.1 (show (Tryz.prog.info? 192).map (·.size) = some 2 by kernel_rfl)
  go_enter Tryz.func177, Tryz.ntmps177
  go_wp2
  rw [Lib.run_neq_ptr_same w _ Tryz.underlying190 hj]
  go_wp2
  go_end0
  exact ⟨rfl, rfl⟩
set_option maxHeartbeats 1000000 in
set_option maxRecDepth 100000 in
theorem copyCheck_fresh (b : Nat) (w : World) (h0 : w.cell? ⟨b, 0, none⟩ = some (.pointer none)) (hsh : w.shape? b = some (192, 2)) (hfz : w.frozen? ⟨b, 0, none⟩ = false) :
    Calls Tryz.prog 177 #[.pointer (some ⟨b, 0, none⟩)] w fun e w' => e = .returned (.tuple #[]) ∧ w' = w.setCell ⟨b, 0, none⟩ (.pointer (some ⟨b, 0, none⟩)) := by
  obtain ⟨j, hj, hjs⟩ := Option.map_eq_some_iff.1 (show (Tryz.prog.info? 192).map (·.size) = some 2 by kernel_rfl)
  go_enter Tryz.func177, Tryz.ntmps177
  go_wp2
  rw [Lib.run_to_unsafe w ⟨b, 0, none⟩ Tryz.underlying190 Tryz.underlying236 hj (by rw [hjs]; decide) hsh (Nat.zero_lt_succ 1)]
  simp only [Result.andThen]
  rw [Oper.upon_value]
  go_wp2
  rw [run_callFunc_extern Tryz.func195 (by kernel_rfl) (by kernel_rfl) (by kernel_rfl) (e := Extern.AbiNoEscape.same) (by kernel_rfl)]
  rw [Lib.run_noEscape]
  simp only [Result.andThen]
  rw [Oper.upon_value]
  go_wp2
  rw [Lib.run_from_unsafe w ⟨b, 0, none⟩ Tryz.underlying236 Tryz.underlying190 hj hsh (bx169).liesBuilder]
  simp only [Result.andThen]
  rw [Oper.upon_value]
  go_wp2
  go_end0
  exact ⟨rfl, rfl⟩
theorem copyCheck_calls (B b : Nat) (bs : List Value) (w : World) (h : Lib.IsBuilderF 192 5 B b bs w) :
    Calls Tryz.prog 177 #[.pointer (some ⟨b, 0, none⟩)] w fun e w' => e = .returned (.tuple #[]) ∧ Lib.BuilderAtF 192 5 B b (.pointer (some ⟨b, 0, none⟩)) bs w' ∧ Below B w w' := by
  rcases h with h | h
  · refine (copyCheck_fresh b w h.cell0 h.shape h.frozen0).mono ?_
    rintro e w' ⟨rfl, rfl⟩
    exact ⟨rfl, h.used _, (Below.refl B w).setCell (p := ⟨b, 0, none⟩) h.1 _⟩
  · refine (copyCheck_used b w h.cell0).mono ?_
    rintro e w' ⟨rfl, rfl⟩
    exact ⟨rfl, h, Below.refl B _⟩
set_option maxHeartbeats 1000000 in
set_option maxRecDepth 100000 in
theorem writeString_calls (B b : Nat) (bs : List Value) (s : ByteArray) (w : World) (h : Lib.IsBuilderF 192 5 B b bs w) (hlen : bs.length + s.size ≤ 140737488355328) (hBw : B ≤ w.heap.size) :
    Calls Tryz.prog 151 #[.pointer (some ⟨b, 0, none⟩), .string s] w fun e w' => e = .returned (.tuple #[.int .i64 s.size, .nilIface]) ∧ Lib.IsBuilderF 192 5 B b (bs ++ Lib.strCells s) w' ∧ Below B w w' := by
  obtain ⟨i0, hi, hz0, hz1, hz2⟩ := info_parts bx_info
  have e177 : ∀ args w, (callFunc 177 args).run Tryz.prog w = .ok (.enter 177 args) w := enters_of Tryz.func177 (by kernel_rfl) rfl
  go_enter Tryz.func151, Tryz.ntmps151
  go_wp2_with (go_at_fn 177; refine (copyCheck_calls B b bs _ h).mono ?_)
  rintro e w1 ⟨rfl, h1, hb1⟩
  obtain ⟨hB, v, hbk, hown, hne⟩ := h1
  have c0 : w1.cell? ⟨b, 0, none⟩ = some (.pointer (some ⟨b, 0, none⟩)) := by rw [Lib.cell_of_heap hbk]; rfl
  have c1 : w1.cell? ⟨b, 1, none⟩ = some v := by rw [Lib.cell_of_heap hbk]; rfl
  go_wp2_with (at_builtin; refine Lib.wpList_append_own_stringF _ rfl _ _ 157 9 rfl B 5 i0 Tryz.underlying157 Tryz.underlying9 hi hz0 hz1 hz2 _ _ _ rfl hown s rfl ?c3 ?c4 ?c5 ?_)
  case c3 => unfold maxLen; omega
  case c4 => omega
  case c5 => have := hb1.size; omega
  intro v' w2 hown' hgrow _
  have hlt : b < w1.heap.size := lt_of_heap hbk
  have hb2 : w2.heap[b]? = some (.cells #[.pointer (some ⟨b, 0, none⟩), v] 192 (0, 0)) := by
    rw [hgrow.block b hlt (fun e => hne e.symm)]
    exact hbk
  have d0 : w2.cell? ⟨b, 0, none⟩ = some (.pointer (some ⟨b, 0, none⟩)) := by rw [Lib.cell_of_heap hb2]; rfl
  have d1 : w2.cell? ⟨b, 1, none⟩ = some v := by rw [Lib.cell_of_heap hb2]; rfl
  have f1 : w2.frozen? ⟨b, 1, none⟩ = false := Lib.frozen_of_heap hb2 1
  obtain ⟨ao, n', cap, rfl⟩ : ∃ ao n' cap, v' = .slice ao n' cap := by
    rcases hown'.2 with ⟨hv, _⟩ | ⟨g, cap, cur, fz, hv, _⟩
    · exact ⟨_, _, _, hv⟩
    · exact ⟨_, _, _, hv⟩
  go_wp2
  go_ret2
  refine ⟨rfl, .inr ?_, ?_⟩
  · exact Lib.BuilderAtF.put (T := 192) (e := 5) hB hb2 (bs' := bs ++ Lib.strCells s) (by simpa [Lib.strCells_length] using hown') (by decide)
  · exact (hb1.grown hgrow (by have := hb1.size; omega) (fun k hk => (hown.lt k hk).1)).setCell (p := ⟨b, 1, none⟩) hB _
theorem string_calls (B b : Nat) (l : List UInt8) (w : World) (h : Lib.IsBuilderF 192 5 B b (Lib.byteCells l) w) (hBw : B ≤ w.heap.size) :
    Calls Tryz.prog 153 #[.pointer (some ⟨b, 0, none⟩)] w fun e w' => e = .returned (.string ⟨l.toArray⟩) ∧ Below B w w' :=
  (Any.Builder_String_any_k Tryz.lays169 bx169 B b l w h hBw).mono fun _ _ ⟨h1, _, h3, _⟩ => ⟨h1, h3⟩
theorem digS_eq {i : Nat} (hi : i < 100) : digS (i : Int) = Lib.decDigits i ++ [32] := by
  unfold digS
  by_cases h : i < 10
  · rw [if_pos (by omega), Lib.decDigits, dif_pos h]; simp
  · rw [if_neg (by omega), Lib.decDigits, dif_neg h, Lib.decDigits, dif_pos (by omega)]; simp
theorem digS_len (n : Int) : (digS n).length ≤ 3 := by
  unfold digS
  split <;> simp
theorem digs_len (l : List Int) : (l.flatMap digS).length ≤ 3 * l.length := by
  induction l with
  | nil => simp
  | cons x r ih =>
    have := digS_len x
    simp only [List.flatMap_cons, List.length_append, List.length_cons]
    omega
theorem byteCells_app (a b : List UInt8) : Lib.byteCells (a ++ b) = Lib.byteCells a ++ Lib.byteCells b := List.map_append
theorem Ex.addStr {P : Program} {σ : Nat → Value} {ty : TypeId} {w : World} {x y : Operand} {t u : TypeId} {a b : ByteArray} (hx : ev σ x = .string a) (hy : ev σ y = .string b) (hl : a.size + b.size ≤ 9223372036854775807) : Ex P σ (.binOp .add t x y u) ty w (.string (a ++ b)) w := fun _ _ _ _ => by
  simp [hx, hy, go_sem, hl]
set_option maxRecDepth 100000 in
theorem text_calls {H : Hp} {A : Option Addr} {n c : Nat} {xs : List Int} {cells : List Value} (hF : Fz H A n c xs cells) (hs : smallB xs = true) (W : World) (hag : ∀ b o, H b = some o → W.heap[b]? = some o) : Calls Tryz.prog 110 #[.slice A n c] W fun e w' => e = .returned (.string (textS xs)) ∧ Below W.heap.size W w' := by
  obtain rfl := DtL.ints hF.dat
  have ln : n = xs.length := hF.hn
  unfold smallB at hs
  rw [Bool.and_eq_true] at hs
  have hmax : xs.length ≤ 4096 := Nat.le_of_ble_eq_true hs.1
  have hsm : ∀ x ∈ xs, 0 ≤ x ∧ x < 100 := fun x hx => by
    have := List.all_eq_true.1 hs.2 x hx
    rw [Bool.and_eq_true] at this
    exact ⟨of_decide_eq_true this.1, of_decide_eq_true this.2⟩
  refine (calls_of_code Tryz.func110 rfl (Nat.le_of_ble_eq_true rfl) (R := fun v w' => v = .string (textS xs) ∧ Below W.heap.size W w') ?_).mono fun e w' ⟨v, h3, h4, h5⟩ => ⟨by rw [h3, h4], h5⟩
  have hM : Mem W H W H [] := Mem.start hag
  refine CW.seq (CW.region (RW.step (Ex.assign (.string ⟨#[]⟩) rfl) rfl rfl rfl (RW.nil ?_)))
  refine CW.seq (CW.region (RW.step (Ex.alloc (z := .agg #[.pointer none, .slice none 0 0]) (tyZero_of (by kernel_rfl))) rfl rfl rfl (RW.nil ?_)))
  have hB0 : Lib.IsBuilderF 192 5 W.heap.size W.heap.size [] (W.alloc (.cells #[.pointer none, .slice none 0 0] 192)) := Lib.IsBuilderF.of (Lib.fresh_isBuilder 192 5 W)
  have hbl0 : Below W.heap.size W (W.alloc (.cells #[.pointer none, .slice none 0 0] 192)) := (Below.refl _ W).alloc (Nat.le_refl _) _
  refine CW.seq (CW.seq (CW.region (RW.step (Ex.move (.slice A n c) rfl) rfl rfl rfl (RW.step (Ex.len Tryz.underlying22 rfl) rfl rfl rfl (RW.step (Ex.move (.int .i64 0) rfl) rfl rfl rfl (RW.nil ?_))))))
  refine CW.block (CW.loop (β := Nat) (fun k σ w => k ≤ n ∧ Lib.IsBuilderF 192 5 W.heap.size W.heap.size (Lib.byteCells ((xs.take k).flatMap digS)) w ∧ Below W.heap.size W w ∧ ∃ τ, σ = sl [(3, .pointer (some ⟨W.heap.size, 0, none⟩)), (6, .slice A n c), (7, .int .i64 (n : Int)), (8, .int .i64 (k : Int))] τ) (fun k => n - k) 0 ⟨Nat.zero_le _, hB0, hbl0, sl_canon ⟨rfl, rfl, rfl, rfl, trivial⟩⟩ ?_)
  rintro k σ w ⟨hk, hB, hbl, τ, rfl⟩
  refine CW.seq (CW.region (RW.step (Ex.lss (a := (k : Int)) (b := (n : Int)) rfl rfl) rfl rfl rfl (RW.nil ?_)))
  refine CW.seq (CW.cond_dec (p := (k : Int) < (n : Int)) rfl (fun hlt => CW.skip ?_) fun hge => CW.exit ?_)
  · have hk1 : k < n := by omega
    have hM2 : Mem W H w H [] := hM.frame hbl
    have hx : (xs.map (Value.int .i64))[k * 1 + 0]? = some (.int .i64 (xs[k]'(by omega))) := by simp [show k < xs.length by omega]
    have hr := hsm (xs[k]'(by omega)) (List.getElem_mem _)
    have htk : (xs.take (k + 1)).flatMap digS = (xs.take k).flatMap digS ++ digS (xs[k]'(by omega)) := by
      rw [List.take_succ_eq_append_getElem (by omega), List.flatMap_append]; simp
    generalize xs[k]'(by omega) = x at hx hr htk
    obtain ⟨i, rfl⟩ : ∃ i : Nat, x = (i : Int) := ⟨x.toNat, by omega⟩
    refine CW.seq (CW.block (CW.seq (CW.region ?_)))
    refine RW.step (Ex.index st22 rfl rfl k (hF.rdc.ne (Nat.lt_of_le_of_lt (Nat.zero_le _) hk1)) rfl hk1) rfl rfl rfl ?_
    refine RW.step (Ex.loadE hM2 (Hp.le.refl _) hF.rdc to3 rfl hx) rfl rfl rfl ?_
    refine RW.step (Ex.assign (.int .i64 (i : Int)) rfl) rfl rfl rfl (RW.nil ?_)
    refine CW.region ?_
    refine RW.step (Ex.move (.int .i64 (i : Int)) rfl) rfl rfl rfl ?_
    refine RW.enter (R := fun v w' => v = .string ⟨(Lib.decDigits i).toArray⟩ ∧ w' = w) (entB_ok (f := 152) (by kernel_rfl)) rfl rfl rfl rfl ((itoa_calls i (by omega) _).mono fun e w' ⟨h3, h4⟩ => ⟨_, h3, rfl, h4⟩) fun v w' ⟨h3, h4⟩ => ?_
    subst h3 h4
    have hdl : (⟨(Lib.decDigits i).toArray⟩ : ByteArray).size + (⟨#[32]⟩ : ByteArray).size ≤ 9223372036854775807 := by
      have h6 := digS_len (i : Int)
      rw [digS_eq (by omega), List.length_append] at h6
      have h7 : (⟨(Lib.decDigits i).toArray⟩ : ByteArray).size = (Lib.decDigits i).length := by simp [ByteArray.size]
      have h8 : (⟨#[32]⟩ : ByteArray).size = 1 := rfl
      omega
    refine RW.step (Ex.addStr (a := ⟨(Lib.decDigits i).toArray⟩) (b := ⟨#[32]⟩) rfl rfl hdl) rfl rfl rfl ?_
    have hs2 : Lib.byteCells ((xs.take k).flatMap digS) ++ Lib.strCells (⟨(Lib.decDigits i).toArray⟩ ++ ⟨#[32]⟩ : ByteArray) = Lib.byteCells ((xs.take (k + 1)).flatMap digS) := by
      rw [htk, digS_eq (by omega), byteCells_app]
      congr 1
    have hl2 : (Lib.byteCells ((xs.take k).flatMap digS)).length + (⟨(Lib.decDigits i).toArray⟩ ++ ⟨#[32]⟩ : ByteArray).size ≤ 140737488355328 := by
      have h6 := congrArg List.length hs2
      rw [List.length_append] at h6
      have h7 : (Lib.strCells (⟨(Lib.decDigits i).toArray⟩ ++ ⟨#[32]⟩ : ByteArray)).length = (⟨(Lib.decDigits i).toArray⟩ ++ ⟨#[32]⟩ : ByteArray).size := by
        unfold Lib.strCells; simp [ByteArray.size]
      rw [← h7, h6]
      have h8 := digs_len (xs.take (k + 1))
      have h9 : (Lib.byteCells ((xs.take (k + 1)).flatMap digS)).length = ((xs.take (k + 1)).flatMap digS).length := List.length_map _
      rw [List.length_take] at h8
      omega
    refine RW.enter (R := fun v w' => Lib.IsBuilderF 192 5 W.heap.size W.heap.size (Lib.byteCells ((xs.take (k + 1)).flatMap digS)) w' ∧ Below W.heap.size W w') (entB_ok (f := 151) (by kernel_rfl)) rfl rfl rfl rfl ((writeString_calls _ _ _ _ _ hB hl2 hbl.size).mono fun e w' ⟨h3, h4, h5⟩ => ⟨_, h3, hs2 ▸ h4, hbl.trans h5⟩) fun v w' ⟨h3, h4⟩ => RW.nil ?_
    refine CW.region (RW.step (Ex.add (a := (k : Int)) (b := 1) rfl rfl (by omega) (by omega)) rfl rfl rfl (RW.step (Ex.move (.int .i64 ((k : Int) + 1)) rfl) rfl rfl rfl (RW.nil ?_)))
    exact ⟨rfl, k + 1, ⟨by omega, h3, h4, sl_canon ⟨rfl, rfl, rfl, rfl, trivial⟩⟩, by omega⟩
  · have hx : xs.take k = xs := List.take_of_length_le (by omega)
    rw [hx] at hB
    refine CW.seq (CW.region ?_)
    refine RW.enter (R := fun v w' => v = .string ⟨(xs.flatMap digS).toArray⟩ ∧ Below W.heap.size W w') (entB_ok (f := 153) (by kernel_rfl)) rfl rfl rfl rfl ((string_calls _ _ _ _ hB hbl.size).mono fun e w' ⟨h3, h4⟩ => ⟨_, h3, rfl, hbl.trans h4⟩) fun v w' ⟨h3, h4⟩ => ?_
    subst h3
    refine RW.step (Ex.assign (.string ⟨(xs.flatMap digS).toArray⟩) rfl) rfl rfl rfl (RW.nil ?_)
    refine CW.ret ?_
    repeat (first | refine thenQ_ret ?_ | refine blockQ_ret ?_)
    exact end_tmp (.inl rfl) rfl (.string ⟨(xs.flatMap digS).toArray⟩) rfl ⟨rfl, h4⟩
end Go.Proofs.YtpmjodnmnffmhaaGreatDoor
