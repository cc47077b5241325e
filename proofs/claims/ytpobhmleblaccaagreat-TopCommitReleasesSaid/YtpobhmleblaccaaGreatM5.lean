/- Part 5 of the proof of the statement TopCommitReleasesSaid: lemmas. No condition of its own. -/
import Derived.Lib.TrailingZeros
import Derived.Shelf.SlSortCmp.NoneTotal
import Derived.ProofKit
import Derived.Test.YtpobhmleblaccaaGreatRows
import Derived.Test.YtpobhmleblaccaaGreatProg
import Derived.Shelf.SlicesG.Cmp
import Derived.Shelf.SlGeneric
import Derived.Ground.SlgcProg
import Derived.Ground.SlgmProg
import Derived.Ground.SlsfProg
import Derived.Shelf.SortM.Plain
import Derived.Shelf.SortM.SortNone
import Derived.Test.YtpobhmleblaccaaGreatM4
namespace Go.Proofs.YtpobhmleblaccaaGreat
open Go.RowKit
section
section
variable {D : Nat → Type} [∀ t, Dt (D t)]
variable {E : Env D} {w0 w : World} {H0 H : Hp} {ρ : RM} {L : List Ent} {st : St D} {σ : Nat → Value}
theorem retF_ok (hE : E.Ok) {fn : Func} {rs : List Nat} {own : List (List Bool)} {Φ : TupD D rs → Prop} (h1 : retF E.P E.tb fn rs own Φ st) (hs : Sat [] [] w0 H0 [] H ρ L st σ w) :
    ∃ ux H2 S, (∀ a, Rep fn.ntmps [] σ a → (results fn a.tmps).run E.P w = .ok (q216 ux) w) ∧ Mem w0 H0 w H2 S ∧ ∃ y, Φ y ∧ ResR E.P E.tb rs own y H2 (q216 ux) S := by
  unfold retF at h1
  split at h1
  · rename_i v1 hv1
    split at h1
    · rename_i ls0 hl0
      split at h1
      · rename_i us hus
        split at h1
        · rename_i ls1 hl1
          split at h1
          · rename_i ps hps
            split at h1
            · rename_i y hy
              obtain ⟨H2, L2, k1, k2⟩ := hs.frzL (q122 own ls0); obtain ⟨ux, e1, e2⟩ := q182 hE.tb k2 hus; have hkn := (q291 (q122 own ls0) st).2.1; have e3 := q275 k2 e1; rw [hkn] at e3; obtain ⟨cs2, e4, e5⟩ := q202 e3 hl1; obtain ⟨q, e6, e7⟩ := q375 hE.tb hy; have hM2 := k2.mem; obtain ⟨S, i1, i2⟩ := q444 (X := []) (by simpa using hM2) k2.bk e5 hps e7; refine ⟨ux, H2, S, e2, by simpa using i1, y, h1, ?_⟩; intro nx ρ0 hn0 s b m hres; unfold resE at hres; rw [e6] at hres; simp only at hres
              split at hres
              · rename_i ls' b' m' ho
                split at hres
                · rename_i vs' hp
                  cases hres; obtain ⟨ρ2, j1, j2, j3, j3', j4, j5⟩ := i2 nx ρ0 _ _ _ hn0 ho; exact ⟨ρ2, j1, j2, j3, j3', q294 (q184 e4 j4 hp), j5⟩
                · cases hres
              · cases hres
            · exact h1.elim
          · exact h1.elim
        · exact h1.elim
      · exact h1.elim
    · exact h1.elim
  · exact h1.elim
def recA : List Oper → Option (Nat × Nat)
  | [⟨some a, .call ⟨.builtin .recover, xs, _⟩, _, _, _, none⟩, ⟨some b, .assign (.tmp c), _, _, _, none⟩] => bif Nat.beq c a && Nat.beq xs.size 0 then some (a, b) else none
  | _ => none
def cloF (E : Env D) (n : Nat) (g : Nat) (caps : List (SV D)) (pv : Value) (st : St D) (K : St D → Prop) : Prop := match E.P.funcs[g]? with
  | some gn => match gn.body with
    | some (.seq (.region _ ops false) rest) => match recA ops.toList with
      | some (a, b) => cdP (entB E.P g && (Nat.ble caps.length gn.ntmps && (Nat.blt a gn.ntmps && (Nat.blt b gn.ntmps && Nat.beq gn.results.size 0))))
          (runC E (callX E n) gn.ntmps true rest [1, 9] [] ⟨setS (setS (q82 0 caps) a (.c pv)) b (.c pv), st.bk, st.kn, st.nx⟩ fun e st' => cdP (isEnd e) (K ⟨st.sl, st'.bk, st'.kn, st'.nx⟩) False) False
      | none => False
    | _ => False
  | none => False
def panV : Exit → Option Value
  | .panic [⟨v, false, false⟩] => some v
  | _ => none
def dfrT : Oper → Option Nat
  | ⟨none, .defer ⟨.value (.tmp t), xs, _⟩, _, _, _, none⟩ => bif Nat.beq xs.size 0 then some t else none
  | _ => none
theorem recA_ok {l : List Oper} {a b : Nat} (h : recA l = some (a, b)) : ∃ ts ty ps af ty' ps' af', l = [⟨some a, .call ⟨.builtin .recover, #[], ts⟩, ty, ps, af, none⟩, ⟨some b, .assign (.tmp a), ty', ps', af', none⟩] := by
  unfold recA at h
  split at h
  · rename_i a0 xs ts ty ps af b0 c ty' ps' af'
    have hh := cif h; clear h; obtain ⟨h1, h2⟩ := hh; cases h2; rw [Bool.and_eq_true] at h1; obtain rfl := Nat.eq_of_beq_eq_true h1.1; obtain rfl : xs = #[] := Array.eq_empty_of_size_eq_zero (Nat.eq_of_beq_eq_true h1.2); exact ⟨ts, ty, ps, af, ty', ps', af', rfl⟩
  · cases h
section
variable {P : Program}
theorem q297 {fn : Func} {R : Ending → World → Prop} {tm : Array Value} {B : List Deferred} {u : FrameMode} (hu : u ≠ .run) {X : List Ent} : ∀ (ms : List Nat) {w : World}, Mem w0 H0 w H (mkO ms ++ X) → (∀ w', Mem w0 H0 w' H X → LeavesInM Fence.wide 0 P fn tm R B u w') → LeavesInM Fence.wide 0 P fn tm R (mkD ms ++ B) u w
  | [], w, hM, k => k w hM
  | b :: ms, _, hM, k => ⟨hu, .inl ⟨b, _, rfl, run_takeDeferred (hM.objAt (k := 0) rfl), q297 hu ms ((hM.putObj 0 rfl (.deferred none)).sub (List.sublist_cons_self _ _)) k⟩⟩
theorem lvM_clo {fn gn : Func} {R : Ending → World → Prop} {tm : Array Value} {g a b id : Nat} {ops : Array Oper} {rest : Code} {lb : List Value} {u u' : FrameMode} {v : Value} {w : World} (hen : Enters P g) (hgn : P.funcs[g]? = some gn) (hbd : gn.body = some (.seq (.region id ops false) rest)) (hrec : recA ops.toList = some (a, b)) (hres : gn.results = #[])
    (ha : dstOk (some a) gn.ntmps = true) (hb : dstOk (some b) gn.ntmps = true) (hN : lb.length ≤ gn.ntmps) (hm : (u = .returning ∧ v = .nilIface ∧ u' = .returning) ∨ (u = .panicking [⟨v, false, false⟩] ∧ u' = .panicking [⟨v, true, false⟩]))
    (h : CW none 0 P gn.ntmps rest (fun e D _ w' => (e = .ret ∨ e = .normal) ∧ D = [] ∧ LeavesInM Fence.wide 0 P fn tm R [] .returning w') [] (upd (upd (sl (enumA 0 lb) fun _ => undef) (some a) v) (some b) v) w) :
    LeavesInM Fence.wide 0 P fn tm R [⟨.fn (.func g) lb.toArray, #[]⟩] u w := by
  have hu : u ≠ .run := by rcases hm with ⟨rfl, _⟩ | ⟨rfl, _⟩ <;> simp
  have hset : settle u' = .returning := by rcases hm with ⟨_, _, rfl⟩ | ⟨_, rfl⟩ <;> rfl
  refine ⟨hu, .inr ⟨fun h => by simp [Fence.wide] at h, .func g, lb.toArray, g, lb.toArray, rfl, ?_, fun _ _ => trivial, ?_⟩⟩
  · have := hen lb.toArray w
    simp [invoke, this]
  · refine callsDIn_of_wpSIn hgn hbd trivial fun c₀ cs hc => ?_
    obtain ⟨ts, ty, ps, af, ty', ps', af', hl⟩ := recA_ok hrec; obtain ⟨l⟩ := ops; have hl : l = _ := hl; subst hl
    have fin : ∀ cs', cs' = { c₀ with mode := u' } :: cs → rest.wpSIn Fence.wide (0 - 1) P (bodyPostS P gn c₀ cs fun
          | .returned _, u', w' => LeavesInM Fence.wide 0 P fn tm R [] (settle u') w'
          | .panicked chain, u', w' => LeavesInM Fence.wide 0 P fn tm R [] (raised u' chain) w'
          | .outgrown, _, w' => R .outgrown w') ((({ tmps := lb.toArray ++ Array.replicate (gn.ntmps - lb.toArray.size) undef, defers := [] } : Act).put (some a) v).put (some b) v) cs' w := by
      rintro _ rfl
      refine wpSIn_of_wpIn rfl (wpIn_mono (h _ (((q130 lb.toArray gn.ntmps (by simpa using hN)).put ha v).put hb v)) ?_)
      rintro e a' w' ⟨D', σ', h1, he, hD, hL⟩
      have hd : a'.defers = [] := h1.1.trans hD; have hr : (results gn a'.tmps).run P w' = .ok (.tuple #[]) w' := by rw [results_none hres]
      rcases he with rfl | rfl
      · exact ⟨hd, u', rfl, .tuple #[], hr, (show LeavesInM Fence.wide 0 P fn tm R [] (settle u') w' by rw [hset]; exact hL)⟩
      · exact ⟨hd, u', rfl, .tuple #[], hr, (show LeavesInM Fence.wide 0 P fn tm R [] (settle u') w' by rw [hset]; exact hL)⟩
    have hev : (({ tmps := lb.toArray ++ Array.replicate (gn.ntmps - lb.toArray.size) undef, defers := [] } : Act).put (some a) v).eval (.tmp a) = v := by
      rw [((q130 lb.toArray gn.ntmps (by simpa using hN)).put ha v).eval]; show (bif Nat.beq a a then v else _) = v; rw [Nat.beq_refl]; rfl
    refine wpSIn_seq (wpSIn_region ?_); refine And.intro (fun _ _ => trivial) ?_
    show (match recoverD (c₀ :: cs) with
      | some (v, cs') => wpOpsSIn _ _ _ _ _ [1] (Act.put _ (some a) v) cs' w
      | none => wpOpsSIn _ _ _ _ _ [1] (Act.put _ (some a) .nilIface) (c₀ :: cs) w)
    rcases hm with ⟨hu1, rfl, rfl⟩ | ⟨hu1, rfl⟩
    · have hrd : recoverD (c₀ :: cs) = none := by simp [recoverD, hc, hu1]
      rw [hrd]; refine And.intro (fun _ _ => trivial) ?_; rw [if_pos (show Region.wanted _ _ = true from rfl)]; show wpOpsSIn _ _ _ _ _ [] (Act.put _ (some b) (Act.eval _ (.tmp a))) _ w; rw [hev]; exact fin _ (by rw [← hu1, ← hc])
    · have hrd : recoverD (c₀ :: cs) = some (v, { c₀ with mode := .panicking [⟨v, true, false⟩] } :: cs) := by simp [recoverD, hc, hu1]
      rw [hrd]; refine And.intro (fun _ _ => trivial) ?_; rw [if_pos (show Region.wanted _ _ = true from rfl)]; show wpOpsSIn _ _ _ _ _ [] (Act.put _ (some b) (Act.eval _ (.tmp a))) _ w; rw [hev]; exact fin _ rfl
end
def topD (E : Env D) (n : Nat) (f : Nat) (ps rs : List Nat) (own : List (List Bool)) (x : TupD D ps) (Φ : TupD D rs → Prop) : Prop := match tupC E.tb ps x with
  | some ls => match packs E.P ps ls with
    | some vs => match E.P.funcs[f]? with
      | some fn => match fn.body with
        | some (.seq (.region _ ops1 false) (.seq (.region _ ops2 false) rest)) => cdP (Nat.ble vs.length fn.ntmps) (runR E (callX E n) fn.ntmps [] [0] ops1 0 ops1.toList ⟨q82 0 vs, [], [], 0⟩ (fun st1 => match ops2.toList with
          | [o1, o2] => match dfrT o2 with
            | some t => cdP (dstOk o1.dst fn.ntmps && o1.guard.isNone) (stepE E (callX E n) [] [10, 0, 1] o1 st1 (fun st2 => match getS st2.sl t with
              | some (.fn g caps) => runC E (callX E n) fn.ntmps false rest [1, 1] [] st2 fun e st3 => match panV e with
                | some v => cloF E n g caps v st3 (retF E.P E.tb fn rs own Φ)
                | none => cdP (isEnd e) (cloF E n g caps .nilIface st3 (retF E.P E.tb fn rs own Φ)) False
              | _ => False) fun _ _ => False) False
            | none => False
          | _ => False) fun _ _ => False) False
        | _ => False
      | none => False
    | none => False
  | none => False
theorem panV_ok {e : Exit} {v : Value} (h : panV e = some v) : e = .panic [⟨v, false, false⟩] := by
  unfold panV at h
  split at h
  · cases h; rfl
  · cases h
theorem dfrT_ok {o : Oper} {t : Nat} (h : dfrT o = some t) : ∃ ts ty ps af, o = ⟨none, .defer ⟨.value (.tmp t), #[], ts⟩, ty, ps, af, none⟩ := by
  unfold dfrT at h
  split at h
  · rename_i t' xs ts ty ps af
    have hh := cif h; clear h; obtain ⟨h1, h2⟩ := hh; cases h2; obtain rfl : xs = #[] := Array.eq_empty_of_size_eq_zero (Nat.eq_of_beq_eq_true h1); exact ⟨ts, ty, ps, af, rfl⟩
  · cases h
theorem q584 (hE : E.Ok) (n : Nat) (h0 : E.G H0) {fn : Func} {rs : List Nat} {own : List (List Bool)} {Φ : TupD D rs → Prop} {g : Nat} {caps : List (SV D)} {cs : List Value} {v : Value} {u u' : FrameMode} {tm : Array Value} (h : cloF E n g caps v st (retF E.P E.tb fn rs own Φ)) (hs : Sat [] [] w0 H0 [] H ρ L st σ w) (hcs : RvL H ρ cs caps)
    (hm : (u = .returning ∧ v = .nilIface ∧ u' = .returning) ∨ (u = .panicking [⟨v, false, false⟩] ∧ u' = .panicking [⟨v, true, false⟩])) (hra : ∀ D', Rep fn.ntmps D' σ { tmps := tm, defers := D' }) :
    LeavesInM Fence.wide 0 E.P fn tm (fun e w' => ∃ v, e = .returned v ∧ ∃ H' L', Mem w0 H0 w' H' L' ∧ ∃ y, Φ y ∧ ResR E.P E.tb rs own y H' v L') [⟨.fn (.func g) cs.toArray, #[]⟩] u w := by
  unfold cloF at h
  split at h
  · rename_i gn hgn
    split at h
    · rename_i id ops rest hbd
      split at h
      · rename_i a b hrec
        obtain ⟨hq, h⟩ := cifP h; simp only [Bool.and_eq_true] at hq; obtain ⟨q0, q1, q2, q3, q4⟩ := hq; have hl := RvL.length hcs; refine lvM_clo (q163 q0) hgn hbd hrec (Array.eq_empty_of_size_eq_zero (Nat.eq_of_beq_eq_true q4)) q2 q3 (by have := Nat.le_of_ble_eq_true q1; omega) hm ?_; have hsl : SlR H ρ (setS (setS (q82 0 caps) a (.c v)) b (.c v)) (upd (upd (sl (enumA 0 cs) fun _ => undef) (some a) v) (some b) v) := ((q106 hcs).put (v := .c v) (show v = v from rfl) (some a)).put (v := .c v) (show v = v from rfl) (some b); have hs1 : Sat [] [] w0 H0 (mkO [] ++ []) H ρ L (⟨setS (setS (q82 0 caps) a (.c v)) b (.c v), st.bk, st.kn, st.nx⟩ : St D) (upd (upd (sl (enumA 0 cs) fun _ => undef) (some a) v) (some b) v) w := ⟨hs.mem, hsl, hs.bk, hs.fr, hs.kn, hs.nx⟩
        refine q373 (rd := true) (ms := []) (B := []) (R := []) hE h0 rest (q223 hE h0 n) (fun t => Bool.noConfusion t) hs1 h fun e => ?_; intro ms' st5 σ5 w5 H5 ρ5 L5 hk5 hmm hle hρ hs5; obtain rfl : ms' = [] := hmm rfl; obtain ⟨he, hk5⟩ := cifP hk5; have hs6 : Sat [] [] w0 H0 [] H5 ρ5 L5 (⟨st.sl, st5.bk, st5.kn, st5.nx⟩ : St D) σ w5 := ⟨hs5.mem, hs.sl.mono hle hρ, hs5.bk, hs5.fr, hs5.kn, hs5.nx⟩
        obtain ⟨ux, H2, S, r1, r2, y, r3, r4⟩ := retF_ok hE hk5 hs6; exact ⟨q143 he, rfl, q216 ux, r1 _ (hra []), q216 ux, rfl, H2, S, r2, y, r3, r4⟩
      · exact h.elim
    · exact h.elim
  · exact h.elim
theorem RetP.of_codeD {P : Program} {f : FuncId} {fn : Func} {c : Code} {args : Array Value} {H : Hp} {Φ : Hp → Value → List Ent → Prop} (hf : P.funcs[f]? = some fn) (hb : fn.body = some c) (hN : args.size ≤ fn.ntmps)
    (h : ∀ w, Mem w H w H [] → CW none 0 P fn.ntmps c (fun e D σ w1 => ∀ a, Rep fn.ntmps D σ a → bodyPostM Fence.wide 0 P fn (fun e w' => ∃ v, e = .returned v ∧ ∃ H' L', Mem w H w' H' L' ∧ Φ H' v L') e a w1) [] (sl (enumA 0 args.toList) fun _ => undef) w) : RetP P f args H Φ := fun w hw =>
  (callsIn_wide (n := 0).1 (callsIn_of_wp_marks (F := Fence.wide) hf hb trivial (wpIn_mono (h w (Mem.start hw) _ (q130 args fn.ntmps hN)) fun _ a _ ⟨_, _, h1, h2⟩ => h2 a h1))).mono fun _ _ ⟨v, h1, H', L', hM, hΦ⟩ => ⟨v, H', L', h1, hM, hΦ⟩
theorem Ct.liftD (hE : E.Ok) (n : Nat) (c : Ct D) (h : ∀ x Φ, c.W x Φ → topD E n c.f c.ps c.rs c.own x Φ) : c.Ok E.P E.tb E.G := by
  intro x Φ hW H vs hGH hA; have hF := h x Φ hW; unfold topD at hF
  split at hF
  · rename_i ls hls
    split at hF
    · rename_i svs hsv
      split at hF
      · rename_i fn hfn
        split at hF
        · rename_i id1 ops1 id2 ops2 rest hcd
          obtain ⟨hN, hF⟩ := cifP hF; obtain ⟨cs, g1, g2⟩ := q141 (ρ := fun _ => none) hE.tb hA hls; have g3 := q184 g1 g2 hsv; refine RetP.of_codeD hfn hcd (by have := Nat.le_of_ble_eq_true hN; simpa [RvL.length g3] using this) fun w hM => ?_; have hs0 : Sat [] [] w H [] H (fun _ => none) [] (⟨q82 0 svs, [], [], 0⟩ : St D) (sl (enumA 0 vs) fun _ => undef) w := ⟨hM, q106 g3, rfl, rfl, (fun _ _ h => nomatch h), fun _ _ => rfl⟩
          obtain ⟨l1⟩ := ops1; refine CW.seq (CW.region (q370 hE hGH (q223 hE hGH n) hs0 hF ?_ fun _ _ _ _ _ _ _ hf => hf.elim)); intro st1 σ1 w1 H1 ρ1 L1 hk le1 le2 hs1
          split at hk
          · rename_i o1 o2 hops
            split at hk
            · rename_i t ht
              obtain ⟨hgd, hk⟩ := cifP hk; rw [Bool.and_eq_true] at hgd; obtain ⟨l2⟩ := ops2; have hops : l2 = [o1, o2] := hops; subst hops
              have hgo : gdOk (Array.mk [o1, o2]) σ1 o1.guard = true := by
                cases hg : o1.guard with
                | none => rfl
                | some j => rw [hg] at hgd; exact absurd hgd.2 (by simp)
              refine CW.seq (CW.region (q369 hE hGH (q223 hE hGH n) hs1 hk hgo hgd.1 ?_ fun _ _ _ _ _ _ _ hf => hf.elim)); intro st2 σ2 w2 H2 ρ2 L2 hk2 le3 le4 hs2
              split at hk2
              · rename_i g caps hgt
                obtain ⟨ts, ty, ps, af, rfl⟩ := dfrT_ok ht; obtain ⟨cv, e1, e2⟩ := hs2.sl _ _ hgt; refine RW.defer e1 rfl rfl (RW.nil ?_); refine q373 (ms := []) (B := [⟨.fn (.func g) cv.toArray, #[]⟩]) (R := []) hE hGH rest (q223 hE hGH n) (fun _ => ⟨rfl, rfl⟩) hs2 hk2 fun e => ?_; intro ms' st3 σ3 w3 H3 ρ3 L3 hk3 _ le5 le6 hs3; intro a hra; have hd : a.defers = mkD ms' ++ [⟨.fn (.func g) cv.toArray, #[]⟩] := hra.1; have hM3 := hs3.mem.perm (q374 _ _ _ _); have hrp : ∀ D', Rep fn.ntmps D' σ3 { tmps := a.tmps, defers := D' } := fun D' => ⟨rfl, hra.2.1, hra.2.2⟩
                cases hp : panV e with
                | some v =>
                  obtain rfl := panV_ok hp; rw [hp] at hk3; show LeavesInM _ _ _ _ _ _ a.defers _ _; rw [hd]; exact q297 (by simp) ms' hM3 fun w4 hw4 => q584 hE n hGH hk3 (hs3.reR hw4) (RvL.mono le5 le6 _ e2) (.inr ⟨rfl, rfl⟩) hrp
                | none =>
                  rw [hp] at hk3; obtain ⟨he, hk3⟩ := cifP hk3
                  have fin : LeavesInM Fence.wide 0 E.P fn a.tmps (fun e w' => ∃ v, e = .returned v ∧ ∃ H' L', Mem w H w' H' L' ∧ ∃ y, Φ y ∧ ResR E.P E.tb c.rs c.own y H' v L') a.defers .returning w3 := by
                    rw [hd]; exact q297 (by simp) ms' hM3 fun w4 hw4 => q584 hE n hGH hk3 (hs3.reR hw4) (RvL.mono le5 le6 _ e2) (.inl ⟨rfl, rfl, rfl⟩) hrp
                  rcases q143 he with rfl | rfl
                  · exact fin
                  · exact fin
              · exact hk2.elim
            · exact hk.elim
          · exact hk.elim
        · exact hF.elim
      · exact hF.elim
    · exact hF.elim
  · exact hF.elim
end
end
end Go.Proofs.YtpobhmleblaccaaGreat
namespace Go.Proofs.YtpobhmleblaccaaGreat
section
section
variable {α : Type} (le : α → α → Bool)
def insG (x : α) : List α → List α
  | [] => [x]
  | y :: r => bif le x y then x :: y :: r else y :: insG x r
def sortG : List α → List α
  | [] => []
  | x :: r => insG le x (sortG r)
end
end
end Go.Proofs.YtpobhmleblaccaaGreat
namespace Go.Proofs.YtpobhmleblaccaaGreat
open Go.RowKit
section
section
variable {α : Type} [Inhabited α]
theorem q585 (enc : α → Value) {w : World} {g : Nat} (off : Nat) (d : Array α) {cur : Array Value} {e : TypeId} {fr : Nat × Nat} (h : w.heap[g]? = some (.cells cur e fr)) : (Sort.putRow enc w g off d).heap[g]? = some (.cells (Sort.putCells enc off d cur) e fr) := by
  simp [Sort.putRow, Sort.mapBlock, Array.getElem?_modify, h, Sort.onCells]
theorem q586 (enc : α → Value) {w : World} {g : Nat} (off m : Nat) (d : Array α) (os : Array Obj) {cur : Array Value} {e : TypeId} {fr : Nat × Nat} (h : w.heap[g]? = some (.cells cur e fr)) : (Sort.grow (Sort.putRow enc (Sort.ahead w m) g off d) os).heap[g]? = some (.cells (Sort.putCells enc off d cur) e fr) := by
  have h1 := q585 enc (w := Sort.ahead w m) off d h; rw [Sort.heap_grow_old _ _ (q31 h1)]; exact h1
theorem q338 (enc : α → Value) {w : World} {g k : Nat} (off m : Nat) (d : Array α) (os : Array Obj) (hk : k < w.heap.size) (hne : k ≠ g) : (Sort.grow (Sort.putRow enc (Sort.ahead w m) g off d) os).heap[k]? = w.heap[k]? := by
  have hs : k < (Sort.putRow enc (Sort.ahead w m) g off d).heap.size := by simpa [Sort.putRow, Sort.mapBlock, Sort.ahead] using hk
  rw [Sort.heap_grow_old _ _ hs]; simp [Sort.putRow, Sort.mapBlock, Array.getElem?_modify, Sort.ahead, hne.symm]
theorem q256 (enc : α → Value) {w : World} {g : Nat} (off m : Nat) (d : Array α) (os : Array Obj) : w.grownBy (Sort.grow (Sort.putRow enc (Sort.ahead w m) g off d) os) (some g) :=
  ⟨rfl, rfl, rfl, by simp [Sort.grow, Sort.putRow, Sort.mapBlock, Sort.ahead], fun k hk hne => q338 enc off m d os hk (fun e => hne (by rw [e]))⟩
theorem q376 (enc : α → Value) (d : Array α) (cur : Array Value) (h : d.size ≤ cur.size) : (Sort.putCells enc 0 d cur).toList.take d.size = d.toList.map enc := by
  apply List.ext_getElem?
  intro i; by_cases hi : i < d.size
  · rw [List.getElem?_take_of_lt hi]
    have hc : i < cur.size := by omega
    simp [Sort.putCells, hi, hc]
  · rw [List.getElem?_eq_none, List.getElem?_eq_none]
    · simpa using hi
    · simp; omega
theorem q298 (enc : α → Value) {w : World} {base : Nat} {e : TypeId} {k g n cap : Nat} {s : List Value} (m : Nat) (d : Array α) (os : Array Obj) (ho : w.ownsRow base e k (.slice (some ⟨g, 0, none⟩) n cap) n s) (hd : d.size = n * k) :
    (Sort.grow (Sort.putRow enc (Sort.ahead w m) g 0 d) os).ownsRow base e k (.slice (some ⟨g, 0, none⟩) n cap) n (d.toList.map enc) := by
  obtain ⟨h1, ⟨h2, _⟩ | ⟨g', cap', cur, h2, h3, h4, h5, h6, h7, h8⟩⟩ := ho
  · cases h2
  · cases h2
    refine ⟨by simp [hd], .inr ⟨g, cap, Sort.putCells enc 0 d cur, rfl, h3, q586 enc 0 m d os h4, h5, h6, by simp [Sort.putCells, h7], ?_⟩⟩; rw [← hd]; exact q376 enc d cur (by rw [hd, h7]; exact Nat.mul_le_mul_right _ h5)
theorem q339 {enc : α → Value} {w : World} {base : Nat} {e : TypeId} {k g n cap : Nat} {s : List Value} {d : Array α} (ho : w.ownsRow base e k (.slice (some ⟨g, 0, none⟩) n cap) n s) (hs : s = d.toList.map enc) : Sort.Holds enc w g 0 d ∧ g < w.heap.size := by
  obtain ⟨h1, ⟨h2, _⟩ | ⟨g', cap', cur, h2, h3, h4, h5, h6, h7, h8⟩⟩ := ho
  · cases h2
  · cases h2
    refine ⟨fun j hj => ?_, q31 h4⟩; have hn : d.size = n * k := by rw [← h1, hs]; simp
    have hc : cur[j]? = some (enc d[j]!) := by
      have h9 : (cur.toList.take (n * k))[j]? = some (enc d[j]!) := by
        rw [h8, hs, List.getElem?_map]; simp [hj]
      rw [List.getElem?_take_of_lt (by omega)] at h9; simpa using h9
    refine ⟨?_, ?_⟩
    · simp [World.cell?, h4, hc]
    · simp only [World.frozen?, h4]; simp
end
def insI (x : Int) : List Int → List Int
  | [] => [x]
  | y :: r => if x ≤ y then x :: y :: r else y :: insI x r
def sortI : List Int → List Int
  | [] => []
  | x :: r => insI x (sortI r)
theorem q299 (x : Int) : ∀ l : List Int, (insI x l).Perm (x :: l)
  | [] => List.Perm.refl _
  | y :: r => by
    unfold insI
    split
    · exact List.Perm.refl _
    · exact ((q299 x r).cons y).trans (List.Perm.swap x y r)
theorem q185 : ∀ l : List Int, (sortI l).Perm l
  | [] => List.Perm.refl _
  | x :: r => (q299 x (sortI r)).trans ((q185 r).cons x)
theorem q300 (x : Int) : ∀ l : List Int, l.Pairwise (· ≤ ·) → (insI x l).Pairwise (· ≤ ·)
  | [], _ => by simp [insI]
  | y :: r, h => by
    have h1 := List.pairwise_cons.1 h; unfold insI
    split
    · rename_i hxy
      refine List.pairwise_cons.2 ⟨fun z hz => ?_, h⟩; rcases List.mem_cons.1 hz with rfl | hz
      · exact hxy
      · have := h1.1 z hz; omega
    · rename_i hxy
      refine List.pairwise_cons.2 ⟨fun z hz => ?_, q300 x r h1.2⟩; rcases List.mem_cons.1 ((q299 x r).mem_iff.1 hz) with rfl | hz
      · omega
      · exact h1.1 z hz
theorem q257 : ∀ l : List Int, (sortI l).Pairwise (· ≤ ·)
  | [] => List.Pairwise.nil
  | x :: r => q300 x _ (q257 r)
theorem q446 (l : List Int) : (l.mergeSort fun x y => decide (x ≤ y)) = sortI l := by
  refine List.Perm.eq_of_pairwise (le := fun x y : Int => x ≤ y) (fun a b _ _ h1 h2 => by omega) ?_ (q257 l) ((List.mergeSort_perm l _).trans (q185 l).symm); have := List.pairwise_mergeSort (le := fun x y : Int => decide (x ≤ y)) (fun a b c h1 h2 => by simp at *; omega) (fun a b => by simp; omega) l; simpa using this
theorem DtL.ints {H : Hp} : ∀ {xs : List Int} {cs : List Value}, DtL H cs xs → cs = xs.map (Value.int .i64)
  | [], _, h => h
  | _ :: _, _, ⟨_, _, h, h1, h2⟩ => by rw [h, show _ = [Value.int .i64 _] from h1, DtL.ints h2]; rfl
theorem DtL.ofInts {H : Hp} : ∀ (xs : List Int), DtL H (xs.map (Value.int .i64)) xs
  | [] => rfl
  | x :: xs => ⟨[.int .i64 x], xs.map _, rfl, rfl, DtL.ofInts xs⟩
end
structure q17 where
  Kind : BitVec 8
  Volume : BitVec 8
  Start : BitVec 8
  Count : BitVec 8
  First : BitVec 8
  deriving DecidableEq
instance dt_standbytop_PlayFan : Dt q17 where
  default := ⟨0#8, 0#8, 0#8, 0#8, 0#8⟩
  sz := 5
  rd H cs x := cs = [u8 (x.Kind), u8 (x.Volume), u8 (x.Start), u8 (x.Count), u8 (x.First)]
  len h := by rw [h]; rfl
  mono h _ := h
  one h := by rw [h]; exact q81 ⟨rfl, rfl, rfl, rfl, rfl, trivial⟩
structure q8 where
  Volume : Int
  Start : Int
  Data : List Sec
  deriving DecidableEq
instance dt_api_Write : Dt q8 where
  default := ⟨0, 0, []⟩
  sz := 3
  rd H cs x := ∃ A0 n0 c0 s0, cs = [.int .i64 (x.Volume), .int .i64 (x.Start), .slice A0 n0 c0] ∧ Fz H A0 n0 c0 x.Data s0
  len := fun ⟨A0, n0, c0, s0, h, h0⟩ => by rw [h]; rfl
  mono := fun ⟨A0, n0, c0, s0, h, h0⟩ hle => ⟨A0, n0, c0, s0, h, h0.mono hle⟩
  one := fun ⟨A0, n0, c0, s0, h, h0⟩ => by rw [h]; exact q81 ⟨rfl, rfl, rfl, trivial⟩
structure q12 where
  Number : Int
  Sizes : List Int
  Positions : List Int
  Nodes : List Int
  Writes : List q8
  deriving DecidableEq
instance dt_api_Capture : Dt q12 where
  default := ⟨0, [], [], [], []⟩
  sz := 5
  rd H cs x := ∃ A0 n0 c0 s0, ∃ A1 n1 c1 s1, ∃ A2 n2 c2 s2, ∃ A3 n3 c3 s3, cs = [.int .i64 (x.Number), .slice A0 n0 c0, .slice A1 n1 c1, .slice A2 n2 c2, .slice A3 n3 c3] ∧ Fz H A0 n0 c0 x.Sizes s0 ∧ Fz H A1 n1 c1 x.Positions s1 ∧ Fz H A2 n2 c2 x.Nodes s2 ∧ Fz H A3 n3 c3 x.Writes s3
  len := fun ⟨A0, n0, c0, s0, A1, n1, c1, s1, A2, n2, c2, s2, A3, n3, c3, s3, h, h0, h1, h2, h3⟩ => by rw [h]; rfl
  mono := fun ⟨A0, n0, c0, s0, A1, n1, c1, s1, A2, n2, c2, s2, A3, n3, c3, s3, h, h0, h1, h2, h3⟩ hle => ⟨A0, n0, c0, s0, A1, n1, c1, s1, A2, n2, c2, s2, A3, n3, c3, s3, h, h0.mono hle, h1.mono hle, h2.mono hle, h3.mono hle⟩
  one := fun ⟨A0, n0, c0, s0, A1, n1, c1, s1, A2, n2, c2, s2, A3, n3, c3, s3, h, h0, h1, h2, h3⟩ => by rw [h]; exact q81 ⟨rfl, rfl, rfl, rfl, rfl, trivial⟩
structure q10 where
  Base : Int
  Number : Int
  Time : Int
  Positions : List Int
  Writes : List q8
  deriving DecidableEq
instance dt_api_Cycle : Dt q10 where
  default := ⟨0, 0, 0, [], []⟩
  sz := 5
  rd H cs x := ∃ A0 n0 c0 s0, ∃ A1 n1 c1 s1, cs = [.int .i64 (x.Base), .int .i64 (x.Number), .int .i64 (x.Time), .slice A0 n0 c0, .slice A1 n1 c1] ∧ Fz H A0 n0 c0 x.Positions s0 ∧ Fz H A1 n1 c1 x.Writes s1
  len := fun ⟨A0, n0, c0, s0, A1, n1, c1, s1, h, h0, h1⟩ => by rw [h]; rfl
  mono := fun ⟨A0, n0, c0, s0, A1, n1, c1, s1, h, h0, h1⟩ hle => ⟨A0, n0, c0, s0, A1, n1, c1, s1, h, h0.mono hle, h1.mono hle⟩
  one := fun ⟨A0, n0, c0, s0, A1, n1, c1, s1, h, h0, h1⟩ => by rw [h]; exact q81 ⟨rfl, rfl, rfl, rfl, rfl, trivial⟩
structure q13 where
  Limit : Int
  Kept : List q10
  Applied : List Int
  Lost : List Bool
  deriving DecidableEq
instance dt_api_Fanout : Dt q13 where
  default := ⟨0, [], [], []⟩
  sz := 4
  rd H cs x := ∃ A0 n0 c0 s0, ∃ A1 n1 c1 s1, ∃ A2 n2 c2 s2, cs = [.int .i64 (x.Limit), .slice A0 n0 c0, .slice A1 n1 c1, .slice A2 n2 c2] ∧ Fz H A0 n0 c0 x.Kept s0 ∧ Fz H A1 n1 c1 x.Applied s1 ∧ Fz H A2 n2 c2 x.Lost s2
  len := fun ⟨A0, n0, c0, s0, A1, n1, c1, s1, A2, n2, c2, s2, h, h0, h1, h2⟩ => by rw [h]; rfl
  mono := fun ⟨A0, n0, c0, s0, A1, n1, c1, s1, A2, n2, c2, s2, h, h0, h1, h2⟩ hle => ⟨A0, n0, c0, s0, A1, n1, c1, s1, A2, n2, c2, s2, h, h0.mono hle, h1.mono hle, h2.mono hle⟩
  one := fun ⟨A0, n0, c0, s0, A1, n1, c1, s1, A2, n2, c2, s2, h, h0, h1, h2⟩ => by rw [h]; exact q81 ⟨rfl, rfl, rfl, rfl, trivial⟩
structure q16 where
  Kind : BitVec 8
  Volume : BitVec 8
  Start : BitVec 8
  Count : BitVec 8
  First : BitVec 8
  deriving DecidableEq
instance dt_standbytop_PlayStep : Dt q16 where
  default := ⟨0#8, 0#8, 0#8, 0#8, 0#8⟩
  sz := 5
  rd H cs x := cs = [u8 (x.Kind), u8 (x.Volume), u8 (x.Start), u8 (x.Count), u8 (x.First)]
  len h := by rw [h]; rfl
  mono h _ := h
  one h := by rw [h]; exact q81 ⟨rfl, rfl, rfl, rfl, rfl, trivial⟩
structure q30 where
  c : q12
  part : List Bool
  deriving DecidableEq
instance dt_cycle_division : Dt q30 where
  default := ⟨default, []⟩
  sz := 6
  rd H cs x := ∃ A0 n0 c0 s0, ∃ A1 n1 c1 s1, ∃ A2 n2 c2 s2, ∃ A3 n3 c3 s3, ∃ A4 n4 c4 s4, cs = [.int .i64 (x.c.Number), .slice A0 n0 c0, .slice A1 n1 c1, .slice A2 n2 c2, .slice A3 n3 c3, .slice A4 n4 c4] ∧ Fz H A0 n0 c0 x.c.Sizes s0 ∧ Fz H A1 n1 c1 x.c.Positions s1 ∧ Fz H A2 n2 c2 x.c.Nodes s2 ∧ Fz H A3 n3 c3 x.c.Writes s3 ∧ Fz H A4 n4 c4 x.part s4
  len := fun ⟨A0, n0, c0, s0, A1, n1, c1, s1, A2, n2, c2, s2, A3, n3, c3, s3, A4, n4, c4, s4, h, h0, h1, h2, h3, h4⟩ => by rw [h]; rfl
  mono := fun ⟨A0, n0, c0, s0, A1, n1, c1, s1, A2, n2, c2, s2, A3, n3, c3, s3, A4, n4, c4, s4, h, h0, h1, h2, h3, h4⟩ hle => ⟨A0, n0, c0, s0, A1, n1, c1, s1, A2, n2, c2, s2, A3, n3, c3, s3, A4, n4, c4, s4, h, h0.mono hle, h1.mono hle, h2.mono hle, h3.mono hle, h4.mono hle⟩
  one := fun ⟨A0, n0, c0, s0, A1, n1, c1, s1, A2, n2, c2, s2, A3, n3, c3, s3, A4, n4, c4, s4, h, h0, h1, h2, h3, h4⟩ => by rw [h]; exact q81 ⟨rfl, rfl, rfl, rfl, rfl, rfl, trivial⟩
structure q9 where
  volume : Int
  sector : Int
  deriving DecidableEq
instance dt_coalesce_place : Dt q9 where
  default := ⟨0, 0⟩
  sz := 2
  rd H cs x := cs = [.int .i64 (x.volume), .int .i64 (x.sector)]
  len h := by rw [h]; rfl
  mono h _ := h
  one h := by rw [h]; exact q81 ⟨rfl, rfl, trivial⟩
  ks := some ([.i .i64, .i .i64], fun x => [.i .i64 x.volume, .i .i64 x.sector])
  ksOk := fun _ _ h => by
    cases h; refine ⟨fun _ _ _ => Iff.rfl, fun _ => rfl, fun a b h => ?_⟩; obtain ⟨a_0, a_1⟩ := a; obtain ⟨b_0, b_1⟩ := b; simp only [List.cons.injEq, Sc.i.injEq, true_and, and_true] at h; obtain ⟨e0, e1⟩ := h; subst e0; subst e1; rfl
structure q18 where
  Start : Int
  Count : Int
  deriving DecidableEq
instance dt_api_Extent : Dt q18 where
  default := ⟨0, 0⟩
  sz := 2
  rd H cs x := cs = [.int .i64 (x.Start), .int .i64 (x.Count)]
  len h := by rw [h]; rfl
  mono h _ := h
  one h := by rw [h]; exact q81 ⟨rfl, rfl, trivial⟩
structure q15 where
  Epoch : Int
  Site : Int
  Offered : List Int
  Stored : Int
  Applied : Int
  deriving DecidableEq
instance dt_api_CommitSource : Dt q15 where
  default := ⟨0, 0, [], 0, 0⟩
  sz := 5
  rd H cs x := ∃ A0 n0 c0 s0, cs = [.int .i64 (x.Epoch), .int .i64 (x.Site), .slice A0 n0 c0, .int .i64 (x.Stored), .int .i64 (x.Applied)] ∧ Fz H A0 n0 c0 x.Offered s0
  len := fun ⟨A0, n0, c0, s0, h, h0⟩ => by rw [h]; rfl
  mono := fun ⟨A0, n0, c0, s0, h, h0⟩ hle => ⟨A0, n0, c0, s0, h, h0.mono hle⟩
  one := fun ⟨A0, n0, c0, s0, h, h0⟩ => by rw [h]; exact q81 ⟨rfl, rfl, rfl, rfl, rfl, trivial⟩
structure q14 where
  Epoch : Int
  Site : Int
  Stored : Int
  Applied : Int
  deriving DecidableEq
instance dt_api_CommitTarget : Dt q14 where
  default := ⟨0, 0, 0, 0⟩
  sz := 4
  rd H cs x := cs = [.int .i64 (x.Epoch), .int .i64 (x.Site), .int .i64 (x.Stored), .int .i64 (x.Applied)]
  len h := by rw [h]; rfl
  mono h _ := h
  one h := by rw [h]; exact q81 ⟨rfl, rfl, rfl, rfl, trivial⟩
structure q11 where
  Kind : Int
  From : Int
  To : Int
  Number : Int
  Value : Int
  Epoch : Int
  Values : List Int
  Body : List (BitVec 8)
  deriving DecidableEq
instance dt_api_Message : Dt q11 where
  default := ⟨0, 0, 0, 0, 0, 0, [], []⟩
  sz := 8
  rd H cs x := ∃ A0 n0 c0 s0, ∃ A1 n1 c1 s1, cs = [.int .i64 (x.Kind), .int .i64 (x.From), .int .i64 (x.To), .int .i64 (x.Number), .int .i64 (x.Value), .int .i64 (x.Epoch), .slice A0 n0 c0, .slice A1 n1 c1] ∧ Fz H A0 n0 c0 x.Values s0 ∧ Fz H A1 n1 c1 x.Body s1
  len := fun ⟨A0, n0, c0, s0, A1, n1, c1, s1, h, h0, h1⟩ => by rw [h]; rfl
  mono := fun ⟨A0, n0, c0, s0, A1, n1, c1, s1, h, h0, h1⟩ hle => ⟨A0, n0, c0, s0, A1, n1, c1, s1, h, h0.mono hle, h1.mono hle⟩
  one := fun ⟨A0, n0, c0, s0, A1, n1, c1, s1, h, h0, h1⟩ => by rw [h]; exact q81 ⟨rfl, rfl, rfl, rfl, rfl, rfl, rfl, rfl, trivial⟩
structure q44 where
  CommitSource : q15
  sent : List q11
  deriving DecidableEq
instance dt_commit_source : Dt q44 where
  default := ⟨default, []⟩
  sz := 6
  rd H cs x := ∃ A0 n0 c0 s0, ∃ A1 n1 c1 s1, cs = [.int .i64 (x.CommitSource.Epoch), .int .i64 (x.CommitSource.Site), .slice A0 n0 c0, .int .i64 (x.CommitSource.Stored), .int .i64 (x.CommitSource.Applied), .slice A1 n1 c1] ∧ Fz H A0 n0 c0 x.CommitSource.Offered s0 ∧ Fz H A1 n1 c1 x.sent s1
  len := fun ⟨A0, n0, c0, s0, A1, n1, c1, s1, h, h0, h1⟩ => by rw [h]; rfl
  mono := fun ⟨A0, n0, c0, s0, A1, n1, c1, s1, h, h0, h1⟩ hle => ⟨A0, n0, c0, s0, A1, n1, c1, s1, h, h0.mono hle, h1.mono hle⟩
  one := fun ⟨A0, n0, c0, s0, A1, n1, c1, s1, h, h0, h1⟩ => by rw [h]; exact q81 ⟨rfl, rfl, rfl, rfl, rfl, rfl, trivial⟩
structure q23 where
  CommitTarget : q14
  deriving DecidableEq
instance dt_commit_target : Dt q23 where
  default := ⟨default⟩
  sz := 4
  rd H cs x := cs = [.int .i64 (x.CommitTarget.Epoch), .int .i64 (x.CommitTarget.Site), .int .i64 (x.CommitTarget.Stored), .int .i64 (x.CommitTarget.Applied)]
  len h := by rw [h]; rfl
  mono h _ := h
  one h := by rw [h]; exact q81 ⟨rfl, rfl, rfl, rfl, trivial⟩
instance dtUnit : Dt Unit where
  default := ()
  sz := 0
  rd _ cs _ := cs = []
  len h := by rw [h]; rfl
  mono h _ := h
  one h := by rw [h]; intro u hu; cases hu
structure TyR where
  α : Type
  inst : Dt α
def tyOf (t : Nat) : TyR := bif Nat.beq t 4 then ⟨Bool, inferInstance⟩ else bif Nat.beq t 42 then ⟨q17, inferInstance⟩ else bif Nat.beq t 22 then ⟨List q17, inferInstance⟩ else bif Nat.beq t 3 then ⟨Int, inferInstance⟩ else bif Nat.beq t 24 then ⟨List Int, inferInstance⟩ else bif Nat.beq t 81 then ⟨Sec, inferInstance⟩ else bif Nat.beq t 82 then ⟨List Sec, inferInstance⟩ else bif Nat.beq t 29 then ⟨List (List Sec), inferInstance⟩ else bif Nat.beq t 43 then ⟨Int, inferInstance⟩ else bif Nat.beq t 28 then ⟨List (List Sec), inferInstance⟩ else bif Nat.beq t 89 then ⟨q8, inferInstance⟩ else bif Nat.beq t 27 then ⟨q12, inferInstance⟩ else bif Nat.beq t 48 then ⟨q10, inferInstance⟩ else bif Nat.beq t 34 then ⟨q13, inferInstance⟩ else bif Nat.beq t 168 then ⟨BitVec 64, inferInstance⟩ else bif Nat.beq t 195 then ⟨BitVec 64, inferInstance⟩ else bif Nat.beq t 5 then ⟨BitVec 8, inferInstance⟩ else bif Nat.beq t 91 then ⟨q16, inferInstance⟩ else bif Nat.beq t 25 then ⟨List q8, inferInstance⟩ else bif Nat.beq t 144 then ⟨q30, inferInstance⟩ else bif Nat.beq t 212 then ⟨q9, inferInstance⟩ else bif Nat.beq t 31 then ⟨List q10, inferInstance⟩ else bif Nat.beq t 32 then ⟨List Bool, inferInstance⟩ else bif Nat.beq t 158 then ⟨q18, inferInstance⟩ else bif Nat.beq t 155 then ⟨List q18, inferInstance⟩ else bif Nat.beq t 152 then ⟨List (List q18), inferInstance⟩ else bif Nat.beq t 52 then ⟨List (BitVec 8), inferInstance⟩ else bif Nat.beq t 54 then ⟨q15, inferInstance⟩ else bif Nat.beq t 58 then ⟨q14, inferInstance⟩ else bif Nat.beq t 72 then ⟨q11, inferInstance⟩ else bif Nat.beq t 63 then ⟨List q11, inferInstance⟩ else bif Nat.beq t 119 then ⟨q44, inferInstance⟩ else bif Nat.beq t 116 then ⟨Ptr q44, inferInstance⟩ else bif Nat.beq t 123 then ⟨q23, inferInstance⟩ else ⟨Unit, dtUnit⟩
abbrev DD (t : Nat) : Type := (tyOf t).α
instance dtDD (t : Nat) : Dt (DD t) := (tyOf t).inst
def xI : SV DD → Option Int
 | .i .i64 n => some n
 | _ => none
def xW : SV DD → Option (BitVec 64)
 | .w x => some x
 | _ => none
def xY : SV DD → Option (BitVec 8)
 | .y x => some x
 | _ => none
def xT : SV DD → Option ByteArray
 | .st x => some x
 | _ => none
def xS (e : Nat) : SV DD → Option (List (DD e))
 | .fsl e' xs => castL e' e xs
 | .nil => some []
 | _ => none
theorem xI_cq {a : SV DD} {n : Int} (h : xI a = some n) : CQ a (.i .i64 n) := by
  unfold xI at h
  split at h
  · cases h; exact .inr ⟨rfl, rfl, fun _ _ _ h => h⟩
  · cases h
theorem xW_cq {a : SV DD} {n : BitVec 64} (h : xW a = some n) : CQ a (.w n) := by
  unfold xW at h
  split at h
  · cases h; exact .inr ⟨rfl, rfl, fun _ _ _ h => h⟩
  · cases h
theorem xY_cq {a : SV DD} {n : BitVec 8} (h : xY a = some n) : CQ a (.y n) := by
  unfold xY at h
  split at h
  · cases h; exact .inr ⟨rfl, rfl, fun _ _ _ h => h⟩
  · cases h
theorem xB_cq {a : SV DD} {n : Bool} (h : q332 a = some n) : CQ a (.b n) := by
  cases a <;> first | (cases h; exact .inr ⟨rfl, rfl, fun _ _ _ h => h⟩) | cases h
theorem xS_cq {e : Nat} {a : SV DD} {n : List (DD e)} (h : xS e a = some n) : CQ a (.fsl e n) := by
  unfold xS at h
  split at h
  · obtain ⟨he, h1⟩ := q84 h
    subst he; subst h1; exact .inl ⟨_, _, rfl, .inl rfl⟩
  · cases h; exact .inl ⟨_, _, rfl, .inr ⟨rfl, rfl⟩⟩
  · cases h
theorem bindS {α β : Type} {o : Option α} {f : α → Option β} {x : β} (h : o.bind f = some x) : ∃ v, o = some v ∧ f v = some x := Option.bind_eq_some_iff.1 h
def ofc4 : List (SV DD) → Option (DD 4)
 | [a0] => (q332 a0).bind fun v0 => some v0
 | _ => none
def ce4 : CE DD := ⟨4, fun x => [.b (x)], ofc4, none⟩
theorem ceOk4 : ce4.Ok where
  rdi := @fun H ρ cs x => ⟨fun h => by
    obtain h := (show Dt.rd (α := Bool) H cs x from h)
    subst h; exact ⟨_, _, rfl, rfl, rfl⟩, fun h => by
    obtain ⟨v0, r0, e0, p0, e⟩ := h; have e : r0 = [] := e; subst e; subst e0; have p0 : v0 = _ := p0; subst p0
    exact (show Dt.rd (α := Bool) H _ x from rfl)⟩
  cq := @fun l x h => by
    change ofc4 l = some x at h; unfold ofc4 at h
    split at h
    · obtain ⟨v0, h0, h⟩ := bindS h
      cases h; exact ⟨_, _, rfl, xB_cq h0, rfl⟩
    · cases h
  eqc := fun d a b c1 c2 hd h1 h2 => by cases hd
def ofc42 : List (SV DD) → Option (DD 42)
 | [a0, a1, a2, a3, a4] => (xY a0).bind fun v0 => (xY a1).bind fun v1 => (xY a2).bind fun v2 => (xY a3).bind fun v3 => (xY a4).bind fun v4 => some ⟨v0, v1, v2, v3, v4⟩
 | _ => none
def ce42 : CE DD := ⟨42, fun x => [.y (x.Kind), .y (x.Volume), .y (x.Start), .y (x.Count), .y (x.First)], ofc42, some (inferInstanceAs (DecidableEq q17))⟩
theorem sc42 (a b : q17) : (([.i .u8 ((a.Kind).toNat : Int), .i .u8 ((a.Volume).toNat : Int), .i .u8 ((a.Start).toNat : Int), .i .u8 ((a.Count).toNat : Int), .i .u8 ((a.First).toNat : Int)] : List Sc) = [.i .u8 ((b.Kind).toNat : Int), .i .u8 ((b.Volume).toNat : Int), .i .u8 ((b.Start).toNat : Int), .i .u8 ((b.Count).toNat : Int), .i .u8 ((b.First).toNat : Int)]) ↔ a = b := by
  cases a; cases b; simp [← BitVec.toNat_inj]; omega
theorem ceOk42 : ce42.Ok where
  rdi := @fun H ρ cs x => ⟨fun h => by
    obtain h := (show Dt.rd (α := q17) H cs x from h)
    subst h; exact ⟨_, _, rfl, rfl, _, _, rfl, rfl, _, _, rfl, rfl, _, _, rfl, rfl, _, _, rfl, rfl, rfl⟩, fun h => by
    obtain ⟨v0, r0, e0, p0, v1, r1, e1, p1, v2, r2, e2, p2, v3, r3, e3, p3, v4, r4, e4, p4, e⟩ := h; have e : r4 = [] := e; subst e; subst e4; subst e3; subst e2; subst e1; subst e0; have p0 : v0 = _ := p0; subst p0; have p1 : v1 = _ := p1; subst p1; have p2 : v2 = _ := p2; subst p2; have p3 : v3 = _ := p3; subst p3; have p4 : v4 = _ := p4; subst p4
    exact (show Dt.rd (α := q17) H _ x from rfl)⟩
  cq := @fun l x h => by
    change ofc42 l = some x at h; unfold ofc42 at h
    split at h
    · obtain ⟨v0, h0, h⟩ := bindS h
      obtain ⟨v1, h1, h⟩ := bindS h; obtain ⟨v2, h2, h⟩ := bindS h; obtain ⟨v3, h3, h⟩ := bindS h; obtain ⟨v4, h4, h⟩ := bindS h; cases h; exact ⟨_, _, rfl, xY_cq h0, _, _, rfl, xY_cq h1, _, _, rfl, xY_cq h2, _, _, rfl, xY_cq h3, _, _, rfl, xY_cq h4, rfl⟩
    · cases h
  eqc := fun d a b c1 c2 hd h1 h2 => by
    cases h1; cases h2; exact sc42 a b
def ofc22 : List (SV DD) → Option (DD 22)
 | [a0] => (xS 42 a0).bind fun v0 => some v0
 | _ => none
def ce22 : CE DD := ⟨22, fun x => [.fsl 42 (x)], ofc22, none⟩
theorem ceOk22 : ce22.Ok where
  rdi := @fun H ρ cs x => ⟨fun h => by
    obtain ⟨A0, n0, c0, s0, h, h0⟩ := (show Dt.rd (α := List q17) H cs x from h)
    subst h; exact ⟨_, _, rfl, ⟨A0, n0, c0, s0, rfl, h0⟩, rfl⟩, fun h => by
    obtain ⟨v0, r0, e0, ⟨A0, n0, c0, s0, p0, h0⟩, e⟩ := h; have e : r0 = [] := e; subst e; subst e0; subst p0
    exact (show Dt.rd (α := List q17) H _ x from ⟨A0, n0, c0, s0, rfl, h0⟩)⟩
  cq := @fun l x h => by
    change ofc22 l = some x at h; unfold ofc22 at h
    split at h
    · obtain ⟨v0, h0, h⟩ := bindS h
      cases h; exact ⟨_, _, rfl, xS_cq h0, rfl⟩
    · cases h
  eqc := fun d a b c1 c2 hd h1 h2 => by cases hd
def ofc3 : List (SV DD) → Option (DD 3)
 | [a0] => (xI a0).bind fun v0 => some v0
 | _ => none
def ce3 : CE DD := ⟨3, fun x => [.i .i64 (x)], ofc3, some (inferInstanceAs (DecidableEq Int))⟩
theorem sc3 (a b : Int) : (([.i .i64 (a)] : List Sc) = [.i .i64 (b)]) ↔ a = b := ⟨(Dt.ksOk (α := Int) _ _ rfl).2.2 a b, fun h => by rw [h]⟩
theorem ceOk3 : ce3.Ok where
  rdi := @fun H ρ cs x => ⟨fun h => by
    obtain h := (show Dt.rd (α := Int) H cs x from h)
    subst h; exact ⟨_, _, rfl, rfl, rfl⟩, fun h => by
    obtain ⟨v0, r0, e0, p0, e⟩ := h; have e : r0 = [] := e; subst e; subst e0; have p0 : v0 = _ := p0; subst p0
    exact (show Dt.rd (α := Int) H _ x from rfl)⟩
  cq := @fun l x h => by
    change ofc3 l = some x at h; unfold ofc3 at h
    split at h
    · obtain ⟨v0, h0, h⟩ := bindS h
      cases h; exact ⟨_, _, rfl, xI_cq h0, rfl⟩
    · cases h
  eqc := fun d a b c1 c2 hd h1 h2 => by
    cases h1; cases h2; exact sc3 a b
def ofc24 : List (SV DD) → Option (DD 24)
 | [a0] => (xS 3 a0).bind fun v0 => some v0
 | _ => none
def ce24 : CE DD := ⟨24, fun x => [.fsl 3 (x)], ofc24, none⟩
theorem ceOk24 : ce24.Ok where
  rdi := @fun H ρ cs x => ⟨fun h => by
    obtain ⟨A0, n0, c0, s0, h, h0⟩ := (show Dt.rd (α := List Int) H cs x from h)
    subst h; exact ⟨_, _, rfl, ⟨A0, n0, c0, s0, rfl, h0⟩, rfl⟩, fun h => by
    obtain ⟨v0, r0, e0, ⟨A0, n0, c0, s0, p0, h0⟩, e⟩ := h; have e : r0 = [] := e; subst e; subst e0; subst p0
    exact (show Dt.rd (α := List Int) H _ x from ⟨A0, n0, c0, s0, rfl, h0⟩)⟩
  cq := @fun l x h => by
    change ofc24 l = some x at h; unfold ofc24 at h
    split at h
    · obtain ⟨v0, h0, h⟩ := bindS h
      cases h; exact ⟨_, _, rfl, xS_cq h0, rfl⟩
    · cases h
  eqc := fun d a b c1 c2 hd h1 h2 => by cases hd
def ofc81 : List (SV DD) → Option (DD 81)
 | [a0, a1, a2, a3, a4, a5, a6, a7] => (xY a0).bind fun v0 => (xY a1).bind fun v1 => (xY a2).bind fun v2 => (xY a3).bind fun v3 => (xY a4).bind fun v4 => (xY a5).bind fun v5 => (xY a6).bind fun v6 => (xY a7).bind fun v7 => some ⟨v0, v1, v2, v3, v4, v5, v6, v7⟩
 | _ => none
def ce81 : CE DD := ⟨81, fun x => [.y (x.b0), .y (x.b1), .y (x.b2), .y (x.b3), .y (x.b4), .y (x.b5), .y (x.b6), .y (x.b7)], ofc81, some (inferInstanceAs (DecidableEq Sec))⟩
theorem sc81 (a b : Sec) : (([.i .u8 ((a.b0).toNat : Int), .i .u8 ((a.b1).toNat : Int), .i .u8 ((a.b2).toNat : Int), .i .u8 ((a.b3).toNat : Int), .i .u8 ((a.b4).toNat : Int), .i .u8 ((a.b5).toNat : Int), .i .u8 ((a.b6).toNat : Int), .i .u8 ((a.b7).toNat : Int)] : List Sc) = [.i .u8 ((b.b0).toNat : Int), .i .u8 ((b.b1).toNat : Int), .i .u8 ((b.b2).toNat : Int), .i .u8 ((b.b3).toNat : Int), .i .u8 ((b.b4).toNat : Int), .i .u8 ((b.b5).toNat : Int), .i .u8 ((b.b6).toNat : Int), .i .u8 ((b.b7).toNat : Int)]) ↔ a = b := by
  cases a; cases b; simp [← BitVec.toNat_inj]; omega
theorem ceOk81 : ce81.Ok where
  rdi := @fun H ρ cs x => ⟨fun h => by
    obtain h := (show Dt.rd (α := Sec) H cs x from h)
    subst h; exact ⟨_, _, rfl, rfl, _, _, rfl, rfl, _, _, rfl, rfl, _, _, rfl, rfl, _, _, rfl, rfl, _, _, rfl, rfl, _, _, rfl, rfl, _, _, rfl, rfl, rfl⟩, fun h => by
    obtain ⟨v0, r0, e0, p0, v1, r1, e1, p1, v2, r2, e2, p2, v3, r3, e3, p3, v4, r4, e4, p4, v5, r5, e5, p5, v6, r6, e6, p6, v7, r7, e7, p7, e⟩ := h; have e : r7 = [] := e; subst e; subst e7; subst e6; subst e5; subst e4; subst e3; subst e2; subst e1; subst e0; have p0 : v0 = _ := p0; subst p0; have p1 : v1 = _ := p1; subst p1; have p2 : v2 = _ := p2; subst p2; have p3 : v3 = _ := p3; subst p3; have p4 : v4 = _ := p4; subst p4; have p5 : v5 = _ := p5; subst p5; have p6 : v6 = _ := p6; subst p6; have p7 : v7 = _ := p7; subst p7
    exact (show Dt.rd (α := Sec) H _ x from rfl)⟩
  cq := @fun l x h => by
    change ofc81 l = some x at h; unfold ofc81 at h
    split at h
    · obtain ⟨v0, h0, h⟩ := bindS h
      obtain ⟨v1, h1, h⟩ := bindS h; obtain ⟨v2, h2, h⟩ := bindS h; obtain ⟨v3, h3, h⟩ := bindS h; obtain ⟨v4, h4, h⟩ := bindS h; obtain ⟨v5, h5, h⟩ := bindS h; obtain ⟨v6, h6, h⟩ := bindS h; obtain ⟨v7, h7, h⟩ := bindS h; cases h; exact ⟨_, _, rfl, xY_cq h0, _, _, rfl, xY_cq h1, _, _, rfl, xY_cq h2, _, _, rfl, xY_cq h3, _, _, rfl, xY_cq h4, _, _, rfl, xY_cq h5, _, _, rfl, xY_cq h6, _, _, rfl, xY_cq h7, rfl⟩
    · cases h
  eqc := fun d a b c1 c2 hd h1 h2 => by
    cases h1; cases h2; exact sc81 a b
def ofc82 : List (SV DD) → Option (DD 82)
 | [a0] => (xS 81 a0).bind fun v0 => some v0
 | _ => none
def ce82 : CE DD := ⟨82, fun x => [.fsl 81 (x)], ofc82, none⟩
theorem ceOk82 : ce82.Ok where
  rdi := @fun H ρ cs x => ⟨fun h => by
    obtain ⟨A0, n0, c0, s0, h, h0⟩ := (show Dt.rd (α := List Sec) H cs x from h)
    subst h; exact ⟨_, _, rfl, ⟨A0, n0, c0, s0, rfl, h0⟩, rfl⟩, fun h => by
    obtain ⟨v0, r0, e0, ⟨A0, n0, c0, s0, p0, h0⟩, e⟩ := h; have e : r0 = [] := e; subst e; subst e0; subst p0
    exact (show Dt.rd (α := List Sec) H _ x from ⟨A0, n0, c0, s0, rfl, h0⟩)⟩
  cq := @fun l x h => by
    change ofc82 l = some x at h; unfold ofc82 at h
    split at h
    · obtain ⟨v0, h0, h⟩ := bindS h
      cases h; exact ⟨_, _, rfl, xS_cq h0, rfl⟩
    · cases h
  eqc := fun d a b c1 c2 hd h1 h2 => by cases hd
def ofc29 : List (SV DD) → Option (DD 29)
 | [a0] => (xS 82 a0).bind fun v0 => some v0
 | _ => none
def ce29 : CE DD := ⟨29, fun x => [.fsl 82 (x)], ofc29, none⟩
theorem ceOk29 : ce29.Ok where
  rdi := @fun H ρ cs x => ⟨fun h => by
    obtain ⟨A0, n0, c0, s0, h, h0⟩ := (show Dt.rd (α := List (List Sec)) H cs x from h)
    subst h; exact ⟨_, _, rfl, ⟨A0, n0, c0, s0, rfl, h0⟩, rfl⟩, fun h => by
    obtain ⟨v0, r0, e0, ⟨A0, n0, c0, s0, p0, h0⟩, e⟩ := h; have e : r0 = [] := e; subst e; subst e0; subst p0
    exact (show Dt.rd (α := List (List Sec)) H _ x from ⟨A0, n0, c0, s0, rfl, h0⟩)⟩
  cq := @fun l x h => by
    change ofc29 l = some x at h; unfold ofc29 at h
    split at h
    · obtain ⟨v0, h0, h⟩ := bindS h
      cases h; exact ⟨_, _, rfl, xS_cq h0, rfl⟩
    · cases h
  eqc := fun d a b c1 c2 hd h1 h2 => by cases hd
def ofc43 : List (SV DD) → Option (DD 43)
 | [a0] => (xI a0).bind fun v0 => some v0
 | _ => none
def ce43 : CE DD := ⟨43, fun x => [.i .i64 (x)], ofc43, none⟩
theorem ceOk43 : ce43.Ok where
  rdi := @fun H ρ cs x => ⟨fun h => by
    obtain h := (show Dt.rd (α := Int) H cs x from h)
    subst h; exact ⟨_, _, rfl, rfl, rfl⟩, fun h => by
    obtain ⟨v0, r0, e0, p0, e⟩ := h; have e : r0 = [] := e; subst e; subst e0; have p0 : v0 = _ := p0; subst p0
    exact (show Dt.rd (α := Int) H _ x from rfl)⟩
  cq := @fun l x h => by
    change ofc43 l = some x at h; unfold ofc43 at h
    split at h
    · obtain ⟨v0, h0, h⟩ := bindS h
      cases h; exact ⟨_, _, rfl, xI_cq h0, rfl⟩
    · cases h
  eqc := fun d a b c1 c2 hd h1 h2 => by cases hd
def ofc28 : List (SV DD) → Option (DD 28)
 | [a0] => (xS 82 a0).bind fun v0 => some v0
 | _ => none
def ce28 : CE DD := ⟨28, fun x => [.fsl 82 (x)], ofc28, none⟩
theorem ceOk28 : ce28.Ok where
  rdi := @fun H ρ cs x => ⟨fun h => by
    obtain ⟨A0, n0, c0, s0, h, h0⟩ := (show Dt.rd (α := List (List Sec)) H cs x from h)
    subst h; exact ⟨_, _, rfl, ⟨A0, n0, c0, s0, rfl, h0⟩, rfl⟩, fun h => by
    obtain ⟨v0, r0, e0, ⟨A0, n0, c0, s0, p0, h0⟩, e⟩ := h; have e : r0 = [] := e; subst e; subst e0; subst p0
    exact (show Dt.rd (α := List (List Sec)) H _ x from ⟨A0, n0, c0, s0, rfl, h0⟩)⟩
  cq := @fun l x h => by
    change ofc28 l = some x at h; unfold ofc28 at h
    split at h
    · obtain ⟨v0, h0, h⟩ := bindS h
      cases h; exact ⟨_, _, rfl, xS_cq h0, rfl⟩
    · cases h
  eqc := fun d a b c1 c2 hd h1 h2 => by cases hd
def ofc89 : List (SV DD) → Option (DD 89)
 | [a0, a1, a2] => (xI a0).bind fun v0 => (xI a1).bind fun v1 => (xS 81 a2).bind fun v2 => some ⟨v0, v1, v2⟩
 | _ => none
def ce89 : CE DD := ⟨89, fun x => [.i .i64 (x.Volume), .i .i64 (x.Start), .fsl 81 (x.Data)], ofc89, none⟩
theorem ceOk89 : ce89.Ok where
  rdi := @fun H ρ cs x => ⟨fun h => by
    obtain ⟨A0, n0, c0, s0, h, h0⟩ := (show Dt.rd (α := q8) H cs x from h)
    subst h; exact ⟨_, _, rfl, rfl, _, _, rfl, rfl, _, _, rfl, ⟨A0, n0, c0, s0, rfl, h0⟩, rfl⟩, fun h => by
    obtain ⟨v0, r0, e0, p0, v1, r1, e1, p1, v2, r2, e2, ⟨A0, n0, c0, s0, p2, h0⟩, e⟩ := h; have e : r2 = [] := e; subst e; subst e2; subst e1; subst e0; have p0 : v0 = _ := p0; subst p0; have p1 : v1 = _ := p1; subst p1; subst p2
    exact (show Dt.rd (α := q8) H _ x from ⟨A0, n0, c0, s0, rfl, h0⟩)⟩
  cq := @fun l x h => by
    change ofc89 l = some x at h; unfold ofc89 at h
    split at h
    · obtain ⟨v0, h0, h⟩ := bindS h
      obtain ⟨v1, h1, h⟩ := bindS h; obtain ⟨v2, h2, h⟩ := bindS h; cases h; exact ⟨_, _, rfl, xI_cq h0, _, _, rfl, xI_cq h1, _, _, rfl, xS_cq h2, rfl⟩
    · cases h
  eqc := fun d a b c1 c2 hd h1 h2 => by cases hd
def ofc27 : List (SV DD) → Option (DD 27)
 | [a0, a1, a2, a3, a4] => (xI a0).bind fun v0 => (xS 3 a1).bind fun v1 => (xS 3 a2).bind fun v2 => (xS 3 a3).bind fun v3 => (xS 89 a4).bind fun v4 => some ⟨v0, v1, v2, v3, v4⟩
 | _ => none
def ce27 : CE DD := ⟨27, fun x => [.i .i64 (x.Number), .fsl 3 (x.Sizes), .fsl 3 (x.Positions), .fsl 3 (x.Nodes), .fsl 89 (x.Writes)], ofc27, none⟩
theorem ceOk27 : ce27.Ok where
  rdi := @fun H ρ cs x => ⟨fun h => by
    obtain ⟨A0, n0, c0, s0, A1, n1, c1, s1, A2, n2, c2, s2, A3, n3, c3, s3, h, h0, h1, h2, h3⟩ := (show Dt.rd (α := q12) H cs x from h)
    subst h; exact ⟨_, _, rfl, rfl, _, _, rfl, ⟨A0, n0, c0, s0, rfl, h0⟩, _, _, rfl, ⟨A1, n1, c1, s1, rfl, h1⟩, _, _, rfl, ⟨A2, n2, c2, s2, rfl, h2⟩, _, _, rfl, ⟨A3, n3, c3, s3, rfl, h3⟩, rfl⟩, fun h => by
    obtain ⟨v0, r0, e0, p0, v1, r1, e1, ⟨A0, n0, c0, s0, p1, h0⟩, v2, r2, e2, ⟨A1, n1, c1, s1, p2, h1⟩, v3, r3, e3, ⟨A2, n2, c2, s2, p3, h2⟩, v4, r4, e4, ⟨A3, n3, c3, s3, p4, h3⟩, e⟩ := h; have e : r4 = [] := e; subst e; subst e4; subst e3; subst e2; subst e1; subst e0; have p0 : v0 = _ := p0; subst p0; subst p1; subst p2; subst p3; subst p4
    exact (show Dt.rd (α := q12) H _ x from ⟨A0, n0, c0, s0, A1, n1, c1, s1, A2, n2, c2, s2, A3, n3, c3, s3, rfl, h0, h1, h2, h3⟩)⟩
  cq := @fun l x h => by
    change ofc27 l = some x at h; unfold ofc27 at h
    split at h
    · obtain ⟨v0, h0, h⟩ := bindS h
      obtain ⟨v1, h1, h⟩ := bindS h; obtain ⟨v2, h2, h⟩ := bindS h; obtain ⟨v3, h3, h⟩ := bindS h; obtain ⟨v4, h4, h⟩ := bindS h; cases h; exact ⟨_, _, rfl, xI_cq h0, _, _, rfl, xS_cq h1, _, _, rfl, xS_cq h2, _, _, rfl, xS_cq h3, _, _, rfl, xS_cq h4, rfl⟩
    · cases h
  eqc := fun d a b c1 c2 hd h1 h2 => by cases hd
def ofc48 : List (SV DD) → Option (DD 48)
 | [a0, a1, a2, a3, a4] => (xI a0).bind fun v0 => (xI a1).bind fun v1 => (xI a2).bind fun v2 => (xS 3 a3).bind fun v3 => (xS 89 a4).bind fun v4 => some ⟨v0, v1, v2, v3, v4⟩
 | _ => none
def ce48 : CE DD := ⟨48, fun x => [.i .i64 (x.Base), .i .i64 (x.Number), .i .i64 (x.Time), .fsl 3 (x.Positions), .fsl 89 (x.Writes)], ofc48, none⟩
theorem ceOk48 : ce48.Ok where
  rdi := @fun H ρ cs x => ⟨fun h => by
    obtain ⟨A0, n0, c0, s0, A1, n1, c1, s1, h, h0, h1⟩ := (show Dt.rd (α := q10) H cs x from h)
    subst h; exact ⟨_, _, rfl, rfl, _, _, rfl, rfl, _, _, rfl, rfl, _, _, rfl, ⟨A0, n0, c0, s0, rfl, h0⟩, _, _, rfl, ⟨A1, n1, c1, s1, rfl, h1⟩, rfl⟩, fun h => by
    obtain ⟨v0, r0, e0, p0, v1, r1, e1, p1, v2, r2, e2, p2, v3, r3, e3, ⟨A0, n0, c0, s0, p3, h0⟩, v4, r4, e4, ⟨A1, n1, c1, s1, p4, h1⟩, e⟩ := h; have e : r4 = [] := e; subst e; subst e4; subst e3; subst e2; subst e1; subst e0; have p0 : v0 = _ := p0; subst p0; have p1 : v1 = _ := p1; subst p1; have p2 : v2 = _ := p2; subst p2; subst p3; subst p4
    exact (show Dt.rd (α := q10) H _ x from ⟨A0, n0, c0, s0, A1, n1, c1, s1, rfl, h0, h1⟩)⟩
  cq := @fun l x h => by
    change ofc48 l = some x at h; unfold ofc48 at h
    split at h
    · obtain ⟨v0, h0, h⟩ := bindS h
      obtain ⟨v1, h1, h⟩ := bindS h; obtain ⟨v2, h2, h⟩ := bindS h; obtain ⟨v3, h3, h⟩ := bindS h; obtain ⟨v4, h4, h⟩ := bindS h; cases h; exact ⟨_, _, rfl, xI_cq h0, _, _, rfl, xI_cq h1, _, _, rfl, xI_cq h2, _, _, rfl, xS_cq h3, _, _, rfl, xS_cq h4, rfl⟩
    · cases h
  eqc := fun d a b c1 c2 hd h1 h2 => by cases hd
def ofc34 : List (SV DD) → Option (DD 34)
 | [a0, a1, a2, a3] => (xI a0).bind fun v0 => (xS 48 a1).bind fun v1 => (xS 3 a2).bind fun v2 => (xS 4 a3).bind fun v3 => some ⟨v0, v1, v2, v3⟩
 | _ => none
def ce34 : CE DD := ⟨34, fun x => [.i .i64 (x.Limit), .fsl 48 (x.Kept), .fsl 3 (x.Applied), .fsl 4 (x.Lost)], ofc34, none⟩
theorem ceOk34 : ce34.Ok where
  rdi := @fun H ρ cs x => ⟨fun h => by
    obtain ⟨A0, n0, c0, s0, A1, n1, c1, s1, A2, n2, c2, s2, h, h0, h1, h2⟩ := (show Dt.rd (α := q13) H cs x from h)
    subst h; exact ⟨_, _, rfl, rfl, _, _, rfl, ⟨A0, n0, c0, s0, rfl, h0⟩, _, _, rfl, ⟨A1, n1, c1, s1, rfl, h1⟩, _, _, rfl, ⟨A2, n2, c2, s2, rfl, h2⟩, rfl⟩, fun h => by
    obtain ⟨v0, r0, e0, p0, v1, r1, e1, ⟨A0, n0, c0, s0, p1, h0⟩, v2, r2, e2, ⟨A1, n1, c1, s1, p2, h1⟩, v3, r3, e3, ⟨A2, n2, c2, s2, p3, h2⟩, e⟩ := h; have e : r3 = [] := e; subst e; subst e3; subst e2; subst e1; subst e0; have p0 : v0 = _ := p0; subst p0; subst p1; subst p2; subst p3
    exact (show Dt.rd (α := q13) H _ x from ⟨A0, n0, c0, s0, A1, n1, c1, s1, A2, n2, c2, s2, rfl, h0, h1, h2⟩)⟩
  cq := @fun l x h => by
    change ofc34 l = some x at h; unfold ofc34 at h
    split at h
    · obtain ⟨v0, h0, h⟩ := bindS h
      obtain ⟨v1, h1, h⟩ := bindS h; obtain ⟨v2, h2, h⟩ := bindS h; obtain ⟨v3, h3, h⟩ := bindS h; cases h; exact ⟨_, _, rfl, xI_cq h0, _, _, rfl, xS_cq h1, _, _, rfl, xS_cq h2, _, _, rfl, xS_cq h3, rfl⟩
    · cases h
  eqc := fun d a b c1 c2 hd h1 h2 => by cases hd
def q587 : List (SV DD) → Option (DD 168)
 | [a0] => (xW a0).bind fun v0 => some v0
 | _ => none
def ce168 : CE DD := ⟨168, fun x => [.w (x)], q587, none⟩
theorem ceOk168 : ce168.Ok where
  rdi := @fun H ρ cs x => ⟨fun h => by
    obtain h := (show Dt.rd (α := BitVec 64) H cs x from h)
    subst h; exact ⟨_, _, rfl, rfl, rfl⟩, fun h => by
    obtain ⟨v0, r0, e0, p0, e⟩ := h; have e : r0 = [] := e; subst e; subst e0; have p0 : v0 = _ := p0; subst p0
    exact (show Dt.rd (α := BitVec 64) H _ x from rfl)⟩
  cq := @fun l x h => by
    change q587 l = some x at h; unfold q587 at h
    split at h
    · obtain ⟨v0, h0, h⟩ := bindS h
      cases h; exact ⟨_, _, rfl, xW_cq h0, rfl⟩
    · cases h
  eqc := fun d a b c1 c2 hd h1 h2 => by cases hd
def q588 : List (SV DD) → Option (DD 195)
 | [a0] => (xW a0).bind fun v0 => some v0
 | _ => none
def ce195 : CE DD := ⟨195, fun x => [.w (x)], q588, none⟩
theorem ceOk195 : ce195.Ok where
  rdi := @fun H ρ cs x => ⟨fun h => by
    obtain h := (show Dt.rd (α := BitVec 64) H cs x from h)
    subst h; exact ⟨_, _, rfl, rfl, rfl⟩, fun h => by
    obtain ⟨v0, r0, e0, p0, e⟩ := h; have e : r0 = [] := e; subst e; subst e0; have p0 : v0 = _ := p0; subst p0
    exact (show Dt.rd (α := BitVec 64) H _ x from rfl)⟩
  cq := @fun l x h => by
    change q588 l = some x at h; unfold q588 at h
    split at h
    · obtain ⟨v0, h0, h⟩ := bindS h
      cases h; exact ⟨_, _, rfl, xW_cq h0, rfl⟩
    · cases h
  eqc := fun d a b c1 c2 hd h1 h2 => by cases hd
def ofc5 : List (SV DD) → Option (DD 5)
 | [a0] => (xY a0).bind fun v0 => some v0
 | _ => none
def ce5 : CE DD := ⟨5, fun x => [.y (x)], ofc5, none⟩
theorem ceOk5 : ce5.Ok where
  rdi := @fun H ρ cs x => ⟨fun h => by
    obtain h := (show Dt.rd (α := BitVec 8) H cs x from h)
    subst h; exact ⟨_, _, rfl, rfl, rfl⟩, fun h => by
    obtain ⟨v0, r0, e0, p0, e⟩ := h; have e : r0 = [] := e; subst e; subst e0; have p0 : v0 = _ := p0; subst p0
    exact (show Dt.rd (α := BitVec 8) H _ x from rfl)⟩
  cq := @fun l x h => by
    change ofc5 l = some x at h; unfold ofc5 at h
    split at h
    · obtain ⟨v0, h0, h⟩ := bindS h
      cases h; exact ⟨_, _, rfl, xY_cq h0, rfl⟩
    · cases h
  eqc := fun d a b c1 c2 hd h1 h2 => by cases hd
def ofc91 : List (SV DD) → Option (DD 91)
 | [a0, a1, a2, a3, a4] => (xY a0).bind fun v0 => (xY a1).bind fun v1 => (xY a2).bind fun v2 => (xY a3).bind fun v3 => (xY a4).bind fun v4 => some ⟨v0, v1, v2, v3, v4⟩
 | _ => none
def ce91 : CE DD := ⟨91, fun x => [.y (x.Kind), .y (x.Volume), .y (x.Start), .y (x.Count), .y (x.First)], ofc91, some (inferInstanceAs (DecidableEq q16))⟩
theorem sc91 (a b : q16) : (([.i .u8 ((a.Kind).toNat : Int), .i .u8 ((a.Volume).toNat : Int), .i .u8 ((a.Start).toNat : Int), .i .u8 ((a.Count).toNat : Int), .i .u8 ((a.First).toNat : Int)] : List Sc) = [.i .u8 ((b.Kind).toNat : Int), .i .u8 ((b.Volume).toNat : Int), .i .u8 ((b.Start).toNat : Int), .i .u8 ((b.Count).toNat : Int), .i .u8 ((b.First).toNat : Int)]) ↔ a = b := by
  cases a; cases b; simp [← BitVec.toNat_inj]; omega
theorem ceOk91 : ce91.Ok where
  rdi := @fun H ρ cs x => ⟨fun h => by
    obtain h := (show Dt.rd (α := q16) H cs x from h)
    subst h; exact ⟨_, _, rfl, rfl, _, _, rfl, rfl, _, _, rfl, rfl, _, _, rfl, rfl, _, _, rfl, rfl, rfl⟩, fun h => by
    obtain ⟨v0, r0, e0, p0, v1, r1, e1, p1, v2, r2, e2, p2, v3, r3, e3, p3, v4, r4, e4, p4, e⟩ := h; have e : r4 = [] := e; subst e; subst e4; subst e3; subst e2; subst e1; subst e0; have p0 : v0 = _ := p0; subst p0; have p1 : v1 = _ := p1; subst p1; have p2 : v2 = _ := p2; subst p2; have p3 : v3 = _ := p3; subst p3; have p4 : v4 = _ := p4; subst p4
    exact (show Dt.rd (α := q16) H _ x from rfl)⟩
  cq := @fun l x h => by
    change ofc91 l = some x at h; unfold ofc91 at h
    split at h
    · obtain ⟨v0, h0, h⟩ := bindS h
      obtain ⟨v1, h1, h⟩ := bindS h; obtain ⟨v2, h2, h⟩ := bindS h; obtain ⟨v3, h3, h⟩ := bindS h; obtain ⟨v4, h4, h⟩ := bindS h; cases h; exact ⟨_, _, rfl, xY_cq h0, _, _, rfl, xY_cq h1, _, _, rfl, xY_cq h2, _, _, rfl, xY_cq h3, _, _, rfl, xY_cq h4, rfl⟩
    · cases h
  eqc := fun d a b c1 c2 hd h1 h2 => by
    cases h1; cases h2; exact sc91 a b
def ofc25 : List (SV DD) → Option (DD 25)
 | [a0] => (xS 89 a0).bind fun v0 => some v0
 | _ => none
def ce25 : CE DD := ⟨25, fun x => [.fsl 89 (x)], ofc25, none⟩
theorem ceOk25 : ce25.Ok where
  rdi := @fun H ρ cs x => ⟨fun h => by
    obtain ⟨A0, n0, c0, s0, h, h0⟩ := (show Dt.rd (α := List q8) H cs x from h)
    subst h; exact ⟨_, _, rfl, ⟨A0, n0, c0, s0, rfl, h0⟩, rfl⟩, fun h => by
    obtain ⟨v0, r0, e0, ⟨A0, n0, c0, s0, p0, h0⟩, e⟩ := h; have e : r0 = [] := e; subst e; subst e0; subst p0
    exact (show Dt.rd (α := List q8) H _ x from ⟨A0, n0, c0, s0, rfl, h0⟩)⟩
  cq := @fun l x h => by
    change ofc25 l = some x at h; unfold ofc25 at h
    split at h
    · obtain ⟨v0, h0, h⟩ := bindS h
      cases h; exact ⟨_, _, rfl, xS_cq h0, rfl⟩
    · cases h
  eqc := fun d a b c1 c2 hd h1 h2 => by cases hd
def q589 : List (SV DD) → Option (DD 144)
 | [a0, a1, a2, a3, a4, a5] => (xI a0).bind fun v0 => (xS 3 a1).bind fun v1 => (xS 3 a2).bind fun v2 => (xS 3 a3).bind fun v3 => (xS 89 a4).bind fun v4 => (xS 4 a5).bind fun v5 => some ⟨⟨v0, v1, v2, v3, v4⟩, v5⟩
 | _ => none
def ce144 : CE DD := ⟨144, fun x => [.i .i64 (x.c.Number), .fsl 3 (x.c.Sizes), .fsl 3 (x.c.Positions), .fsl 3 (x.c.Nodes), .fsl 89 (x.c.Writes), .fsl 4 (x.part)], q589, none⟩
theorem ceOk144 : ce144.Ok where
  rdi := @fun H ρ cs x => ⟨fun h => by
    obtain ⟨A0, n0, c0, s0, A1, n1, c1, s1, A2, n2, c2, s2, A3, n3, c3, s3, A4, n4, c4, s4, h, h0, h1, h2, h3, h4⟩ := (show Dt.rd (α := q30) H cs x from h)
    subst h; exact ⟨_, _, rfl, rfl, _, _, rfl, ⟨A0, n0, c0, s0, rfl, h0⟩, _, _, rfl, ⟨A1, n1, c1, s1, rfl, h1⟩, _, _, rfl, ⟨A2, n2, c2, s2, rfl, h2⟩, _, _, rfl, ⟨A3, n3, c3, s3, rfl, h3⟩, _, _, rfl, ⟨A4, n4, c4, s4, rfl, h4⟩, rfl⟩, fun h => by
    obtain ⟨v0, r0, e0, p0, v1, r1, e1, ⟨A0, n0, c0, s0, p1, h0⟩, v2, r2, e2, ⟨A1, n1, c1, s1, p2, h1⟩, v3, r3, e3, ⟨A2, n2, c2, s2, p3, h2⟩, v4, r4, e4, ⟨A3, n3, c3, s3, p4, h3⟩, v5, r5, e5, ⟨A4, n4, c4, s4, p5, h4⟩, e⟩ := h; have e : r5 = [] := e; subst e; subst e5; subst e4; subst e3; subst e2; subst e1; subst e0; have p0 : v0 = _ := p0; subst p0; subst p1; subst p2; subst p3; subst p4; subst p5
    exact (show Dt.rd (α := q30) H _ x from ⟨A0, n0, c0, s0, A1, n1, c1, s1, A2, n2, c2, s2, A3, n3, c3, s3, A4, n4, c4, s4, rfl, h0, h1, h2, h3, h4⟩)⟩
  cq := @fun l x h => by
    change q589 l = some x at h; unfold q589 at h
    split at h
    · obtain ⟨v0, h0, h⟩ := bindS h
      obtain ⟨v1, h1, h⟩ := bindS h; obtain ⟨v2, h2, h⟩ := bindS h; obtain ⟨v3, h3, h⟩ := bindS h; obtain ⟨v4, h4, h⟩ := bindS h; obtain ⟨v5, h5, h⟩ := bindS h; cases h; exact ⟨_, _, rfl, xI_cq h0, _, _, rfl, xS_cq h1, _, _, rfl, xS_cq h2, _, _, rfl, xS_cq h3, _, _, rfl, xS_cq h4, _, _, rfl, xS_cq h5, rfl⟩
    · cases h
  eqc := fun d a b c1 c2 hd h1 h2 => by cases hd
def q590 : List (SV DD) → Option (DD 212)
 | [a0, a1] => (xI a0).bind fun v0 => (xI a1).bind fun v1 => some ⟨v0, v1⟩
 | _ => none
def ce212 : CE DD := ⟨212, fun x => [.i .i64 (x.volume), .i .i64 (x.sector)], q590, some (inferInstanceAs (DecidableEq q9))⟩
theorem sc212 (a b : q9) : (([.i .i64 (a.volume), .i .i64 (a.sector)] : List Sc) = [.i .i64 (b.volume), .i .i64 (b.sector)]) ↔ a = b := by
  cases a; cases b; simp
theorem ceOk212 : ce212.Ok where
  rdi := @fun H ρ cs x => ⟨fun h => by
    obtain h := (show Dt.rd (α := q9) H cs x from h)
    subst h; exact ⟨_, _, rfl, rfl, _, _, rfl, rfl, rfl⟩, fun h => by
    obtain ⟨v0, r0, e0, p0, v1, r1, e1, p1, e⟩ := h; have e : r1 = [] := e; subst e; subst e1; subst e0; have p0 : v0 = _ := p0; subst p0; have p1 : v1 = _ := p1; subst p1
    exact (show Dt.rd (α := q9) H _ x from rfl)⟩
  cq := @fun l x h => by
    change q590 l = some x at h; unfold q590 at h
    split at h
    · obtain ⟨v0, h0, h⟩ := bindS h
      obtain ⟨v1, h1, h⟩ := bindS h; cases h; exact ⟨_, _, rfl, xI_cq h0, _, _, rfl, xI_cq h1, rfl⟩
    · cases h
  eqc := fun d a b c1 c2 hd h1 h2 => by
    cases h1; cases h2; exact sc212 a b
def ofc31 : List (SV DD) → Option (DD 31)
 | [a0] => (xS 48 a0).bind fun v0 => some v0
 | _ => none
def ce31 : CE DD := ⟨31, fun x => [.fsl 48 (x)], ofc31, none⟩
theorem ceOk31 : ce31.Ok where
  rdi := @fun H ρ cs x => ⟨fun h => by
    obtain ⟨A0, n0, c0, s0, h, h0⟩ := (show Dt.rd (α := List q10) H cs x from h)
    subst h; exact ⟨_, _, rfl, ⟨A0, n0, c0, s0, rfl, h0⟩, rfl⟩, fun h => by
    obtain ⟨v0, r0, e0, ⟨A0, n0, c0, s0, p0, h0⟩, e⟩ := h; have e : r0 = [] := e; subst e; subst e0; subst p0
    exact (show Dt.rd (α := List q10) H _ x from ⟨A0, n0, c0, s0, rfl, h0⟩)⟩
  cq := @fun l x h => by
    change ofc31 l = some x at h; unfold ofc31 at h
    split at h
    · obtain ⟨v0, h0, h⟩ := bindS h
      cases h; exact ⟨_, _, rfl, xS_cq h0, rfl⟩
    · cases h
  eqc := fun d a b c1 c2 hd h1 h2 => by cases hd
def ofc32 : List (SV DD) → Option (DD 32)
 | [a0] => (xS 4 a0).bind fun v0 => some v0
 | _ => none
def ce32 : CE DD := ⟨32, fun x => [.fsl 4 (x)], ofc32, none⟩
theorem ceOk32 : ce32.Ok where
  rdi := @fun H ρ cs x => ⟨fun h => by
    obtain ⟨A0, n0, c0, s0, h, h0⟩ := (show Dt.rd (α := List Bool) H cs x from h)
    subst h; exact ⟨_, _, rfl, ⟨A0, n0, c0, s0, rfl, h0⟩, rfl⟩, fun h => by
    obtain ⟨v0, r0, e0, ⟨A0, n0, c0, s0, p0, h0⟩, e⟩ := h; have e : r0 = [] := e; subst e; subst e0; subst p0
    exact (show Dt.rd (α := List Bool) H _ x from ⟨A0, n0, c0, s0, rfl, h0⟩)⟩
  cq := @fun l x h => by
    change ofc32 l = some x at h; unfold ofc32 at h
    split at h
    · obtain ⟨v0, h0, h⟩ := bindS h
      cases h; exact ⟨_, _, rfl, xS_cq h0, rfl⟩
    · cases h
  eqc := fun d a b c1 c2 hd h1 h2 => by cases hd
def q591 : List (SV DD) → Option (DD 158)
 | [a0, a1] => (xI a0).bind fun v0 => (xI a1).bind fun v1 => some ⟨v0, v1⟩
 | _ => none
def ce158 : CE DD := ⟨158, fun x => [.i .i64 (x.Start), .i .i64 (x.Count)], q591, some (inferInstanceAs (DecidableEq q18))⟩
theorem sc158 (a b : q18) : (([.i .i64 (a.Start), .i .i64 (a.Count)] : List Sc) = [.i .i64 (b.Start), .i .i64 (b.Count)]) ↔ a = b := by
  cases a; cases b; simp
theorem ceOk158 : ce158.Ok where
  rdi := @fun H ρ cs x => ⟨fun h => by
    obtain h := (show Dt.rd (α := q18) H cs x from h)
    subst h; exact ⟨_, _, rfl, rfl, _, _, rfl, rfl, rfl⟩, fun h => by
    obtain ⟨v0, r0, e0, p0, v1, r1, e1, p1, e⟩ := h; have e : r1 = [] := e; subst e; subst e1; subst e0; have p0 : v0 = _ := p0; subst p0; have p1 : v1 = _ := p1; subst p1
    exact (show Dt.rd (α := q18) H _ x from rfl)⟩
  cq := @fun l x h => by
    change q591 l = some x at h; unfold q591 at h
    split at h
    · obtain ⟨v0, h0, h⟩ := bindS h
      obtain ⟨v1, h1, h⟩ := bindS h; cases h; exact ⟨_, _, rfl, xI_cq h0, _, _, rfl, xI_cq h1, rfl⟩
    · cases h
  eqc := fun d a b c1 c2 hd h1 h2 => by
    cases h1; cases h2; exact sc158 a b
def q592 : List (SV DD) → Option (DD 155)
 | [a0] => (xS 158 a0).bind fun v0 => some v0
 | _ => none
def ce155 : CE DD := ⟨155, fun x => [.fsl 158 (x)], q592, none⟩
theorem ceOk155 : ce155.Ok where
  rdi := @fun H ρ cs x => ⟨fun h => by
    obtain ⟨A0, n0, c0, s0, h, h0⟩ := (show Dt.rd (α := List q18) H cs x from h)
    subst h; exact ⟨_, _, rfl, ⟨A0, n0, c0, s0, rfl, h0⟩, rfl⟩, fun h => by
    obtain ⟨v0, r0, e0, ⟨A0, n0, c0, s0, p0, h0⟩, e⟩ := h; have e : r0 = [] := e; subst e; subst e0; subst p0
    exact (show Dt.rd (α := List q18) H _ x from ⟨A0, n0, c0, s0, rfl, h0⟩)⟩
  cq := @fun l x h => by
    change q592 l = some x at h; unfold q592 at h
    split at h
    · obtain ⟨v0, h0, h⟩ := bindS h
      cases h; exact ⟨_, _, rfl, xS_cq h0, rfl⟩
    · cases h
  eqc := fun d a b c1 c2 hd h1 h2 => by cases hd
def q593 : List (SV DD) → Option (DD 152)
 | [a0] => (xS 155 a0).bind fun v0 => some v0
 | _ => none
def ce152 : CE DD := ⟨152, fun x => [.fsl 155 (x)], q593, none⟩
theorem ceOk152 : ce152.Ok where
  rdi := @fun H ρ cs x => ⟨fun h => by
    obtain ⟨A0, n0, c0, s0, h, h0⟩ := (show Dt.rd (α := List (List q18)) H cs x from h)
    subst h; exact ⟨_, _, rfl, ⟨A0, n0, c0, s0, rfl, h0⟩, rfl⟩, fun h => by
    obtain ⟨v0, r0, e0, ⟨A0, n0, c0, s0, p0, h0⟩, e⟩ := h; have e : r0 = [] := e; subst e; subst e0; subst p0
    exact (show Dt.rd (α := List (List q18)) H _ x from ⟨A0, n0, c0, s0, rfl, h0⟩)⟩
  cq := @fun l x h => by
    change q593 l = some x at h; unfold q593 at h
    split at h
    · obtain ⟨v0, h0, h⟩ := bindS h
      cases h; exact ⟨_, _, rfl, xS_cq h0, rfl⟩
    · cases h
  eqc := fun d a b c1 c2 hd h1 h2 => by cases hd
def ofc52 : List (SV DD) → Option (DD 52)
 | [a0] => (xS 5 a0).bind fun v0 => some v0
 | _ => none
def ce52 : CE DD := ⟨52, fun x => [.fsl 5 (x)], ofc52, none⟩
theorem ceOk52 : ce52.Ok where
  rdi := @fun H ρ cs x => ⟨fun h => by
    obtain ⟨A0, n0, c0, s0, h, h0⟩ := (show Dt.rd (α := List (BitVec 8)) H cs x from h)
    subst h; exact ⟨_, _, rfl, ⟨A0, n0, c0, s0, rfl, h0⟩, rfl⟩, fun h => by
    obtain ⟨v0, r0, e0, ⟨A0, n0, c0, s0, p0, h0⟩, e⟩ := h; have e : r0 = [] := e; subst e; subst e0; subst p0
    exact (show Dt.rd (α := List (BitVec 8)) H _ x from ⟨A0, n0, c0, s0, rfl, h0⟩)⟩
  cq := @fun l x h => by
    change ofc52 l = some x at h; unfold ofc52 at h
    split at h
    · obtain ⟨v0, h0, h⟩ := bindS h
      cases h; exact ⟨_, _, rfl, xS_cq h0, rfl⟩
    · cases h
  eqc := fun d a b c1 c2 hd h1 h2 => by cases hd
def ofc54 : List (SV DD) → Option (DD 54)
 | [a0, a1, a2, a3, a4] => (xI a0).bind fun v0 => (xI a1).bind fun v1 => (xS 3 a2).bind fun v2 => (xI a3).bind fun v3 => (xI a4).bind fun v4 => some ⟨v0, v1, v2, v3, v4⟩
 | _ => none
def ce54 : CE DD := ⟨54, fun x => [.i .i64 (x.Epoch), .i .i64 (x.Site), .fsl 3 (x.Offered), .i .i64 (x.Stored), .i .i64 (x.Applied)], ofc54, none⟩
theorem ceOk54 : ce54.Ok where
  rdi := @fun H ρ cs x => ⟨fun h => by
    obtain ⟨A0, n0, c0, s0, h, h0⟩ := (show Dt.rd (α := q15) H cs x from h)
    subst h; exact ⟨_, _, rfl, rfl, _, _, rfl, rfl, _, _, rfl, ⟨A0, n0, c0, s0, rfl, h0⟩, _, _, rfl, rfl, _, _, rfl, rfl, rfl⟩, fun h => by
    obtain ⟨v0, r0, e0, p0, v1, r1, e1, p1, v2, r2, e2, ⟨A0, n0, c0, s0, p2, h0⟩, v3, r3, e3, p3, v4, r4, e4, p4, e⟩ := h; have e : r4 = [] := e; subst e; subst e4; subst e3; subst e2; subst e1; subst e0; have p0 : v0 = _ := p0; subst p0; have p1 : v1 = _ := p1; subst p1; subst p2; have p3 : v3 = _ := p3; subst p3; have p4 : v4 = _ := p4; subst p4
    exact (show Dt.rd (α := q15) H _ x from ⟨A0, n0, c0, s0, rfl, h0⟩)⟩
  cq := @fun l x h => by
    change ofc54 l = some x at h; unfold ofc54 at h
    split at h
    · obtain ⟨v0, h0, h⟩ := bindS h
      obtain ⟨v1, h1, h⟩ := bindS h; obtain ⟨v2, h2, h⟩ := bindS h; obtain ⟨v3, h3, h⟩ := bindS h; obtain ⟨v4, h4, h⟩ := bindS h; cases h; exact ⟨_, _, rfl, xI_cq h0, _, _, rfl, xI_cq h1, _, _, rfl, xS_cq h2, _, _, rfl, xI_cq h3, _, _, rfl, xI_cq h4, rfl⟩
    · cases h
  eqc := fun d a b c1 c2 hd h1 h2 => by cases hd
def ofc58 : List (SV DD) → Option (DD 58)
 | [a0, a1, a2, a3] => (xI a0).bind fun v0 => (xI a1).bind fun v1 => (xI a2).bind fun v2 => (xI a3).bind fun v3 => some ⟨v0, v1, v2, v3⟩
 | _ => none
def ce58 : CE DD := ⟨58, fun x => [.i .i64 (x.Epoch), .i .i64 (x.Site), .i .i64 (x.Stored), .i .i64 (x.Applied)], ofc58, some (inferInstanceAs (DecidableEq q14))⟩
theorem sc58 (a b : q14) : (([.i .i64 (a.Epoch), .i .i64 (a.Site), .i .i64 (a.Stored), .i .i64 (a.Applied)] : List Sc) = [.i .i64 (b.Epoch), .i .i64 (b.Site), .i .i64 (b.Stored), .i .i64 (b.Applied)]) ↔ a = b := by
  cases a; cases b; simp
theorem ceOk58 : ce58.Ok where
  rdi := @fun H ρ cs x => ⟨fun h => by
    obtain h := (show Dt.rd (α := q14) H cs x from h)
    subst h; exact ⟨_, _, rfl, rfl, _, _, rfl, rfl, _, _, rfl, rfl, _, _, rfl, rfl, rfl⟩, fun h => by
    obtain ⟨v0, r0, e0, p0, v1, r1, e1, p1, v2, r2, e2, p2, v3, r3, e3, p3, e⟩ := h; have e : r3 = [] := e; subst e; subst e3; subst e2; subst e1; subst e0; have p0 : v0 = _ := p0; subst p0; have p1 : v1 = _ := p1; subst p1; have p2 : v2 = _ := p2; subst p2; have p3 : v3 = _ := p3; subst p3
    exact (show Dt.rd (α := q14) H _ x from rfl)⟩
  cq := @fun l x h => by
    change ofc58 l = some x at h; unfold ofc58 at h
    split at h
    · obtain ⟨v0, h0, h⟩ := bindS h
      obtain ⟨v1, h1, h⟩ := bindS h; obtain ⟨v2, h2, h⟩ := bindS h; obtain ⟨v3, h3, h⟩ := bindS h; cases h; exact ⟨_, _, rfl, xI_cq h0, _, _, rfl, xI_cq h1, _, _, rfl, xI_cq h2, _, _, rfl, xI_cq h3, rfl⟩
    · cases h
  eqc := fun d a b c1 c2 hd h1 h2 => by
    cases h1; cases h2; exact sc58 a b
def ofc72 : List (SV DD) → Option (DD 72)
 | [a0, a1, a2, a3, a4, a5, a6, a7] => (xI a0).bind fun v0 => (xI a1).bind fun v1 => (xI a2).bind fun v2 => (xI a3).bind fun v3 => (xI a4).bind fun v4 => (xI a5).bind fun v5 => (xS 3 a6).bind fun v6 => (xS 5 a7).bind fun v7 => some ⟨v0, v1, v2, v3, v4, v5, v6, v7⟩
 | _ => none
def ce72 : CE DD := ⟨72, fun x => [.i .i64 (x.Kind), .i .i64 (x.From), .i .i64 (x.To), .i .i64 (x.Number), .i .i64 (x.Value), .i .i64 (x.Epoch), .fsl 3 (x.Values), .fsl 5 (x.Body)], ofc72, none⟩
theorem ceOk72 : ce72.Ok where
  rdi := @fun H ρ cs x => ⟨fun h => by
    obtain ⟨A0, n0, c0, s0, A1, n1, c1, s1, h, h0, h1⟩ := (show Dt.rd (α := q11) H cs x from h)
    subst h; exact ⟨_, _, rfl, rfl, _, _, rfl, rfl, _, _, rfl, rfl, _, _, rfl, rfl, _, _, rfl, rfl, _, _, rfl, rfl, _, _, rfl, ⟨A0, n0, c0, s0, rfl, h0⟩, _, _, rfl, ⟨A1, n1, c1, s1, rfl, h1⟩, rfl⟩, fun h => by
    obtain ⟨v0, r0, e0, p0, v1, r1, e1, p1, v2, r2, e2, p2, v3, r3, e3, p3, v4, r4, e4, p4, v5, r5, e5, p5, v6, r6, e6, ⟨A0, n0, c0, s0, p6, h0⟩, v7, r7, e7, ⟨A1, n1, c1, s1, p7, h1⟩, e⟩ := h; have e : r7 = [] := e; subst e; subst e7; subst e6; subst e5; subst e4; subst e3; subst e2; subst e1; subst e0; have p0 : v0 = _ := p0; subst p0; have p1 : v1 = _ := p1; subst p1; have p2 : v2 = _ := p2; subst p2; have p3 : v3 = _ := p3; subst p3; have p4 : v4 = _ := p4; subst p4; have p5 : v5 = _ := p5; subst p5; subst p6; subst p7
    exact (show Dt.rd (α := q11) H _ x from ⟨A0, n0, c0, s0, A1, n1, c1, s1, rfl, h0, h1⟩)⟩
  cq := @fun l x h => by
    change ofc72 l = some x at h; unfold ofc72 at h
    split at h
    · obtain ⟨v0, h0, h⟩ := bindS h
      obtain ⟨v1, h1, h⟩ := bindS h; obtain ⟨v2, h2, h⟩ := bindS h; obtain ⟨v3, h3, h⟩ := bindS h; obtain ⟨v4, h4, h⟩ := bindS h; obtain ⟨v5, h5, h⟩ := bindS h; obtain ⟨v6, h6, h⟩ := bindS h; obtain ⟨v7, h7, h⟩ := bindS h; cases h; exact ⟨_, _, rfl, xI_cq h0, _, _, rfl, xI_cq h1, _, _, rfl, xI_cq h2, _, _, rfl, xI_cq h3, _, _, rfl, xI_cq h4, _, _, rfl, xI_cq h5, _, _, rfl, xS_cq h6, _, _, rfl, xS_cq h7, rfl⟩
    · cases h
  eqc := fun d a b c1 c2 hd h1 h2 => by cases hd
def ofc63 : List (SV DD) → Option (DD 63)
 | [a0] => (xS 72 a0).bind fun v0 => some v0
 | _ => none
def ce63 : CE DD := ⟨63, fun x => [.fsl 72 (x)], ofc63, none⟩
theorem ceOk63 : ce63.Ok where
  rdi := @fun H ρ cs x => ⟨fun h => by
    obtain ⟨A0, n0, c0, s0, h, h0⟩ := (show Dt.rd (α := List q11) H cs x from h)
    subst h; exact ⟨_, _, rfl, ⟨A0, n0, c0, s0, rfl, h0⟩, rfl⟩, fun h => by
    obtain ⟨v0, r0, e0, ⟨A0, n0, c0, s0, p0, h0⟩, e⟩ := h; have e : r0 = [] := e; subst e; subst e0; subst p0
    exact (show Dt.rd (α := List q11) H _ x from ⟨A0, n0, c0, s0, rfl, h0⟩)⟩
  cq := @fun l x h => by
    change ofc63 l = some x at h; unfold ofc63 at h
    split at h
    · obtain ⟨v0, h0, h⟩ := bindS h
      cases h; exact ⟨_, _, rfl, xS_cq h0, rfl⟩
    · cases h
  eqc := fun d a b c1 c2 hd h1 h2 => by cases hd
def q594 : List (SV DD) → Option (DD 119)
 | [a0, a1, a2, a3, a4, a5] => (xI a0).bind fun v0 => (xI a1).bind fun v1 => (xS 3 a2).bind fun v2 => (xI a3).bind fun v3 => (xI a4).bind fun v4 => (xS 72 a5).bind fun v5 => some ⟨⟨v0, v1, v2, v3, v4⟩, v5⟩
 | _ => none
def ce119 : CE DD := ⟨119, fun x => [.i .i64 (x.CommitSource.Epoch), .i .i64 (x.CommitSource.Site), .fsl 3 (x.CommitSource.Offered), .i .i64 (x.CommitSource.Stored), .i .i64 (x.CommitSource.Applied), .fsl 72 (x.sent)], q594, none⟩
theorem ceOk119 : ce119.Ok where
  rdi := @fun H ρ cs x => ⟨fun h => by
    obtain ⟨A0, n0, c0, s0, A1, n1, c1, s1, h, h0, h1⟩ := (show Dt.rd (α := q44) H cs x from h)
    subst h; exact ⟨_, _, rfl, rfl, _, _, rfl, rfl, _, _, rfl, ⟨A0, n0, c0, s0, rfl, h0⟩, _, _, rfl, rfl, _, _, rfl, rfl, _, _, rfl, ⟨A1, n1, c1, s1, rfl, h1⟩, rfl⟩, fun h => by
    obtain ⟨v0, r0, e0, p0, v1, r1, e1, p1, v2, r2, e2, ⟨A0, n0, c0, s0, p2, h0⟩, v3, r3, e3, p3, v4, r4, e4, p4, v5, r5, e5, ⟨A1, n1, c1, s1, p5, h1⟩, e⟩ := h; have e : r5 = [] := e; subst e; subst e5; subst e4; subst e3; subst e2; subst e1; subst e0; have p0 : v0 = _ := p0; subst p0; have p1 : v1 = _ := p1; subst p1; subst p2; have p3 : v3 = _ := p3; subst p3; have p4 : v4 = _ := p4; subst p4; subst p5
    exact (show Dt.rd (α := q44) H _ x from ⟨A0, n0, c0, s0, A1, n1, c1, s1, rfl, h0, h1⟩)⟩
  cq := @fun l x h => by
    change q594 l = some x at h; unfold q594 at h
    split at h
    · obtain ⟨v0, h0, h⟩ := bindS h
      obtain ⟨v1, h1, h⟩ := bindS h; obtain ⟨v2, h2, h⟩ := bindS h; obtain ⟨v3, h3, h⟩ := bindS h; obtain ⟨v4, h4, h⟩ := bindS h; obtain ⟨v5, h5, h⟩ := bindS h; cases h; exact ⟨_, _, rfl, xI_cq h0, _, _, rfl, xI_cq h1, _, _, rfl, xS_cq h2, _, _, rfl, xI_cq h3, _, _, rfl, xI_cq h4, _, _, rfl, xS_cq h5, rfl⟩
    · cases h
  eqc := fun d a b c1 c2 hd h1 h2 => by cases hd
def q595 : List (SV DD) → Option (DD 116)
 | [.fel e xs i off] => match castL e 119 xs with
  | some [x] => bif decide (i = 0) && Nat.beq off 0 then some ⟨x⟩ else none
  | _ => none
 | _ => none
def ce116 : CE DD := ⟨116, fun x => [.fel 119 [x.val] 0 0], q595, none⟩
theorem ceOk116 : ce116.Ok where
  rdi := @fun H ρ cs x => ⟨fun h => by
    obtain ⟨A, n, c, s, h, h1⟩ := (show Dt.rd (α := Ptr q44) H cs x from h)
    exact ⟨_, [], h, ⟨A, n, c, s, rfl, h1, Int.le_refl _, by show (0 : Int) < ((1 : Nat) : Int); decide⟩, rfl⟩, fun h => by
    obtain ⟨v, r, e, ⟨A, n, c, s, h, h1, _⟩, e2⟩ := h; have e2 : r = [] := e2; subst e2; subst e; subst h
    exact (show Dt.rd (α := Ptr q44) H _ x from ⟨A, n, c, s, rfl, h1⟩)⟩
  cq := @fun l x h => by
    change q595 l = some x at h; unfold q595 at h
    split at h
    · split at h
      · rename_i e xs i off y hc
        obtain ⟨hb, h⟩ := cif h; cases h; obtain ⟨he, h1⟩ := q84 hc; subst he; subst h1; rw [Bool.and_eq_true] at hb; obtain ⟨hb1, hb2⟩ := hb; have hb1 := of_decide_eq_true hb1; have hb2 := Nat.eq_of_beq_eq_true hb2; subst hb1; subst hb2; exact ⟨_, _, rfl, .inr ⟨rfl, rfl, fun _ _ _ h => h⟩, rfl⟩
      · cases h
    · cases h
  eqc := fun d a b c1 c2 hd h1 h2 => by cases hd
def q596 : List (SV DD) → Option (DD 123)
 | [a0, a1, a2, a3] => (xI a0).bind fun v0 => (xI a1).bind fun v1 => (xI a2).bind fun v2 => (xI a3).bind fun v3 => some ⟨⟨v0, v1, v2, v3⟩⟩
 | _ => none
def ce123 : CE DD := ⟨123, fun x => [.i .i64 (x.CommitTarget.Epoch), .i .i64 (x.CommitTarget.Site), .i .i64 (x.CommitTarget.Stored), .i .i64 (x.CommitTarget.Applied)], q596, some (inferInstanceAs (DecidableEq q23))⟩
theorem sc123 (a b : q23) : (([.i .i64 (a.CommitTarget.Epoch), .i .i64 (a.CommitTarget.Site), .i .i64 (a.CommitTarget.Stored), .i .i64 (a.CommitTarget.Applied)] : List Sc) = [.i .i64 (b.CommitTarget.Epoch), .i .i64 (b.CommitTarget.Site), .i .i64 (b.CommitTarget.Stored), .i .i64 (b.CommitTarget.Applied)]) ↔ a = b := by
  rcases a with ⟨⟨_, _, _, _⟩⟩; rcases b with ⟨⟨_, _, _, _⟩⟩; simp
theorem ceOk123 : ce123.Ok where
  rdi := @fun H ρ cs x => ⟨fun h => by
    obtain h := (show Dt.rd (α := q23) H cs x from h)
    subst h; exact ⟨_, _, rfl, rfl, _, _, rfl, rfl, _, _, rfl, rfl, _, _, rfl, rfl, rfl⟩, fun h => by
    obtain ⟨v0, r0, e0, p0, v1, r1, e1, p1, v2, r2, e2, p2, v3, r3, e3, p3, e⟩ := h; have e : r3 = [] := e; subst e; subst e3; subst e2; subst e1; subst e0; have p0 : v0 = _ := p0; subst p0; have p1 : v1 = _ := p1; subst p1; have p2 : v2 = _ := p2; subst p2; have p3 : v3 = _ := p3; subst p3
    exact (show Dt.rd (α := q23) H _ x from rfl)⟩
  cq := @fun l x h => by
    change q596 l = some x at h; unfold q596 at h
    split at h
    · obtain ⟨v0, h0, h⟩ := bindS h
      obtain ⟨v1, h1, h⟩ := bindS h; obtain ⟨v2, h2, h⟩ := bindS h; obtain ⟨v3, h3, h⟩ := bindS h; cases h; exact ⟨_, _, rfl, xI_cq h0, _, _, rfl, xI_cq h1, _, _, rfl, xI_cq h2, _, _, rfl, xI_cq h3, rfl⟩
    · cases h
  eqc := fun d a b c1 c2 hd h1 h2 => by
    cases h1; cases h2; exact sc123 a b
def tab : Tb DD := [ce4, ce42, ce22, ce3, ce24, ce81, ce82, ce29, ce43, ce28, ce89, ce27, ce48, ce34, ce168, ce195, ce5, ce91, ce25, ce144, ce212, ce31, ce32, ce158, ce155, ce152, ce52, ce54, ce58, ce72, ce63, ce119, ce116, ce123]
theorem tabOk : TbOk tab := ⟨ceOk4, ceOk42, ceOk22, ceOk3, ceOk24, ceOk81, ceOk82, ceOk29, ceOk43, ceOk28, ceOk89, ceOk27, ceOk48, ceOk34, ceOk168, ceOk195, ceOk5, ceOk91, ceOk25, ceOk144, ceOk212, ceOk31, ceOk32, ceOk158, ceOk155, ceOk152, ceOk52, ceOk54, ceOk58, ceOk72, ceOk63, ceOk119, ceOk116, ceOk123, trivial⟩
theorem rd5 : q132 Tryz.prog 5 (BitVec 8) := q132.byte Tryz.underlying5 (by kernel_rfl)
instance rg_standbytop_PlayFan : Rg q17 := ⟨fun x => Rg.rg x.Kind ∧ Rg.rg x.Volume ∧ Rg.rg x.Start ∧ Rg.rg x.Count ∧ Rg.rg x.First⟩
theorem rd42 : q132 Tryz.prog 42 (q17) := (@Reads.struct Tryz.prog 42 _ (BitVec 8 × BitVec 8 × BitVec 8 × BitVec 8 × BitVec 8 × Unit) (@datProd _ _ (datD (BitVec 8)) (@datProd _ _ (datD (BitVec 8)) (@datProd _ _ (datD (BitVec 8)) (@datProd _ _ (datD (BitVec 8)) (@datProd _ _ (datD (BitVec 8)) datUnit))))) Tryz.underlying42 (by kernel_rfl) (@q149.cons _ _ _ _ _ _ (datD (BitVec 8)) _ rfl rd5 (@q149.cons _ _ _ _ _ _ (datD (BitVec 8)) _ rfl rd5 (@q149.cons _ _ _ _ _ _ (datD (BitVec 8)) _ rfl rd5 (@q149.cons _ _ _ _ _ _ (datD (BitVec 8)) _ rfl rd5 (@q149.cons _ _ _ _ _ _ (datD (BitVec 8)) _ rfl rd5 (.nil _))))))).map rfl fun {H cs a} h => by
  obtain ⟨a0, a1, a2, a3, a4, _⟩ := a; obtain ⟨_, _, rfl, ⟨rfl, r0⟩, _, _, rfl, ⟨rfl, r1⟩, _, _, rfl, ⟨rfl, r2⟩, _, _, rfl, ⟨rfl, r3⟩, _, _, rfl, ⟨rfl, r4⟩, hz⟩ := h; cases hz; exact ⟨⟨a0, a1, a2, a3, a4⟩, rfl, r0, r1, r2, r3, r4⟩
theorem rd22 : q132 Tryz.prog 22 (List q17) := q132.slice Tryz.underlying22 (by kernel_rfl) rd42 (by decide)
theorem rd52 : q132 Tryz.prog 52 (List (BitVec 8)) := q132.slice Tryz.underlying52 (by kernel_rfl) rd5 (by decide)
end Go.Proofs.YtpobhmleblaccaaGreat
namespace Go.Proofs.YtpobhmleblaccaaGreat
open Go.RowKit Go.ChangeShapes Go.WideShapes Go.ChangeAt
theorem Tryz.own : ownKnob Tryz.prog.godebug = none := by kernel_rfl
theorem Tryz.laidOut : laidOutB Tryz.prog = true := by kernel_rfl
theorem lawRes (y : TupD DD [4]) (hy : y.1 = true) {H : Hp} {v : Value} {L : List Ent} (hr : ResR Tryz.prog tab [4] [[false]] y H v L) : ∃ z, z = true ∧ v = .bool z ∧ L = [] := by
  obtain ⟨ρ, _, _, _, _, h1, h2⟩ := hr 0 (fun _ => none) (fun _ _ => rfl) _ _ _ (show resE Tryz.prog tab _ _ y 0 = some (.b y.1, [], 0) by kernel_rfl); exact ⟨y.1, hy, h1, h2⟩
theorem pkw22 (v : Value) (cs : List Value) : PkR Tryz.prog 22 v cs = (cs = [v]) := by kernel_rfl
theorem pkw52 (v : Value) (cs : List Value) : PkR Tryz.prog 52 v cs = (cs = [v]) := by kernel_rfl
end Go.Proofs.YtpobhmleblaccaaGreat
namespace Go.Proofs.YtpobhmleblaccaaGreat
open Go.RowKit
def Z0 (Φ : List Int → Prop) : Prop :=
 Φ ([5, 3] : List Int)
def Z1 (x0 : Int) (Φ : Bool → Prop) : Prop :=
 (x0 < 1 →
 Φ true) ∧
 (¬ (x0 < 1) →
 Φ (decide (4096 < x0)))
def Z2 (x0 : List Int) (Φ : Int → Prop) : (Int) → ((Int) → Prop) → Prop
 | v1, rec1 =>
 (v1 < (x0.length : Int) →
 inX v1 x0.length ∧
 Z1 (ix x0 v1) fun v2 =>
 (v2 = true →
 (0 ≤ v1 →
 Φ 2) ∧
 (¬ (0 ≤ v1) →
 Φ 0)) ∧
 (¬ (v2 = true) →
 inI (v1 + 1) ∧
 rec1 (v1 + 1))) ∧
 (¬ (v1 < (x0.length : Int)) →
 (0 ≤ ((-1) : Int) →
 Φ 2) ∧
 (¬ (0 ≤ ((-1) : Int)) →
 Φ 0))
def Z3 (x0 : List Int) (Φ : Int → Prop) : Prop :=
 ((x0.length : Int) < 1 →
 Φ 6) ∧
 (¬ ((x0.length : Int) < 1) →
 (8 < (x0.length : Int) →
 Φ 6) ∧
 (¬ (8 < (x0.length : Int)) →
 LoopW (Z2 x0 Φ) 0))
def q224 (x0 : Int) (Φ : List Sec → Prop) : Prop :=
 0 ≤ x0 ∧
 lenOk x0.toNat 8 ∧
 Φ (List.replicate x0.toNat (sec0 : Sec))
def q415 (x0 : List Int) (Φ : List (List Sec) × Int → Prop) : (Int × List (List Sec)) → ((Int × List (List Sec)) → Prop) → Prop
 | (v2, v3), rec1 =>
 (v2 < (x0.length : Int) →
 inX v2 x0.length ∧
 q224 (ix x0 v2) fun v4 =>
 lenOk (v3 ++ ([v4] : List (List Sec))).length 24 ∧
 inI (v2 + 1) ∧
 rec1 ((v2 + 1), (v3 ++ ([v4] : List (List Sec))))) ∧
 (¬ (v2 < (x0.length : Int)) →
 Φ (v3, 0))
def q52 (x0 : List Int) (Φ : List (List Sec) × Int → Prop) : Prop :=
 Z3 x0 fun v1 =>
 (v1 ≠ 0 →
 Φ (([] : List (List Sec)), v1)) ∧
 (¬ (v1 ≠ 0) →
 0 ≤ (x0.length : Int) ∧
 lenOk (x0.length : Int).toNat 24 ∧
 LoopW (q415 x0 Φ) (0, ([] : List (List Sec))))
def q34 (x0 : Int) (x1 : Int) (x2 : Int) (Φ : Bool → Prop) : Prop :=
 (x1 ≤ x0 →
 Φ (decide (x0 ≤ x2))) ∧
 (¬ (x1 ≤ x0) →
 Φ false)
def Z4 (x0 : List Int) (Φ : List Int → Prop) : Prop :=
 (x0 = [] →
 Φ ([] : List Int)) ∧
 (
 lenOk (([] : List Int) ++ x0).length 8 ∧
 Φ (([] : List Int) ++ x0))
def q167 (x0 : List Int) (x1 : Int) (x2 : Int) (Φ : q12 × Int → Prop) : Prop :=
 q52 x0 fun v1 =>
 (v1.2 ≠ 0 →
 Φ ((q12.mk 0 ([] : List Int) ([] : List Int) ([] : List Int) ([] : List q8)), v1.2)) ∧
 (¬ (v1.2 ≠ 0) →
 q34 x1 1 8 fun v2 =>
 (¬ (v2 = true) →
 Φ ((q12.mk 0 ([] : List Int) ([] : List Int) ([] : List Int) ([] : List q8)), 6)) ∧
 (¬ (¬ (v2 = true)) →
 q34 x2 0 1073741823 fun v3 =>
 (¬ (v3 = true) →
 Φ ((q12.mk 0 ([] : List Int) ([] : List Int) ([] : List Int) ([] : List q8)), 2)) ∧
 (¬ (¬ (v3 = true)) →
 ∃ v4 : List Int × Unit, Z4 x0 (fun z => (z, ()) = v4) ∧
 0 ≤ x1 ∧
 lenOk x1.toNat 8 ∧
 Φ ((q12.mk x2 v4.1 (List.replicate x1.toNat (0 : Int)) ([] : List Int) ([] : List q8)), 0))))
def Z5 (x0 : BitVec 64) (x1 : BitVec 64) (Φ : BitVec 64 × BitVec 64 → Prop) : Prop :=
 Φ (((((x0 >>> ((32#64).toNat : Int).toNat) * (x1 >>> ((32#64).toNat : Int).toNat)) + ((((x0 >>> ((32#64).toNat : Int).toNat) * (x1 &&& (4294967295#64))) + (((x0 &&& (4294967295#64)) * (x1 &&& (4294967295#64))) >>> ((32#64).toNat : Int).toNat)) >>> ((32#64).toNat : Int).toNat)) + ((((((x0 >>> ((32#64).toNat : Int).toNat) * (x1 &&& (4294967295#64))) + (((x0 &&& (4294967295#64)) * (x1 &&& (4294967295#64))) >>> ((32#64).toNat : Int).toNat)) &&& (4294967295#64)) + ((x0 &&& (4294967295#64)) * (x1 >>> ((32#64).toNat : Int).toNat))) >>> ((32#64).toNat : Int).toNat)), (x0 * x1))
def Z6 (x0 : BitVec 64) (x1 : BitVec 64) (Φ : BitVec 64 × BitVec 64 → Prop) : Prop :=
 Z5 x0 x1 fun v1 =>
 Φ (v1.1, v1.2)
def Z7 (Φ : List Int → Prop) : (Int × List Int) → ((Int × List Int) → Prop) → Prop
 | (v3, v4), rec2 =>
 (v3 < (v4.length : Int) →
 inS v3 (v4.length : Int) v4.length ∧
 inS 0 v3 v4.length ∧
 inI (v3 + ((min (sub v4 0 v3).length (v4.length - (v3 : Int).toNat) : Nat) : Int)) ∧
 rec2 ((v3 + ((min (sub v4 0 v3).length (v4.length - (v3 : Int).toNat) : Nat) : Int)), (paste v4 v3 (sub v4 0 v3)))) ∧
 (¬ (v3 < (v4.length : Int)) →
 Φ v4)
def Z8 (x0 : List Int) (v1 : BitVec 64 × BitVec 64) (Φ : List Int → Prop) : Bool → Prop
 | v2 =>
 (v2 = true →
 False) ∧
 (¬ (v2 = true) →
 0 ≤ v1.2.toInt ∧
 lenOk v1.2.toInt.toNat 8 ∧
 LoopW (Z7 Φ) (((min x0.length ((List.replicate v1.2.toInt.toNat (0 : Int)).length - (0 : Int).toNat) : Nat) : Int), (paste (List.replicate v1.2.toInt.toNat (0 : Int)) 0 x0)))
def Z9 (x0 : List Int) (x1 : Int) (Φ : List Int → Prop) : Prop :=
 (x1 < 0 →
 False) ∧
 (¬ (x1 < 0) →
 Z6 (BitVec.ofInt 64 (x0.length : Int)) (BitVec.ofInt 64 x1) fun v1 =>
 Join (Z8 x0 v1 Φ) fun J1 =>
 ((0#64) < v1.1 →
 J1 true) ∧
 (¬ ((0#64) < v1.1) →
 J1 (decide ((9223372036854775807#64) < v1.2))))
def q144 (x0 : Int) (x1 : Int) (x2 : Int) (Φ : q13 × Int → Prop) : Bool → Prop
 | v2 =>
 (v2 = true →
 Φ ((q13.mk 0 ([] : List q10) ([] : List Int) ([] : List Bool)), 2)) ∧
 (¬ (v2 = true) →
 ∃ v3 : List Int × Unit, Z9 ([x2] : List Int) x0 (fun z => (z, ()) = v3) ∧
 0 ≤ x0 ∧
 lenOk x0.toNat 1 ∧
 Φ ((q13.mk x1 ([] : List q10) v3.1 (List.replicate x0.toNat (false : Bool))), 0))
def q145 (x0 : Int) (x1 : Int) (x2 : Int) (Φ : q13 × Int → Prop) : Bool → Prop
 | v1 =>
 (v1 = true →
 Φ ((q13.mk 0 ([] : List q10) ([] : List Int) ([] : List Bool)), 6)) ∧
 (¬ (v1 = true) →
 Join (q144 x0 x1 x2 Φ) fun J2 =>
 (x1 < 1 →
 J2 true) ∧
 (¬ (x1 < 1) →
 (1024 < x1 →
 J2 true) ∧
 (¬ (1024 < x1) →
 (x2 < 0 →
 J2 true) ∧
 (¬ (x2 < 0) →
 J2 (decide (1073741824 < x2))))))
def q91 (x0 : Int) (x1 : Int) (x2 : Int) (Φ : q13 × Int → Prop) : Prop :=
 Join (q145 x0 x1 x2 Φ) fun J1 =>
 (x0 < 1 →
 J1 true) ∧
 (¬ (x0 < 1) →
 J1 (decide (4 < x0)))
def Z10 (x0 : q16) (v1 : List Int × Unit) (Φ : q8 → Prop) : (Int × List Sec) → ((Int × List Sec) → Prop) → Prop
 | (v2, v3), rec1 =>
 inI ((ix v1.1 ((x0.Volume % (2#8)).toNat : Int)) - ((x0.Start.toNat : Int) % (ix v1.1 ((x0.Volume % (2#8)).toNat : Int)))) ∧
 (0 ≤ (x0.Count.toNat : Int) ∧ ((ix v1.1 ((x0.Volume % (2#8)).toNat : Int)) - ((x0.Start.toNat : Int) % (ix v1.1 ((x0.Volume % (2#8)).toNat : Int)))) ≠ (0 : Int)) ∧
 (v2 ≤ ((x0.Count.toNat : Int) % ((ix v1.1 ((x0.Volume % (2#8)).toNat : Int)) - ((x0.Start.toNat : Int) % (ix v1.1 ((x0.Volume % (2#8)).toNat : Int))))) →
 lenOk (v3 ++ ([(Sec.mk x0.First (BitVec.ofInt 8 v2) (0#8) (0#8) (0#8) (0#8) (0#8) (0#8))] : List Sec)).length 8 ∧
 inI (v2 + 1) ∧
 rec1 ((v2 + 1), (v3 ++ ([(Sec.mk x0.First (BitVec.ofInt 8 v2) (0#8) (0#8) (0#8) (0#8) (0#8) (0#8))] : List Sec)))) ∧
 (¬ (v2 ≤ ((x0.Count.toNat : Int) % ((ix v1.1 ((x0.Volume % (2#8)).toNat : Int)) - ((x0.Start.toNat : Int) % (ix v1.1 ((x0.Volume % (2#8)).toNat : Int)))))) →
 Φ (q8.mk ((x0.Volume % (2#8)).toNat : Int) ((x0.Start.toNat : Int) % (ix v1.1 ((x0.Volume % (2#8)).toNat : Int))) v3))
def Z11 (x0 : q16) (Φ : q8 → Prop) : Prop :=
 ∃ v1 : List Int × Unit, Z0 (fun z => (z, ()) = v1) ∧
 (2#8) ≠ 0#8 ∧
 inX ((x0.Volume % (2#8)).toNat : Int) v1.1.length ∧
 (0 ≤ (x0.Start.toNat : Int) ∧ (ix v1.1 ((x0.Volume % (2#8)).toNat : Int)) ≠ (0 : Int)) ∧
 (2#8) ≠ 0#8 ∧
 LoopW (Z10 x0 v1 Φ) (0, ([] : List Sec))
def Z12 (x0 : Int) (Φ : Bool → Prop) : Prop :=
 q34 x0 0 1073741824 fun v1 =>
 Φ (decide (¬ (v1 = true)))
def Z13 (x0 : List Int) (Φ : Int → Prop) : (Int) → ((Int) → Prop) → Prop
 | v2, rec1 =>
 (v2 < (x0.length : Int) →
 inX v2 x0.length ∧
 Z12 (ix x0 v2) fun v3 =>
 (v3 = true →
 (0 ≤ v2 →
 Φ 2) ∧
 (¬ (0 ≤ v2) →
 Φ 0)) ∧
 (¬ (v3 = true) →
 inI (v2 + 1) ∧
 rec1 (v2 + 1))) ∧
 (¬ (v2 < (x0.length : Int)) →
 (0 ≤ ((-1) : Int) →
 Φ 2) ∧
 (¬ (0 ≤ ((-1) : Int)) →
 Φ 0))
def Z14 (x0 : List Int) (x1 : Int) (Φ : Int → Prop) : Prop :=
 q34 (x0.length : Int) x1 8 fun v1 =>
 (¬ (v1 = true) →
 Φ 6) ∧
 (¬ (¬ (v1 = true)) →
 LoopW (Z13 x0 Φ) 0)
def Z15 (x0 : List Sec) (Φ : Int → Prop) : Prop :=
 Φ (x0.length : Int)
def Z16 (x0 : List (List Sec)) (Φ : List Int → Prop) : (Int × List Int) → ((Int × List Int) → Prop) → Prop
 | (v1, v2), rec1 =>
 (v1 < (x0.length : Int) →
 inX v1 x0.length ∧
 Z15 (ix x0 v1) fun v3 =>
 lenOk (v2 ++ ([v3] : List Int)).length 8 ∧
 inI (v1 + 1) ∧
 rec1 ((v1 + 1), (v2 ++ ([v3] : List Int)))) ∧
 (¬ (v1 < (x0.length : Int)) →
 Φ v2)
def q73 (x0 : List (List Sec)) (Φ : List Int → Prop) : Prop :=
 0 ≤ (x0.length : Int) ∧
 lenOk (x0.length : Int).toNat 8 ∧
 LoopW (Z16 x0 Φ) (0, ([] : List Int))
def q45 (x0 : List (List Sec)) (Φ : Int → Prop) : Prop :=
 q73 x0 fun v1 =>
 Z3 v1 fun v2 =>
 Φ v2
def q146 (x0 : List (List Sec)) (x1 : q8) (Φ : Int → Prop) : Bool → Prop
 | v1 =>
 (v1 = true →
 Φ 7) ∧
 (¬ (v1 = true) →
 ((x1.Data.length : Int) = 0 →
 Φ 1) ∧
 (¬ ((x1.Data.length : Int) = 0) →
 (x1.Start < 0 →
 Φ 2) ∧
 (¬ (x1.Start < 0) →
 inX x1.Volume x0.length ∧
 inI (((ix x0 x1.Volume).length : Int) - (x1.Data.length : Int)) ∧
 ((((ix x0 x1.Volume).length : Int) - (x1.Data.length : Int)) < x1.Start →
 Φ 2) ∧
 (¬ ((((ix x0 x1.Volume).length : Int) - (x1.Data.length : Int)) < x1.Start) →
 Φ 0))))
def q92 (x0 : List (List Sec)) (x1 : q8) (Φ : Int → Prop) : Prop :=
 Join (q146 x0 x1 Φ) fun J1 =>
 (x1.Volume < 0 →
 J1 true) ∧
 (¬ (x1.Volume < 0) →
 J1 (decide ((x0.length : Int) ≤ x1.Volume)))
def q66 (x0 : List (List Sec)) (x1 : q8) (Φ : Int → Prop) : Prop :=
 q45 x0 fun v1 =>
 (v1 ≠ 0 →
 Φ v1) ∧
 (¬ (v1 ≠ 0) →
 q92 x0 x1 fun v2 =>
 Φ v2)
def Z17 (x0 : List Sec) (Φ : List Sec → Prop) : Prop :=
 (x0 = [] →
 Φ ([] : List Sec)) ∧
 (
 lenOk (([] : List Sec) ++ x0).length 8 ∧
 Φ (([] : List Sec) ++ x0))
def Z18 (x0 : q8) (Φ : q8 → Prop) : Prop :=
 Z17 x0.Data fun v1 =>
 Φ (q8.mk x0.Volume x0.Start v1)
def Z19 (x0 : q12) (v1 : List Int × Unit) (v2 : List Int × Unit) (v3 : List Int × Unit) (Φ : q12 → Prop) : (Int × List q8) → ((Int × List q8) → Prop) → Prop
 | (v4, v5), rec1 =>
 (v4 < (x0.Writes.length : Int) →
 inX v4 x0.Writes.length ∧
 Z18 (ix x0.Writes v4) fun v6 =>
 lenOk (v5 ++ ([v6] : List q8)).length 40 ∧
 inI (v4 + 1) ∧
 rec1 ((v4 + 1), (v5 ++ ([v6] : List q8)))) ∧
 (¬ (v4 < (x0.Writes.length : Int)) →
 Φ (q12.mk x0.Number v1.1 v2.1 v3.1 v5))
def Z20 (x0 : q12) (Φ : q12 → Prop) : Prop :=
 ∃ v1 : List Int × Unit, Z4 x0.Sizes (fun z => (z, ()) = v1) ∧
 ∃ v2 : List Int × Unit, Z4 x0.Positions (fun z => (z, ()) = v2) ∧
 ∃ v3 : List Int × Unit, Z4 x0.Nodes (fun z => (z, ()) = v3) ∧
 LoopW (Z19 x0 v1 v2 v3 Φ) (0, ([] : List q8))
def q416 (x0 : q12) (x1 : Int) (x2 : q8) (v1 : List (List Sec) × Int) (Φ : q12 × Int → Prop) : (Int) → ((Int) → Prop) → Prop
 | v4, rec1 =>
 (v4 < (x0.Writes.length : Int) →
 inX v4 x0.Writes.length ∧
 inX v4 x0.Nodes.length ∧
 inI ((x0.Positions.length : Int) - 1) ∧
 q34 (ix x0.Nodes v4) 0 ((x0.Positions.length : Int) - 1) fun v5 =>
 (¬ (v5 = true) →
 Φ ((q12.mk 0 ([] : List Int) ([] : List Int) ([] : List Int) ([] : List q8)), 7)) ∧
 (¬ (¬ (v5 = true)) →
 q66 v1.1 (ix x0.Writes v4) fun v6 =>
 (¬ (v6 = 0) →
 Φ ((q12.mk 0 ([] : List Int) ([] : List Int) ([] : List Int) ([] : List q8)), v6)) ∧
 (¬ (¬ (v6 = 0)) →
 inI (v4 + 1) ∧
 rec1 (v4 + 1)))) ∧
 (¬ (v4 < (x0.Writes.length : Int)) →
 inI ((x0.Positions.length : Int) - 1) ∧
 q34 x1 0 ((x0.Positions.length : Int) - 1) fun v7 =>
 (¬ (v7 = true) →
 Φ ((q12.mk 0 ([] : List Int) ([] : List Int) ([] : List Int) ([] : List q8)), 7)) ∧
 (¬ (¬ (v7 = true)) →
 q66 v1.1 x2 fun v8 =>
 (¬ (v8 = 0) →
 Φ ((q12.mk 0 ([] : List Int) ([] : List Int) ([] : List Int) ([] : List q8)), v8)) ∧
 (¬ (¬ (v8 = 0)) →
 (¬ ((x0.Writes.length : Int) < 4096) →
 Φ ((q12.mk 0 ([] : List Int) ([] : List Int) ([] : List Int) ([] : List q8)), 11)) ∧
 (¬ (¬ ((x0.Writes.length : Int) < 4096)) →
 Z20 x0 fun v9 =>
 lenOk (v9.Nodes ++ ([x1] : List Int)).length 8 ∧
 ∃ v10 : q8 × Unit, Z18 x2 (fun z => (z, ()) = v10) ∧
 lenOk (v9.Writes ++ ([v10.1] : List q8)).length 40 ∧
 Φ ((q12.mk v9.Number v9.Sizes v9.Positions (v9.Nodes ++ ([x1] : List Int)) (v9.Writes ++ ([v10.1] : List q8))), 0)))))
def q147 (x0 : q12) (x1 : Int) (x2 : q8) (Φ : q12 × Int → Prop) : Prop :=
 q52 x0.Sizes fun v1 =>
 (¬ (v1.2 = 0) →
 Φ ((q12.mk 0 ([] : List Int) ([] : List Int) ([] : List Int) ([] : List q8)), v1.2)) ∧
 (¬ (¬ (v1.2 = 0)) →
 q34 x0.Number 0 1073741823 fun v2 =>
 (¬ (v2 = true) →
 Φ ((q12.mk 0 ([] : List Int) ([] : List Int) ([] : List Int) ([] : List q8)), 2)) ∧
 (¬ (¬ (v2 = true)) →
 Z14 x0.Positions 1 fun v3 =>
 (¬ (v3 = 0) →
 Φ ((q12.mk 0 ([] : List Int) ([] : List Int) ([] : List Int) ([] : List q8)), v3)) ∧
 (¬ (¬ (v3 = 0)) →
 ((x0.Nodes.length : Int) = (x0.Writes.length : Int) →
 (¬ ((x0.Writes.length : Int) ≤ 4096) →
 Φ ((q12.mk 0 ([] : List Int) ([] : List Int) ([] : List Int) ([] : List q8)), 6)) ∧
 (¬ (¬ ((x0.Writes.length : Int) ≤ 4096)) →
 LoopW (q416 x0 x1 x2 v1 Φ) 0)) ∧
 (¬ ((x0.Nodes.length : Int) = (x0.Writes.length : Int)) →
 Φ ((q12.mk 0 ([] : List Int) ([] : List Int) ([] : List Int) ([] : List q8)), 6)))))
def Z21 (x0 : List (List Sec)) (Φ : List (List Sec) → Prop) : (List (List Sec) × Int) → ((List (List Sec) × Int) → Prop) → Prop
 | (v12, v20), rec1 =>
 (v20 < (x0.length : Int) →
 inX v20 x0.length ∧
 Z17 (ix x0 v20) fun v27 =>
 lenOk (v12 ++ [v27]).length 24 ∧
 inI (v20 + 1) ∧
 rec1 ((v12 ++ [v27]), v20 + 1)) ∧
 (¬ (v20 < (x0.length : Int)) →
 Φ v12)
def Z22 (x0 : List (List Sec)) (Φ : List (List Sec) → Prop) : Prop :=
 0 ≤ (x0.length : Int) ∧
 lenOk (x0.length : Int).toNat 24 ∧
 LoopW (Z21 x0 Φ) (([] : List (List Sec)), 0)
def Z23 (x0 : List (List Sec)) (Φ : List (List Sec) → Prop) : Prop :=
 Z22 x0 fun v2 =>
 Φ v2
def Z24 (x1 : List q8) (Φ : List (List Sec) × Int × Int → Prop) : (List (List Sec) × Int) → ((List (List Sec) × Int) → Prop) → Prop
 | (v16, v24), rec1 =>
 (v24 < (x1.length : Int) →
 inX v24 x1.length ∧
 q92 v16 (ix x1 v24) fun v38 =>
 (v38 ≠ 0 →
 Φ (([] : List (List Sec)), v24, v38)) ∧
 (¬ (v38 ≠ 0) →
 inX ((ix x1 v24).Volume) v16.length ∧
 inS ((ix x1 v24).Start) ((ix v16 ((ix x1 v24).Volume)).length : Int) (ix v16 ((ix x1 v24).Volume)).length ∧
 inI (v24 + 1) ∧
 rec1 ((put v16 ((ix x1 v24).Volume) (paste (ix v16 ((ix x1 v24).Volume)) ((ix x1 v24).Start) ((ix x1 v24).Data))), v24 + 1))) ∧
 (¬ (v24 < (x1.length : Int)) →
 Φ (v16, 0, 0))
def q38 (x0 : List (List Sec)) (x1 : List q8) (Φ : List (List Sec) × Int × Int → Prop) : Prop :=
 q45 x0 fun v3 =>
 (v3 ≠ 0 →
 Φ (([] : List (List Sec)), 0, v3)) ∧
 (¬ (v3 ≠ 0) →
 Z23 x0 fun v7 =>
 LoopW (Z24 x1 Φ) (v7, 0))
def Z25 (x0 : Int) (Φ : Bool → Prop) : Prop :=
 Φ (decide (0 < x0))
def Z26 (x0 : q30) (x1 : Bool) : (List (Int × q8 × Unit) × Int) → ((List (Int × q8 × Unit) × Int) → Prop) → Prop
 | (l1, v1), rec1 =>
 (v1 < (x0.c.Writes.length : Int) →
 inX v1 x0.c.Writes.length ∧
 inX v1 x0.part.length ∧
 ((ix x0.part v1) = x1 →
 Yl l1 fun v2 r3 => (v1, (ix x0.c.Writes v1), ()) = v2 ∧ (
 inI (v1 + 1) ∧
 rec1 (r3, (v1 + 1))) ∧ (
 True)) ∧
 (¬ ((ix x0.part v1) = x1) →
 inI (v1 + 1) ∧
 rec1 (l1, (v1 + 1)))) ∧
 (¬ (v1 < (x0.c.Writes.length : Int)) →
 l1 = [])
def q29 (x0 : q30) (x1 : Bool) (l : List (Int × q8 × Unit)) : Prop :=
 LoopW (Z26 x0 x1) (l, 0)
def Z27 (x0 : q8) (Φ : Int → Prop) : Bool → Prop
 | v1 =>
 (v1 = true →
 Φ 7) ∧
 (¬ (v1 = true) →
 ((x0.Data.length : Int) = 0 →
 Φ 1) ∧
 (¬ ((x0.Data.length : Int) = 0) →
 (x0.Start < 0 →
 Φ 2) ∧
 (¬ (x0.Start < 0) →
 inI (4096 - (x0.Data.length : Int)) ∧
 ((4096 - (x0.Data.length : Int)) < x0.Start →
 Φ 2) ∧
 (¬ ((4096 - (x0.Data.length : Int)) < x0.Start) →
 Φ 0))))
def Z28 (x0 : q8) (Φ : Int → Prop) : Prop :=
 Join (Z27 x0 Φ) fun J1 =>
 (x0.Volume < 0 →
 J1 true) ∧
 (¬ (x0.Volume < 0) →
 J1 (decide (8 ≤ x0.Volume)))
def Z29 (x0 : q9) (Φ : q9 → Prop) : Prop :=
 inI (x0.sector + 1) ∧
 Φ (q9.mk x0.volume (x0.sector + 1))
def Z30 (x0 : Int) (Φ : Bool → Prop) : Prop :=
 Φ (decide (x0 ≠ x0))
def Z31 (x0 : Int) (x1 : Int) (Φ : Int → Prop) : Prop :=
 Z30 x0 fun v1 =>
 Z30 x1 fun v2 =>
 (v1 = true →
 (v2 = true →
 Φ 0) ∧
 (¬ (v2 = true) →
 Φ (-1))) ∧
 (¬ (v1 = true) →
 (v2 = true →
 Φ 1) ∧
 (¬ (v2 = true) →
 (x0 < x1 →
 Φ (-1)) ∧
 (¬ (x0 < x1) →
 (x1 < x0 →
 Φ 1) ∧
 (¬ (x1 < x0) →
 Φ 0))))
def q377 (x0 : List Int) (Φ : Int → Prop) : (Int) → ((Int) → Prop) → Prop
 | v1, rec1 =>
 (v1 < (x0.length : Int) →
 inX v1 x0.length ∧
 ((ix x0 v1) ≠ 0 →
 Φ (ix x0 v1)) ∧
 (¬ ((ix x0 v1) ≠ 0) →
 inI (v1 + 1) ∧
 rec1 (v1 + 1))) ∧
 (¬ (v1 < (x0.length : Int)) →
 Φ 0)
def q258 (x0 : List Int) (Φ : Int → Prop) : Prop :=
 LoopW (q377 x0 Φ) 0
def Z32 (x0 : q9) (x1 : q9) (Φ : Int → Prop) : Prop :=
 ∃ v1 : Int × Unit, Z31 x0.volume x1.volume (fun z => (z, ()) = v1) ∧
 ∃ v2 : Int × Unit, Z31 x0.sector x1.sector (fun z => (z, ()) = v2) ∧
 ∃ v3 : Int × Unit, q258 ([v1.1, v2.1] : List Int) (fun z => (z, ()) = v3) ∧
 Φ v3.1
def pleB (a b : q9) : Bool := decide (a.volume < b.volume ∨ a.volume = b.volume ∧ a.sector ≤ b.sector)
def Z33 (xs : List q9) (Φ : List q9 → Prop) : Prop := xs.length ≤ 1099511627776 ∧ Φ (sortG pleB xs)
def Z34 (x0 : List q8) (v3 : Int) (rec2 : (Int × (List (q9 × Sec))) → Prop) (_ : List q8 × Int → Prop) : (Int × Int × Int × (List (q9 × Sec))) → ((Int × Int × Int × (List (q9 × Sec))) → Prop) → Prop
 | (v5, v6, v7, v8), rec3 =>
 (v5 < (((ix x0 v3).Data).length : Int) →
 inX v5 ((ix x0 v3).Data).length ∧
 Z29 (q9.mk v6 v7) fun v9 =>
 inI (v5 + 1) ∧
 rec3 ((v5 + 1), v9.volume, v9.sector, (mput v8 (q9.mk v6 v7) (ix ((ix x0 v3).Data) v5)))) ∧
 (¬ (v5 < (((ix x0 v3).Data).length : Int)) →
 inI (v3 + 1) ∧
 rec2 ((v3 + 1), v8))
def Z35 (v4 : List (q9 × Sec)) (v13 : List q9) (v14 : Int) (rec5 : (Int × Int × Int × List q8 × List Sec) → Prop) (_ : List q8 × Int → Prop) : List q8 × List Sec → Prop
 | (v19, v20) =>
 inI ((v19.length : Int) - 1) ∧
 inX ((v19.length : Int) - 1) v19.length ∧
 ((v19.length : Int) - 1) + 1 = (v19.length : Int) ∧
 lenOk (v20 ++ ([(mget v4 (ix v13 v14) sec0)] : List Sec)).length 8 ∧
 Z29 (ix v13 v14) fun v21 =>
 inI (v14 + 1) ∧
 rec5 ((v14 + 1), v21.volume, v21.sector, v19, (v20 ++ ([(mget v4 (ix v13 v14) sec0)] : List Sec)))
def Z36 (v4 : List (q9 × Sec)) (v13 : List q9) (Φ : List q8 × Int → Prop) : (Int × Int × Int × List q8 × List Sec) → ((Int × Int × Int × List q8 × List Sec) → Prop) → Prop
 | (v14, v15, v16, v17, v18), rec5 =>
 (v14 < (v13.length : Int) →
 inX v14 v13.length ∧
 Join (Z35 v4 v13 v14 rec5 Φ) fun J6 =>
 ((ix v13 v14) ≠ (q9.mk v15 v16) →
 lenOk ((put v17 ((v17.length : Int) - 1) (q8.mk ((ix v17 ((v17.length : Int) - 1)).Volume) ((ix v17 ((v17.length : Int) - 1)).Start) v18)) ++ ([(q8.mk ((ix v13 v14).volume) ((ix v13 v14).sector) ([] : List Sec))] : List q8)).length 40 ∧
 J6 (((put v17 ((v17.length : Int) - 1) (q8.mk ((ix v17 ((v17.length : Int) - 1)).Volume) ((ix v17 ((v17.length : Int) - 1)).Start) v18)) ++ ([(q8.mk ((ix v13 v14).volume) ((ix v13 v14).sector) ([] : List Sec))] : List q8)), ([] : List Sec))) ∧
 (¬ ((ix v13 v14) ≠ (q9.mk v15 v16)) →
 J6 (v17, v18))) ∧
 (¬ (v14 < (v13.length : Int)) →
 Φ ((put v17 ((v17.length : Int) - 1) (q8.mk ((ix v17 ((v17.length : Int) - 1)).Volume) ((ix v17 ((v17.length : Int) - 1)).Start) v18)), 0))
def Z37 (v4 : List (q9 × Sec)) (Φ : List q8 × Int → Prop) : (((Nat × List Nat)) × List q9) → ((((Nat × List Nat)) × List q9) → Prop) → Prop
 | (v10, v11), rec4 =>
 v4.length = v10.1 ∧ ((∀ i, i < v4.length → i ∈ v10.2) →
 Z33 v11 fun v13 =>
 LoopW (Z36 v4 v13 Φ) (0, (-1), 0, ([] : List q8), ([] : List Sec))) ∧
 ∀ i12, i12 < v4.length → i12 ∉ v10.2 →
 v4.length = v10.1 ∧
 i12 < v4.length ∧
 lenOk (v11 ++ ([((ent v4 i12).1)] : List q9)).length 16 ∧
 rec4 ((v10.1, (i12 :: v10.2)), (v11 ++ ([((ent v4 i12).1)] : List q9)))
def Z38 (x0 : List q8) (Φ : List q8 × Int → Prop) : (Int × (List (q9 × Sec))) → ((Int × (List (q9 × Sec))) → Prop) → Prop
 | (v3, v4), rec2 =>
 (v3 < (x0.length : Int) →
 inX v3 x0.length ∧
 LoopW (Z34 x0 v3 rec2 Φ) (0, (ix x0 v3).Volume, (ix x0 v3).Start, v4)) ∧
 (¬ (v3 < (x0.length : Int)) →
 0 ≤ (v4.length : Int) ∧
 lenOk (v4.length : Int).toNat 16 ∧
 LoopW (Z37 v4 Φ) ((v4.length, []), ([] : List q9)))
def Z39 (x0 : List q8) (Φ : List q8 × Int → Prop) : (Int) → ((Int) → Prop) → Prop
 | v1, rec1 =>
 (v1 < (x0.length : Int) →
 inX v1 x0.length ∧
 Z28 (ix x0 v1) fun v2 =>
 (v2 ≠ 0 →
 Φ (([] : List q8), v2)) ∧
 (¬ (v2 ≠ 0) →
 inI (v1 + 1) ∧
 rec1 (v1 + 1))) ∧
 (¬ (v1 < (x0.length : Int)) →
 LoopW (Z38 x0 Φ) (0, ([] : List (q9 × Sec))))
def Z40 (x0 : List q8) (Φ : List q8 × Int → Prop) : Prop :=
 LoopW (Z39 x0 Φ) 0
def Z41 (v1 : q8) (v2 : List Sec) (rec1 : (List (Int × q8 × Unit) × List Sec) → Prop) (v3 : Int × q8 × Unit) (r4 : List (Int × q8 × Unit)) (_ : q8 → Prop) : (Int × List Sec) → ((Int × List Sec) → Prop) → Prop
 | (v6, v7), rec3 =>
 (v6 < (v2.length : Int) →
 inI (v1.Start + v6) ∧
 inI ((v1.Start + v6) - v3.2.1.Start) ∧
 inI ((v3.2.1.Data.length : Int) - 1) ∧
 q34 ((v1.Start + v6) - v3.2.1.Start) 0 ((v3.2.1.Data.length : Int) - 1) fun v8 =>
 (v8 = true →
 inX ((v1.Start + v6) - v3.2.1.Start) v3.2.1.Data.length ∧
 inX v6 v7.length ∧
 inI (v6 + 1) ∧
 rec3 ((v6 + 1), (put v7 v6 (ix v3.2.1.Data ((v1.Start + v6) - v3.2.1.Start))))) ∧
 (¬ (v8 = true) →
 inI (v6 + 1) ∧
 rec3 ((v6 + 1), v7))) ∧
 (¬ (v6 < (v2.length : Int)) →
 rec1 (r4, v7))
def Z42 (v1 : q8) (v2 : List Sec) (rec1 : (List (Int × q8 × Unit) × List Sec) → Prop) (v3 : Int × q8 × Unit) (r4 : List (Int × q8 × Unit)) (Φ : q8 → Prop) : Bool → Prop
 | v5 =>
 (v5 = true →
 rec1 (r4, v2)) ∧
 (¬ (v5 = true) →
 LoopW (Z41 v1 v2 rec1 v3 r4 Φ) (0, v2))
def Z43 (x1 : Int) (v1 : q8) (Φ : q8 → Prop) : (List (Int × q8 × Unit) × List Sec) → ((List (Int × q8 × Unit) × List Sec) → Prop) → Prop
 | (lst, v2), rec1 =>
 match lst with
 | [] =>
 Φ (q8.mk v1.Volume v1.Start v2)
 | v3 :: r4 =>
 Join (Z42 v1 v2 rec1 v3 r4 Φ) fun J2 =>
 (v3.1 < x1 →
 J2 true) ∧
 (¬ (v3.1 < x1) →
 J2 (decide (v3.2.1.Volume ≠ v1.Volume)))
def Z44 (x0 : q30) (x1 : Int) (x2 : q8) (Φ : q8 → Prop) : Prop :=
 Z18 x2 fun v1 =>
 ∃ l9 : List (Int × q8 × Unit), q29 x0 true l9 ∧
 LoopW (Z43 x1 v1 Φ) (l9, v1.Data)
def Z45 (x0 : q12) (x1 : Int) (v8 : Int) (v9 : List Int) (v10 : List Int) (v11 : List Int) (v12 : List q8) (v13 : List Bool) (v17 : List q8 × Int) (v18 : List Int × Unit) (v19 : List Int × Unit) (v20 : List Int × Unit) (Φ : q12 × q10 × Int → Prop) : (List (Int × q8 × Unit) × (List Int × List q8)) → ((List (Int × q8 × Unit) × (List Int × List q8)) → Prop) → Prop
 | (lst, v21, v22), rec4 =>
 match lst with
 | [] =>
 Φ ((q12.mk (x0.Number + 1) v19.1 v20.1 v21 v22), (q10.mk x0.Number (x0.Number + 1) x1 v18.1 v17.1), 0)
 | v23 :: r24 =>
 inX v23.1 x0.Nodes.length ∧
 lenOk (v21 ++ ([(ix x0.Nodes v23.1)] : List Int)).length 8 ∧
 ∃ v25 : q8 × Unit, Z44 (q30.mk (q12.mk v8 v9 v10 v11 v12) v13) v23.1 v23.2.1 (fun z => (z, ()) = v25) ∧
 lenOk (v22 ++ ([v25.1] : List q8)).length 40 ∧
 rec4 (r24, ((v21 ++ ([(ix x0.Nodes v23.1)] : List Int)), (v22 ++ ([v25.1] : List q8))))
def Z46 (x0 : q12) (x1 : Int) (x2 : List Int) (v8 : Int) (v9 : List Int) (v10 : List Int) (v11 : List Int) (v12 : List q8) (v13 : List Bool) (Φ : q12 × q10 × Int → Prop) : (List (Int × q8 × Unit) × List q8) → ((List (Int × q8 × Unit) × List q8) → Prop) → Prop
 | (lst, v14), rec3 =>
 match lst with
 | [] =>
 Z40 v14 fun v17 =>
 (¬ (v17.2 = 0) →
 Φ ((q12.mk 0 ([] : List Int) ([] : List Int) ([] : List Int) ([] : List q8)), (q10.mk 0 0 0 ([] : List Int) ([] : List q8)), v17.2)) ∧
 (¬ (¬ (v17.2 = 0)) →
 inI (x0.Number + 1) ∧
 ∃ v18 : List Int × Unit, Z4 x2 (fun z => (z, ()) = v18) ∧
 inI (x0.Number + 1) ∧
 ∃ v19 : List Int × Unit, Z4 x0.Sizes (fun z => (z, ()) = v19) ∧
 ∃ v20 : List Int × Unit, Z4 x2 (fun z => (z, ()) = v20) ∧
 ∃ l26 : List (Int × q8 × Unit), q29 (q30.mk (q12.mk v8 v9 v10 v11 v12) v13) false l26 ∧
 LoopW (Z45 x0 x1 v8 v9 v10 v11 v12 v13 v17 v18 v19 v20 Φ) (l26, (([] : List Int), ([] : List q8))))
 | v15 :: r16 =>
 lenOk (v14 ++ ([v15.2.1] : List q8)).length 40 ∧
 rec3 (r16, (v14 ++ ([v15.2.1] : List q8)))
def Z47 (x0 : q12) (x1 : Int) (x2 : List Int) (Φ : q12 × q10 × Int → Prop) : Int × List Int × List Int × List Int × List q8 × List Bool → Prop
 | (v8, v9, v10, v11, v12, v13) =>
 ∃ l27 : List (Int × q8 × Unit), q29 (q30.mk (q12.mk v8 v9 v10 v11 v12) v13) true l27 ∧
 LoopW (Z46 x0 x1 x2 v8 v9 v10 v11 v12 v13 Φ) (l27, ([] : List q8))
def Z48 (x0 : q12) (x1 : Int) (x2 : List Int) (v31 : List Int) (v32 : List Bool) (Φ : q12 × q10 × Int → Prop) : (Int) → ((Int) → Prop) → Prop
 | v33, rec7 =>
 (v33 < (v31.length : Int) →
 inX v33 v31.length ∧
 Z25 (ix v31 v33) fun v34 =>
 (v34 = true →
 (¬ (¬ (0 ≤ v33)) →
 Φ ((q12.mk 0 ([] : List Int) ([] : List Int) ([] : List Int) ([] : List q8)), (q10.mk 0 0 0 ([] : List Int) ([] : List q8)), 2)) ∧
 (¬ (¬ (¬ (0 ≤ v33))) →
 Z47 x0 x1 x2 Φ (x0.Number, x0.Sizes, x0.Positions, x0.Nodes, x0.Writes, v32))) ∧
 (¬ (v34 = true) →
 inI (v33 + 1) ∧
 rec7 (v33 + 1))) ∧
 (¬ (v33 < (v31.length : Int)) →
 (¬ (¬ (0 ≤ ((-1) : Int))) →
 Φ ((q12.mk 0 ([] : List Int) ([] : List Int) ([] : List Int) ([] : List q8)), (q10.mk 0 0 0 ([] : List Int) ([] : List q8)), 2)) ∧
 (¬ (¬ (¬ (0 ≤ ((-1) : Int)))) →
 Z47 x0 x1 x2 Φ (x0.Number, x0.Sizes, x0.Positions, x0.Nodes, x0.Writes, v32)))
def Z49 (x0 : q12) (x1 : Int) (x2 : List Int) (Φ : q12 × q10 × Int → Prop) : (Int × List Int × List Bool) → ((Int × List Int × List Bool) → Prop) → Prop
 | (v30, v31, v32), rec6 =>
 (v30 < (x0.Nodes.length : Int) →
 inX v30 x0.Nodes.length ∧
 inX (ix x0.Nodes v30) v31.length ∧
 lenOk (v32 ++ ([decide (0 < (ix v31 (ix x0.Nodes v30)))] : List Bool)).length 1 ∧
 inX (ix x0.Nodes v30) v31.length ∧
 inI ((ix v31 (ix x0.Nodes v30)) - 1) ∧
 inX (ix x0.Nodes v30) v31.length ∧
 inI (v30 + 1) ∧
 rec6 ((v30 + 1), (put v31 (ix x0.Nodes v30) (if ((ix v31 (ix x0.Nodes v30)) - 1) < 0 then 0 else ((ix v31 (ix x0.Nodes v30)) - 1))), (v32 ++ ([decide (0 < (ix v31 (ix x0.Nodes v30)))] : List Bool)))) ∧
 (¬ (v30 < (x0.Nodes.length : Int)) →
 LoopW (Z48 x0 x1 x2 v31 v32 Φ) 0)
def Z50 (x0 : q12) (x1 : Int) (x2 : List Int) (Φ : q12 × q10 × Int → Prop) : (Int × List Int) → ((Int × List Int) → Prop) → Prop
 | (v28, v29), rec5 =>
 (v28 < (x2.length : Int) →
 inX v28 x2.length ∧
 inX v28 x0.Positions.length ∧
 inX v28 v29.length ∧
 inX v28 (put v29 v28 (Go.IntKind.wrap Go.IntKind.i64 ((ix x2 v28) - (ix x0.Positions v28)))).length ∧
 (¬ (0 ≤ (ix (put v29 v28 (Go.IntKind.wrap Go.IntKind.i64 ((ix x2 v28) - (ix x0.Positions v28)))) v28)) →
 Φ ((q12.mk 0 ([] : List Int) ([] : List Int) ([] : List Int) ([] : List q8)), (q10.mk 0 0 0 ([] : List Int) ([] : List q8)), 2)) ∧
 (¬ (¬ (0 ≤ (ix (put v29 v28 (Go.IntKind.wrap Go.IntKind.i64 ((ix x2 v28) - (ix x0.Positions v28)))) v28))) →
 inI (v28 + 1) ∧
 rec5 ((v28 + 1), (put v29 v28 (Go.IntKind.wrap Go.IntKind.i64 ((ix x2 v28) - (ix x0.Positions v28))))))) ∧
 (¬ (v28 < (x2.length : Int)) →
 LoopW (Z49 x0 x1 x2 Φ) (0, v29, ([] : List Bool)))
def Z51 (x0 : q12) (x1 : Int) (x2 : List Int) (v1 : List (List Sec) × Int) (Φ : q12 × q10 × Int → Prop) : (Int) → ((Int) → Prop) → Prop
 | v4, rec1 =>
 (v4 < (x0.Writes.length : Int) →
 inX v4 x0.Writes.length ∧
 inX v4 x0.Nodes.length ∧
 inI ((x0.Positions.length : Int) - 1) ∧
 q34 (ix x0.Nodes v4) 0 ((x0.Positions.length : Int) - 1) fun v5 =>
 (¬ (v5 = true) →
 Φ ((q12.mk 0 ([] : List Int) ([] : List Int) ([] : List Int) ([] : List q8)), (q10.mk 0 0 0 ([] : List Int) ([] : List q8)), 7)) ∧
 (¬ (¬ (v5 = true)) →
 q66 v1.1 (ix x0.Writes v4) fun v6 =>
 (¬ (v6 = 0) →
 Φ ((q12.mk 0 ([] : List Int) ([] : List Int) ([] : List Int) ([] : List q8)), (q10.mk 0 0 0 ([] : List Int) ([] : List q8)), v6)) ∧
 (¬ (¬ (v6 = 0)) →
 inI (v4 + 1) ∧
 rec1 (v4 + 1)))) ∧
 (¬ (v4 < (x0.Writes.length : Int)) →
 q34 x1 0 1073741824 fun v7 =>
 (¬ (v7 = true) →
 Φ ((q12.mk 0 ([] : List Int) ([] : List Int) ([] : List Int) ([] : List q8)), (q10.mk 0 0 0 ([] : List Int) ([] : List q8)), 24)) ∧
 (¬ (¬ (v7 = true)) →
 (¬ ((x2.length : Int) = (x0.Positions.length : Int)) →
 Φ ((q12.mk 0 ([] : List Int) ([] : List Int) ([] : List Int) ([] : List q8)), (q10.mk 0 0 0 ([] : List Int) ([] : List q8)), 6)) ∧
 (¬ (¬ ((x2.length : Int) = (x0.Positions.length : Int))) →
 0 ≤ (x2.length : Int) ∧
 lenOk (x2.length : Int).toNat 8 ∧
 LoopW (Z50 x0 x1 x2 Φ) (0, (List.replicate (x2.length : Int).toNat (0 : Int))))))
def q102 (x0 : q12) (x1 : Int) (x2 : List Int) (Φ : q12 × q10 × Int → Prop) : Prop :=
 q52 x0.Sizes fun v1 =>
 (¬ (v1.2 = 0) →
 Φ ((q12.mk 0 ([] : List Int) ([] : List Int) ([] : List Int) ([] : List q8)), (q10.mk 0 0 0 ([] : List Int) ([] : List q8)), v1.2)) ∧
 (¬ (¬ (v1.2 = 0)) →
 q34 x0.Number 0 1073741823 fun v2 =>
 (¬ (v2 = true) →
 Φ ((q12.mk 0 ([] : List Int) ([] : List Int) ([] : List Int) ([] : List q8)), (q10.mk 0 0 0 ([] : List Int) ([] : List q8)), 2)) ∧
 (¬ (¬ (v2 = true)) →
 Z14 x0.Positions 1 fun v3 =>
 (¬ (v3 = 0) →
 Φ ((q12.mk 0 ([] : List Int) ([] : List Int) ([] : List Int) ([] : List q8)), (q10.mk 0 0 0 ([] : List Int) ([] : List q8)), v3)) ∧
 (¬ (¬ (v3 = 0)) →
 ((x0.Nodes.length : Int) = (x0.Writes.length : Int) →
 (¬ ((x0.Writes.length : Int) ≤ 4096) →
 Φ ((q12.mk 0 ([] : List Int) ([] : List Int) ([] : List Int) ([] : List q8)), (q10.mk 0 0 0 ([] : List Int) ([] : List q8)), 6)) ∧
 (¬ (¬ ((x0.Writes.length : Int) ≤ 4096)) →
 LoopW (Z51 x0 x1 x2 v1 Φ) 0)) ∧
 (¬ ((x0.Nodes.length : Int) = (x0.Writes.length : Int)) →
 Φ ((q12.mk 0 ([] : List Int) ([] : List Int) ([] : List Int) ([] : List q8)), (q10.mk 0 0 0 ([] : List Int) ([] : List q8)), 6)))))
def Z52 (x0 : Int) (Φ : Bool → Prop) : Prop :=
 (0 ≤ x0 →
 Φ (decide (x0 ≤ 1073741824))) ∧
 (¬ (0 ≤ x0) →
 Φ false)
def q57 (Φ : List Int → Prop) : Prop :=
 Z9 ([4096] : List Int) 8 fun v1 =>
 Φ v1
def Z53 (x0 : List q8) (v1 : List (List Sec) × Int) (Φ : Int → Prop) : (Int) → ((Int) → Prop) → Prop
 | v2, rec1 =>
 (v2 < (x0.length : Int) →
 inX v2 x0.length ∧
 q66 v1.1 (ix x0 v2) fun v3 =>
 (v3 ≠ 0 →
 Φ v3) ∧
 (¬ (v3 ≠ 0) →
 (v2 = 0 →
 inI (v2 + 1) ∧
 rec1 (v2 + 1)) ∧
 (¬ (v2 = 0) →
 inI (v2 - 1) ∧
 inX (v2 - 1) x0.length ∧
 (((ix x0 v2).Volume) < ((ix x0 (v2 - 1)).Volume) →
 Φ 3) ∧
 (¬ (((ix x0 v2).Volume) < ((ix x0 (v2 - 1)).Volume)) →
 (((ix x0 v2).Volume) = ((ix x0 (v2 - 1)).Volume) →
 inI (((ix x0 (v2 - 1)).Start) + (((ix x0 (v2 - 1)).Data).length : Int)) ∧
 (((ix x0 v2).Start) ≤ (((ix x0 (v2 - 1)).Start) + (((ix x0 (v2 - 1)).Data).length : Int)) →
 Φ 3) ∧
 (¬ (((ix x0 v2).Start) ≤ (((ix x0 (v2 - 1)).Start) + (((ix x0 (v2 - 1)).Data).length : Int))) →
 inI (v2 + 1) ∧
 rec1 (v2 + 1))) ∧
 (¬ (((ix x0 v2).Volume) = ((ix x0 (v2 - 1)).Volume)) →
 inI (v2 + 1) ∧
 rec1 (v2 + 1)))))) ∧
 (¬ (v2 < (x0.length : Int)) →
 Φ 0)
def Z54 (x0 : List q8) (x1 : List Int) (Φ : Int → Prop) : Prop :=
 q52 x1 fun v1 =>
 (v1.2 ≠ 0 →
 Φ v1.2) ∧
 (¬ (v1.2 ≠ 0) →
 LoopW (Z53 x0 v1 Φ) 0)
def Z55 (x0 : q10) (x1 : List Int) (Φ : Int → Prop) : Bool → Prop
 | v2 =>
 (v2 = true →
 Φ 2) ∧
 (¬ (v2 = true) →
 q34 x0.Time 0 1073741824 fun v3 =>
 (¬ (v3 = true) →
 Φ 24) ∧
 (¬ (¬ (v3 = true)) →
 Z14 x0.Positions 0 fun v4 =>
 (v4 ≠ 0 →
 Φ v4) ∧
 (¬ (v4 ≠ 0) →
 Z54 x0.Writes x1 fun v5 =>
 Φ v5)))
def q46 (x0 : q10) (x1 : List Int) (Φ : Int → Prop) : Prop :=
 q52 x1 fun v1 =>
 (v1.2 ≠ 0 →
 Φ v1.2) ∧
 (¬ (v1.2 ≠ 0) →
 Join (Z55 x0 x1 Φ) fun J1 =>
 (x0.Base < 0 →
 J1 true) ∧
 (¬ (x0.Base < 0) →
 (x0.Number ≤ x0.Base →
 J1 true) ∧
 (¬ (x0.Number ≤ x0.Base) →
 J1 (decide (1073741824 < x0.Number)))))
def Z56 (x0 : List Int) (Φ : Int → Prop) : (Int × Int) → ((Int × Int) → Prop) → Prop
 | (v1, v2), rec1 =>
 (v2 < (x0.length : Int) →
 inX v2 x0.length ∧
 inI (v2 + 1) ∧
 rec1 ((if v1 < (ix x0 v2) then (ix x0 v2) else v1), (v2 + 1))) ∧
 (¬ (v2 < (x0.length : Int)) →
 Φ v1)
def Z57 (x0 : List Int) (Φ : Int → Prop) : Prop :=
 ((x0.length : Int) < 1 →
 False) ∧
 (¬ ((x0.length : Int) < 1) →
 inX 0 x0.length ∧
 LoopW (Z56 x0 Φ) ((ix x0 0), 1))
def Z58 (x0 : q13) (Φ : Int → Prop) : Prop :=
 (0 < (x0.Kept.length : Int) →
 inI ((x0.Kept.length : Int) - 1) ∧
 inX ((x0.Kept.length : Int) - 1) x0.Kept.length ∧
 Φ ((ix x0.Kept ((x0.Kept.length : Int) - 1)).Number)) ∧
 (¬ (0 < (x0.Kept.length : Int)) →
 Z57 x0.Applied fun v1 =>
 Φ v1)
def Z59 (x0 : q13) (x1 : Int) (Φ : Bool → Prop) : (Int) → ((Int) → Prop) → Prop
 | v1, rec1 =>
 (v1 < (x0.Kept.length : Int) →
 inX v1 x0.Kept.length ∧
 (((ix x0.Kept v1).Number) = x1 →
 Φ (decide (0 ≤ v1))) ∧
 (¬ (((ix x0.Kept v1).Number) = x1) →
 inI (v1 + 1) ∧
 rec1 (v1 + 1))) ∧
 (¬ (v1 < (x0.Kept.length : Int)) →
 Φ (decide (0 ≤ ((-1) : Int))))
def Z60 (x0 : q13) (x1 : Int) (Φ : Bool → Prop) : Prop :=
 LoopW (Z59 x0 x1 Φ) 0
def Z61 (x0 : q13) (x1 : Int) (Φ : Bool → Prop) : Prop :=
 Z58 x0 fun v1 =>
 (x1 = v1 →
 Φ true) ∧
 (¬ (x1 = v1) →
 Z60 x0 x1 fun v2 =>
 (v2 = true →
 Φ true) ∧
 (¬ (v2 = true) →
 (0 < (x0.Kept.length : Int) →
 inX 0 x0.Kept.length ∧
 Φ (decide (((ix x0.Kept 0).Base) = x1))) ∧
 (¬ (0 < (x0.Kept.length : Int)) →
 Φ false)))
def Z62 (x0 : Int) (x1 : Int) (Φ : Int → Prop) : Prop :=
 (x0 < 0 →
 Φ x1) ∧
 (¬ (x0 < 0) →
 Φ (if x1 < x0 then x1 else x0))
def Z63 (x0 : q13) (Φ : Int → Prop) : (Int × Int) → ((Int × Int) → Prop) → Prop
 | (v1, v2), rec1 =>
 (v2 < (x0.Applied.length : Int) →
 inX v2 x0.Applied.length ∧
 inX v2 x0.Lost.length ∧
 (¬ ((ix x0.Lost v2) = true) →
 Z62 v1 (ix x0.Applied v2) fun v3 =>
 inI (v2 + 1) ∧
 rec1 (v3, (v2 + 1))) ∧
 (¬ (¬ ((ix x0.Lost v2) = true)) →
 inI (v2 + 1) ∧
 rec1 (v1, (v2 + 1)))) ∧
 (¬ (v2 < (x0.Applied.length : Int)) →
 Φ v1)
def Z64 (x0 : q13) (Φ : Int → Prop) : Prop :=
 LoopW (Z63 x0 Φ) ((-1), 0)
def Z65 (x0 : q13) (Φ : Int → Prop) : (Int) → ((Int) → Prop) → Prop
 | v6, rec4 =>
 (v6 < (x0.Applied.length : Int) →
 inX v6 x0.Applied.length ∧
 Z58 x0 fun v7 =>
 (v7 < (ix x0.Applied v6) →
 Φ 12) ∧
 (¬ (v7 < (ix x0.Applied v6)) →
 inX v6 x0.Lost.length ∧
 (¬ ((ix x0.Lost v6) = true) →
 Z61 x0 (ix x0.Applied v6) fun v8 =>
 (¬ (v8 = true) →
 Φ 12) ∧
 (¬ (¬ (v8 = true)) →
 inI (v6 + 1) ∧
 rec4 (v6 + 1))) ∧
 (¬ (¬ ((ix x0.Lost v6) = true)) →
 inI (v6 + 1) ∧
 rec4 (v6 + 1)))) ∧
 (¬ (v6 < (x0.Applied.length : Int)) →
 (0 < (x0.Kept.length : Int) →
 ∃ v9 : Int × Unit, Z64 x0 (fun z => (z, ()) = v9) ∧
 inX 0 x0.Kept.length ∧
 (v9.1 ≠ ((ix x0.Kept 0).Base) →
 Φ 12) ∧
 (¬ (v9.1 ≠ ((ix x0.Kept 0).Base)) →
 Φ 0)) ∧
 (¬ (0 < (x0.Kept.length : Int)) →
 Φ 0))
def Z66 (x0 : q13) (v3 : List Int) (Φ : Int → Prop) : (Int) → ((Int) → Prop) → Prop
 | v4, rec3 =>
 (v4 < (x0.Kept.length : Int) →
 inX v4 x0.Kept.length ∧
 q46 (ix x0.Kept v4) v3 fun v5 =>
 (v5 ≠ 0 →
 Φ v5) ∧
 (¬ (v5 ≠ 0) →
 (0 < v4 →
 inI (v4 - 1) ∧
 inX (v4 - 1) x0.Kept.length ∧
 (((ix x0.Kept v4).Base) ≠ ((ix x0.Kept (v4 - 1)).Number) →
 Φ 15) ∧
 (¬ (((ix x0.Kept v4).Base) ≠ ((ix x0.Kept (v4 - 1)).Number)) →
 inI (v4 + 1) ∧
 rec3 (v4 + 1))) ∧
 (¬ (0 < v4) →
 inI (v4 + 1) ∧
 rec3 (v4 + 1)))) ∧
 (¬ (v4 < (x0.Kept.length : Int)) →
 LoopW (Z65 x0 Φ) 0)
def Z67 (x0 : q13) (Φ : Int → Prop) : Bool → Prop
 | v2 =>
 (v2 = true →
 Φ 2) ∧
 (¬ (v2 = true) →
 (x0.Limit < (x0.Kept.length : Int) →
 Φ 6) ∧
 (¬ (x0.Limit < (x0.Kept.length : Int)) →
 q57 fun v3 =>
 LoopW (Z66 x0 v3 Φ) 0))
def Z68 (x0 : q13) (Φ : Int → Prop) : (Int) → ((Int) → Prop) → Prop
 | v10, rec5 =>
 (v10 < (x0.Applied.length : Int) →
 inX v10 x0.Applied.length ∧
 Z52 (ix x0.Applied v10) fun v11 =>
 (¬ (v11 = true) →
 Z67 x0 Φ (decide (0 ≤ v10))) ∧
 (¬ (¬ (v11 = true)) →
 inI (v10 + 1) ∧
 rec5 (v10 + 1))) ∧
 (¬ (v10 < (x0.Applied.length : Int)) →
 Z67 x0 Φ (decide (0 ≤ ((-1) : Int))))
def Z69 (x0 : q13) (Φ : Int → Prop) : Bool → Prop
 | v1 =>
 (v1 = true →
 Φ 6) ∧
 (¬ (v1 = true) →
 (x0.Limit < 1 →
 Z67 x0 Φ true) ∧
 (¬ (x0.Limit < 1) →
 (1024 < x0.Limit →
 Z67 x0 Φ true) ∧
 (¬ (1024 < x0.Limit) →
 LoopW (Z68 x0 Φ) 0)))
def Z70 (x0 : q13) (Φ : Int → Prop) : Prop :=
 Join (Z69 x0 Φ) fun J1 =>
 ((x0.Applied.length : Int) < 1 →
 J1 true) ∧
 (¬ ((x0.Applied.length : Int) < 1) →
 (4 < (x0.Applied.length : Int) →
 J1 true) ∧
 (¬ (4 < (x0.Applied.length : Int)) →
 J1 (decide ((x0.Lost.length : Int) ≠ (x0.Applied.length : Int)))))
def Z71 (x0 : List Bool) (Φ : List Bool → Prop) : Prop :=
 (x0 = [] →
 Φ ([] : List Bool)) ∧
 (
 lenOk (([] : List Bool) ++ x0).length 1 ∧
 Φ (([] : List Bool) ++ x0))
def Z72 (x0 : q10) (v1 : List Int) (Φ : q10 → Prop) : (Int × List q8) → ((Int × List q8) → Prop) → Prop
 | (v2, v3), rec1 =>
 (v2 < (x0.Writes.length : Int) →
 inX v2 x0.Writes.length ∧
 Z17 ((ix x0.Writes v2).Data) fun v4 =>
 lenOk (v3 ++ ([(q8.mk ((ix x0.Writes v2).Volume) ((ix x0.Writes v2).Start) v4)] : List q8)).length 40 ∧
 inI (v2 + 1) ∧
 rec1 ((v2 + 1), (v3 ++ ([(q8.mk ((ix x0.Writes v2).Volume) ((ix x0.Writes v2).Start) v4)] : List q8)))) ∧
 (¬ (v2 < (x0.Writes.length : Int)) →
 Φ (q10.mk x0.Base x0.Number x0.Time v1 v3))
def Z73 (x0 : q10) (Φ : q10 → Prop) : Prop :=
 Z4 x0.Positions fun v1 =>
 0 ≤ (x0.Writes.length : Int) ∧
 lenOk (x0.Writes.length : Int).toNat 40 ∧
 LoopW (Z72 x0 v1 Φ) (0, ([] : List q8))
def Z74 (x0 : q13) (v1 : List Int × Unit) (v2 : List Bool × Unit) (Φ : q13 → Prop) : (Int × List q10) → ((Int × List q10) → Prop) → Prop
 | (v3, v4), rec1 =>
 (v3 < (x0.Kept.length : Int) →
 inX v3 x0.Kept.length ∧
 ∃ v5 : q10 × Unit, Z73 (ix x0.Kept v3) (fun z => (z, ()) = v5) ∧
 lenOk (v4 ++ ([v5.1] : List q10)).length 72 ∧
 inI (v3 + 1) ∧
 rec1 ((v3 + 1), (v4 ++ ([v5.1] : List q10)))) ∧
 (¬ (v3 < (x0.Kept.length : Int)) →
 Φ (q13.mk x0.Limit v4 v1.1 v2.1))
def Z75 (x0 : q13) (Φ : q13 → Prop) : Prop :=
 ∃ v1 : List Int × Unit, Z4 x0.Applied (fun z => (z, ()) = v1) ∧
 ∃ v2 : List Bool × Unit, Z71 x0.Lost (fun z => (z, ()) = v2) ∧
 LoopW (Z74 x0 v1 v2 Φ) (0, ([] : List q10))
def Z76 (xs : List (Int)) (Φ : List (Int) → Prop) : Prop := xs.length ≤ 1099511627776 ∧ Φ (sortI xs)
def Z77 (v14 : Int) (v15 : List Int) (v16 : List Bool) (rec2 : (Int × List Int × List Bool) → Prop) (_ : q13 × List Int × Int → Prop) : Bool → Prop
 | v17 =>
 (v17 = true →
 inX v14 v16.length ∧
 lenOk (v15 ++ ([v14] : List Int)).length 8 ∧
 inI (v14 + 1) ∧
 rec2 ((v14 + 1), (v15 ++ ([v14] : List Int)), (put v16 v14 true))) ∧
 (¬ (v17 = true) →
 inI (v14 + 1) ∧
 rec2 ((v14 + 1), v15, v16))
def Z78 (v8 : Int) (v9 : List q10) (v10 : List Int) (rec1 : (Int × List q10 × List Int × List Int × List Bool) → Prop) (v15 : List Int) (v16 : List Bool) (_ : q13 × List Int × Int → Prop) : Int → Prop
 | v20 =>
 inS v20 (v9.length : Int) v9.length ∧
 rec1 (v8, (sub v9 v20 (v9.length : Int)), v10, v15, v16)
def Z79 (v8 : Int) (v9 : List q10) (v10 : List Int) (rec1 : (Int × List q10 × List Int × List Int × List Bool) → Prop) (v15 : List Int) (v16 : List Bool) (Φ : q13 × List Int × Int → Prop) : Int → Prop
 | v19 =>
 Join (Z78 v8 v9 v10 rec1 v15 v16 Φ) fun J5 =>
 (v19 < 0 →
 J5 (v9.length : Int)) ∧
 (¬ (v19 < 0) →
 J5 v19)
def Z80 (v8 : Int) (v9 : List q10) (v10 : List Int) (rec1 : (Int × List q10 × List Int × List Int × List Bool) → Prop) (v15 : List Int) (v16 : List Bool) (v21 : Int) (rec6 : (Int) → Prop) (Φ : q13 × List Int × Int → Prop) : Bool → Prop
 | v22 =>
 (v22 = true →
 Z79 v8 v9 v10 rec1 v15 v16 Φ v21) ∧
 (¬ (v22 = true) →
 inI (v21 + 1) ∧
 rec6 (v21 + 1))
def Z81 (v8 : Int) (v9 : List q10) (v10 : List Int) (rec1 : (Int × List q10 × List Int × List Int × List Bool) → Prop) (v15 : List Int) (v16 : List Bool) (v18 : Int) (Φ : q13 × List Int × Int → Prop) : (Int) → ((Int) → Prop) → Prop
 | v21, rec6 =>
 (v21 < (v9.length : Int) →
 Join (Z80 v8 v9 v10 rec1 v15 v16 v21 rec6 Φ) fun J7 =>
 inX v21 v9.length ∧
 (0 ≤ v18 →
 J7 (decide (v18 < ((ix v9 v21).Number)))) ∧
 (¬ (0 ≤ v18) →
 J7 false)) ∧
 (¬ (v21 < (v9.length : Int)) →
 Z79 v8 v9 v10 rec1 v15 v16 Φ (-1))
def Z82 (v8 : Int) (v9 : List q10) (v10 : List Int) (rec1 : (Int × List q10 × List Int × List Int × List Bool) → Prop) (v13 : Int) (Φ : q13 × List Int × Int → Prop) : (Int × List Int × List Bool) → ((Int × List Int × List Bool) → Prop) → Prop
 | (v14, v15, v16), rec2 =>
 (v14 < (v10.length : Int) →
 inX v14 v10.length ∧
 Join (Z77 v14 v15 v16 rec2 Φ) fun J3 =>
 ((ix v10 v14) = v13 →
 inX v14 v16.length ∧
 J3 (decide (¬ ((ix v16 v14) = true)))) ∧
 (¬ ((ix v10 v14) = v13) →
 J3 false)) ∧
 (¬ (v14 < (v10.length : Int)) →
 Z64 (q13.mk v8 v9 v10 v16) fun v18 =>
 LoopW (Z81 v8 v9 v10 rec1 v15 v16 v18 Φ) 0)
def Z83 (Φ : q13 × List Int × Int → Prop) : (Int × List q10 × List Int × List Int × List Bool) → ((Int × List q10 × List Int × List Int × List Bool) → Prop) → Prop
 | (v8, v9, v10, v11, v12), rec1 =>
 (v8 < (v9.length : Int) →
 Z64 (q13.mk v8 v9 v10 v12) fun v13 =>
 LoopW (Z82 v8 v9 v10 rec1 v13 Φ) (0, v11, v12)) ∧
 (¬ (v8 < (v9.length : Int)) →
 Z76 v11 fun v23 =>
 Φ ((q13.mk v8 v9 v10 v12), v23, 0))
def q74 (x0 : q13) (x1 : q10) (Φ : q13 × List Int × Int → Prop) : Prop :=
 Z70 x0 fun v1 =>
 (v1 ≠ 0 →
 Φ ((q13.mk 0 ([] : List q10) ([] : List Int) ([] : List Bool)), ([] : List Int), v1)) ∧
 (¬ (v1 ≠ 0) →
 Z64 x0 fun v2 =>
 (v2 < 0 →
 Φ ((q13.mk 0 ([] : List q10) ([] : List Int) ([] : List Bool)), ([] : List Int), 17)) ∧
 (¬ (v2 < 0) →
 ∃ v3 : List Int × Unit, q57 (fun z => (z, ()) = v3) ∧
 ∃ v4 : Int × Unit, q46 x1 v3.1 (fun z => (z, ()) = v4) ∧
 (v4.1 ≠ 0 →
 Φ ((q13.mk 0 ([] : List q10) ([] : List Int) ([] : List Bool)), ([] : List Int), v4.1)) ∧
 (¬ (v4.1 ≠ 0) →
 ∃ v5 : Int × Unit, Z58 x0 (fun z => (z, ()) = v5) ∧
 (x1.Base ≠ v5.1 →
 Φ ((q13.mk 0 ([] : List q10) ([] : List Int) ([] : List Bool)), ([] : List Int), 15)) ∧
 (¬ (x1.Base ≠ v5.1) →
 Z75 x0 fun v6 =>
 ∃ v7 : q10 × Unit, Z73 x1 (fun z => (z, ()) = v7) ∧
 lenOk (v6.Kept ++ ([v7.1] : List q10)).length 72 ∧
 LoopW (Z83 Φ) (v6.Limit, (v6.Kept ++ ([v7.1] : List q10)), v6.Applied, ([] : List Int), v6.Lost)))))
def Z84 (x0 : q13) (x1 : Int) (Φ : Int → Prop) : Prop :=
 Z70 x0 fun v1 =>
 (v1 ≠ 0 →
 Φ v1) ∧
 (¬ (v1 ≠ 0) →
 (x1 < 0 →
 Φ 7) ∧
 (¬ (x1 < 0) →
 ((x0.Applied.length : Int) ≤ x1 →
 Φ 7) ∧
 (¬ ((x0.Applied.length : Int) ≤ x1) →
 Φ 0)))
def Z85 (x0 : q13) (x1 : Int) (Φ : q10 × Bool → Prop) : (Int) → ((Int) → Prop) → Prop
 | v2, rec2 =>
 (v2 < (x0.Kept.length : Int) →
 inX v2 x0.Kept.length ∧
 inX x1 x0.Applied.length ∧
 ((ix x0.Applied x1) < ((ix x0.Kept v2).Number) →
 Z73 (ix x0.Kept v2) fun v3 =>
 Φ (v3, true)) ∧
 (¬ ((ix x0.Applied x1) < ((ix x0.Kept v2).Number)) →
 inI (v2 + 1) ∧
 rec2 (v2 + 1))) ∧
 (¬ (v2 < (x0.Kept.length : Int)) →
 Φ ((q10.mk 0 0 0 ([] : List Int) ([] : List q8)), false))
def Z86 (x0 : q13) (x1 : Int) (Φ : q10 × Bool → Prop) : Bool → Prop
 | v1 =>
 (v1 = true →
 Φ ((q10.mk 0 0 0 ([] : List Int) ([] : List q8)), false)) ∧
 (¬ (v1 = true) →
 LoopW (Z85 x0 x1 Φ) 0)
def q75 (x0 : q13) (x1 : Int) (Φ : q10 × Bool → Prop) : Prop :=
 Join (Z86 x0 x1 Φ) fun J1 =>
 Z84 x0 x1 fun v4 =>
 (v4 ≠ 0 →
 J1 true) ∧
 (¬ (v4 ≠ 0) →
 inX x1 x0.Lost.length ∧
 J1 (ix x0.Lost x1))
def Z87 (x0 : List (List Sec)) (x1 : q10) (Φ : List (List Sec) × Int → Prop) : (Int × List Int) → ((Int × List Int) → Prop) → Prop
 | (v2, v3), rec1 =>
 (v2 < (x0.length : Int) →
 inX v2 x0.length ∧
 lenOk (v3 ++ ([((ix x0 v2).length : Int)] : List Int)).length 8 ∧
 inI (v2 + 1) ∧
 rec1 ((v2 + 1), (v3 ++ ([((ix x0 v2).length : Int)] : List Int)))) ∧
 (¬ (v2 < (x0.length : Int)) →
 q46 x1 v3 fun v4 =>
 (v4 ≠ 0 →
 Φ (([] : List (List Sec)), v4)) ∧
 (¬ (v4 ≠ 0) →
 q38 x0 x1.Writes fun v5 =>
 Φ (v5.1, v5.2.2)))
def q58 (x0 : List (List Sec)) (x1 : q10) (Φ : List (List Sec) × Int → Prop) : Prop :=
 q45 x0 fun v1 =>
 (v1 ≠ 0 →
 Φ (([] : List (List Sec)), v1)) ∧
 (¬ (v1 ≠ 0) →
 LoopW (Z87 x0 x1 Φ) (0, ([] : List Int)))
def Z88 (x0 : q13) (Φ : q13 → Prop) : Int → Prop
 | v3 =>
 inS v3 (x0.Kept.length : Int) x0.Kept.length ∧
 Φ (q13.mk x0.Limit (sub x0.Kept v3 (x0.Kept.length : Int)) x0.Applied x0.Lost)
def Z89 (x0 : q13) (Φ : q13 → Prop) : Int → Prop
 | v2 =>
 Join (Z88 x0 Φ) fun J2 =>
 (v2 < 0 →
 J2 (x0.Kept.length : Int)) ∧
 (¬ (v2 < 0) →
 J2 v2)
def Z90 (x0 : q13) (v4 : Int) (rec3 : (Int) → Prop) (Φ : q13 → Prop) : Bool → Prop
 | v5 =>
 (v5 = true →
 Z89 x0 Φ v4) ∧
 (¬ (v5 = true) →
 inI (v4 + 1) ∧
 rec3 (v4 + 1))
def Z91 (x0 : q13) (v1 : Int) (Φ : q13 → Prop) : (Int) → ((Int) → Prop) → Prop
 | v4, rec3 =>
 (v4 < (x0.Kept.length : Int) →
 Join (Z90 x0 v4 rec3 Φ) fun J4 =>
 inX v4 x0.Kept.length ∧
 (0 ≤ v1 →
 J4 (decide (v1 < ((ix x0.Kept v4).Number)))) ∧
 (¬ (0 ≤ v1) →
 J4 false)) ∧
 (¬ (v4 < (x0.Kept.length : Int)) →
 Z89 x0 Φ (-1))
def q39 (x0 : q13) (Φ : q13 → Prop) : Prop :=
 Z64 x0 fun v1 =>
 LoopW (Z91 x0 v1 Φ) 0
def Z92 (x0 : q13) (x1 : Int) (x2 : Int) (Φ : q13 × Int → Prop) : Bool → Prop
 | v2 =>
 (v2 = true →
 Φ ((q13.mk 0 ([] : List q10) ([] : List Int) ([] : List Bool)), 15)) ∧
 (¬ (v2 = true) →
 Z75 x0 fun v3 =>
 inX x1 v3.Applied.length ∧
 q39 (q13.mk v3.Limit v3.Kept (put v3.Applied x1 x2) v3.Lost) fun v4 =>
 Φ (v4, 0))
def Z93 (x0 : q13) (x1 : Int) (x2 : Int) (Φ : q13 × Int → Prop) : Prop :=
 Z84 x0 x1 fun v1 =>
 (v1 ≠ 0 →
 Φ ((q13.mk 0 ([] : List q10) ([] : List Int) ([] : List Bool)), v1)) ∧
 (¬ (v1 ≠ 0) →
 inX x1 x0.Lost.length ∧
 ((ix x0.Lost x1) = true →
 Φ ((q13.mk 0 ([] : List q10) ([] : List Int) ([] : List Bool)), 17)) ∧
 (¬ ((ix x0.Lost x1) = true) →
 inX x1 x0.Applied.length ∧
 (x2 < (ix x0.Applied x1) →
 Φ ((q13.mk 0 ([] : List q10) ([] : List Int) ([] : List Bool)), 2)) ∧
 (¬ (x2 < (ix x0.Applied x1)) →
 Join (Z92 x0 x1 x2 Φ) fun J1 =>
 inX x1 x0.Applied.length ∧
 (x2 ≠ (ix x0.Applied x1) →
 Z60 x0 x2 fun v5 =>
 J1 (decide (¬ (v5 = true)))) ∧
 (¬ (x2 ≠ (ix x0.Applied x1)) →
 J1 false))))
def q225 (x0 : q13) (x1 : Int) (Φ : q13 × Int → Prop) : Prop :=
 Z84 x0 x1 fun v1 =>
 (v1 ≠ 0 →
 Φ ((q13.mk 0 ([] : List q10) ([] : List Int) ([] : List Bool)), v1)) ∧
 (¬ (v1 ≠ 0) →
 inX x1 x0.Lost.length ∧
 ((ix x0.Lost x1) = true →
 Φ ((q13.mk 0 ([] : List q10) ([] : List Int) ([] : List Bool)), 8)) ∧
 (¬ ((ix x0.Lost x1) = true) →
 Z75 x0 fun v2 =>
 inX x1 v2.Lost.length ∧
 q39 (q13.mk v2.Limit v2.Kept v2.Applied (put v2.Lost x1 true)) fun v3 =>
 Φ (v3, 0)))
def Z94 (x0 : List Int) (x1 : List Int) (Φ : Bool → Prop) : (Int) → ((Int) → Prop) → Prop
 | v1, rec1 =>
 (v1 < (x0.length : Int) →
 inX v1 x0.length ∧
 inX v1 x1.length ∧
 ((ix x0 v1) ≠ (ix x1 v1) →
 Φ false) ∧
 (¬ ((ix x0 v1) ≠ (ix x1 v1)) →
 inI (v1 + 1) ∧
 rec1 (v1 + 1))) ∧
 (¬ (v1 < (x0.length : Int)) →
 Φ true)
def Z95 (x0 : List Int) (x1 : List Int) (Φ : Bool → Prop) : Prop :=
 ((x0.length : Int) ≠ (x1.length : Int) →
 Φ false) ∧
 (¬ ((x0.length : Int) ≠ (x1.length : Int)) →
 LoopW (Z94 x0 x1 Φ) 0)
def q378 (x0 : List (List Sec)) (x1 : List (List Sec)) (Φ : Int → Prop) : (Int) → ((Int) → Prop) → Prop
 | v1, rec1 =>
 (v1 < (([x0, x1] : List (List (List Sec))).length : Int) →
 inX v1 ([x0, x1] : List (List (List Sec))).length ∧
 q45 (ix ([x0, x1] : List (List (List Sec))) v1) fun v2 =>
 (v2 ≠ 0 →
 Φ v2) ∧
 (¬ (v2 ≠ 0) →
 inI (v1 + 1) ∧
 rec1 (v1 + 1))) ∧
 (¬ (v1 < (([x0, x1] : List (List (List Sec))).length : Int)) →
 q73 x0 fun v3 =>
 q73 x1 fun v4 =>
 Z95 v3 v4 fun v5 =>
 (¬ (v5 = true) →
 Φ 22) ∧
 (¬ (¬ (v5 = true)) →
 Φ 0))
def q259 (x0 : List (List Sec)) (x1 : List (List Sec)) (Φ : Int → Prop) : Prop :=
 LoopW (q378 x0 x1 Φ) 0
def Z96 (x0 : List Sec) (x1 : List Sec) (Φ : List q18 → Prop) : (Int × Int × List q18) → ((Int × Int × List q18) → Prop) → Prop
 | (v1, v2, v3), rec1 =>
 (v1 < (x0.length : Int) →
 inX v1 x0.length ∧
 inX v1 x1.length ∧
 ((ix x0 v1) ≠ (ix x1 v1) →
 (v1 = v2 →
 inI ((v3.length : Int) - 1) ∧
 inX ((v3.length : Int) - 1) v3.length ∧
 inI (((ix v3 ((v3.length : Int) - 1)).Count) + 1) ∧
 inX ((v3.length : Int) - 1) v3.length ∧
 inI (v1 + 1) ∧
 inI (v1 + 1) ∧
 rec1 ((v1 + 1), (v1 + 1), (put v3 ((v3.length : Int) - 1) (q18.mk ((ix v3 ((v3.length : Int) - 1)).Start) (((ix v3 ((v3.length : Int) - 1)).Count) + 1))))) ∧
 (¬ (v1 = v2) →
 lenOk (v3 ++ ([(q18.mk v1 1)] : List q18)).length 16 ∧
 inI (v1 + 1) ∧
 inI (v1 + 1) ∧
 rec1 ((v1 + 1), (v1 + 1), (v3 ++ ([(q18.mk v1 1)] : List q18))))) ∧
 (¬ ((ix x0 v1) ≠ (ix x1 v1)) →
 inI (v1 + 1) ∧
 rec1 ((v1 + 1), v2, v3))) ∧
 (¬ (v1 < (x0.length : Int)) →
 Φ v3)
def Z97 (x0 : List Sec) (x1 : List Sec) (Φ : List q18 → Prop) : Prop :=
 LoopW (Z96 x0 x1 Φ) (0, (-1), ([] : List q18))
def Z98 (x0 : List (List Sec)) (x1 : List (List Sec)) (Φ : List (List q18) × Int → Prop) : (Int × List (List q18)) → ((Int × List (List q18)) → Prop) → Prop
 | (v2, v3), rec1 =>
 (v2 < (x0.length : Int) →
 inX v2 x0.length ∧
 inX v2 x1.length ∧
 ∃ v4 : List q18 × Unit, Z97 (ix x0 v2) (ix x1 v2) (fun z => (z, ()) = v4) ∧
 lenOk (v3 ++ ([v4.1] : List (List q18))).length 24 ∧
 inI (v2 + 1) ∧
 rec1 ((v2 + 1), (v3 ++ ([v4.1] : List (List q18))))) ∧
 (¬ (v2 < (x0.length : Int)) →
 Φ (v3, 0))
def Z99 (x0 : List (List Sec)) (x1 : List (List Sec)) (Φ : List (List q18) × Int → Prop) : Prop :=
 q259 x0 x1 fun v1 =>
 (v1 ≠ 0 →
 Φ (([] : List (List q18)), v1)) ∧
 (¬ (v1 ≠ 0) →
 LoopW (Z98 x0 x1 Φ) (0, ([] : List (List q18))))
def Z100 (x1 : List (List Sec)) (v1 : List (List q18) × Int) (v2 : Int) (v3 : List q8) (rec1 : (Int × List q8) → Prop) (_ : List q8 × Int → Prop) : (Int × List q8) → ((Int × List q8) → Prop) → Prop
 | (v4, v5), rec2 =>
 (v4 < ((ix v1.1 v2).length : Int) →
 inX v4 (ix v1.1 v2).length ∧
 inX v2 x1.length ∧
 inI (((ix (ix v1.1 v2) v4).Start) + ((ix (ix v1.1 v2) v4).Count)) ∧
 inS ((ix (ix v1.1 v2) v4).Start) (((ix (ix v1.1 v2) v4).Start) + ((ix (ix v1.1 v2) v4).Count)) (ix x1 v2).length ∧
 ∃ v6 : List Sec × Unit, Z17 (sub (ix x1 v2) ((ix (ix v1.1 v2) v4).Start) (((ix (ix v1.1 v2) v4).Start) + ((ix (ix v1.1 v2) v4).Count))) (fun z => (z, ()) = v6) ∧
 lenOk (v5 ++ ([(q8.mk v2 ((ix (ix v1.1 v2) v4).Start) v6.1)] : List q8)).length 40 ∧
 inI (v4 + 1) ∧
 rec2 ((v4 + 1), (v5 ++ ([(q8.mk v2 ((ix (ix v1.1 v2) v4).Start) v6.1)] : List q8)))) ∧
 (¬ (v4 < ((ix v1.1 v2).length : Int)) →
 lenOk (v3 ++ v5).length 40 ∧
 inI (v2 + 1) ∧
 rec1 ((v2 + 1), (v3 ++ v5)))
def Z101 (x1 : List (List Sec)) (v1 : List (List q18) × Int) (Φ : List q8 × Int → Prop) : (Int × List q8) → ((Int × List q8) → Prop) → Prop
 | (v2, v3), rec1 =>
 (v2 < (v1.1.length : Int) →
 inX v2 v1.1.length ∧
 0 ≤ ((ix v1.1 v2).length : Int) ∧
 lenOk ((ix v1.1 v2).length : Int).toNat 40 ∧
 LoopW (Z100 x1 v1 v2 v3 rec1 Φ) (0, ([] : List q8))) ∧
 (¬ (v2 < (v1.1.length : Int)) →
 Φ (v3, 0))
def q103 (x0 : List (List Sec)) (x1 : List (List Sec)) (Φ : List q8 × Int → Prop) : Prop :=
 Z99 x0 x1 fun v1 =>
 (v1.2 ≠ 0 →
 Φ (([] : List q8), v1.2)) ∧
 (¬ (v1.2 ≠ 0) →
 LoopW (Z101 x1 v1 Φ) (0, ([] : List q8)))
def Z102 (x0 : q13) (x1 : Int) (x2 : Int) (Φ : q13 × Int → Prop) : Bool → Prop
 | v4 =>
 (v4 = true →
 Φ ((q13.mk 0 ([] : List q10) ([] : List Int) ([] : List Bool)), 2)) ∧
 (¬ (v4 = true) →
 Z75 x0 fun v5 =>
 inX x1 v5.Applied.length ∧
 inX x1 v5.Lost.length ∧
 Φ ((q13.mk v5.Limit v5.Kept (put v5.Applied x1 x2) (put v5.Lost x1 false)), 0))
def Z103 (x0 : q13) (x1 : Int) (x2 : Int) (v2 : Int) (Φ : q13 × Int → Prop) : Bool → Prop
 | v3 =>
 (v3 = true →
 Φ ((q13.mk 0 ([] : List q10) ([] : List Int) ([] : List Bool)), 15)) ∧
 (¬ (v3 = true) →
 Join (Z102 x0 x1 x2 Φ) fun J2 =>
 (v2 < 0 →
 Z58 x0 fun v6 =>
 (x2 < v6 →
 J2 true) ∧
 (¬ (x2 < v6) →
 J2 (decide (1073741824 < x2)))) ∧
 (¬ (v2 < 0) →
 J2 false))
def q226 (x0 : q13) (x1 : Int) (x2 : Int) (Φ : q13 × Int → Prop) : Prop :=
 Z84 x0 x1 fun v1 =>
 (v1 ≠ 0 →
 Φ ((q13.mk 0 ([] : List q10) ([] : List Int) ([] : List Bool)), v1)) ∧
 (¬ (v1 ≠ 0) →
 Z64 x0 fun v2 =>
 inX x1 x0.Lost.length ∧
 (¬ ((ix x0.Lost x1) = true) →
 Φ ((q13.mk 0 ([] : List q10) ([] : List Int) ([] : List Bool)), 12)) ∧
 (¬ (¬ ((ix x0.Lost x1) = true)) →
 Join (Z103 x0 x1 x2 v2 Φ) fun J1 =>
 (¬ (v2 < 0) →
 Z61 x0 x2 fun v7 =>
 J1 (decide (¬ (v7 = true)))) ∧
 (¬ (¬ (v2 < 0)) →
 J1 false)))
def Z104 (x0 : q13) (Φ : Int → Prop) : Prop :=
 Z70 x0 fun v1 =>
 (v1 ≠ 0 →
 Φ (-1)) ∧
 (¬ (v1 ≠ 0) →
 Z64 x0 fun v2 =>
 Φ v2)
def Z105 (v20 : Int) (v21 : Int) (v22 : List Int) (v23 : List Int) (v24 : List Int) (v25 : List q8) (v26 : Int) (v27 : List (List Sec)) (v28 : Int) (v29 : List q10) (v30 : List Int) (v31 : List Bool) (v32 : List (List Sec)) (v33 : List (List Sec)) (v34 : List (List Sec)) (v35 : Int) (v36 : Int) (v37 : Int) (v38 : Bool) (v39 : List (Int × List (List Sec))) (rec2 : (Int × Int × List Int × List Int × List Int × List q8 × Int × List (List Sec) × Int × List q10 × List Int × List Bool × List (List Sec) × List (List Sec) × List (List Sec) × Int × Int × Int × Bool × (List (Int × List (List Sec)))) → Prop) (v42 : q12 × Int) (v43 : List (List Sec) × Int × Int) (_ : Bool → Prop) : Bool → Prop
 | v44 =>
 (v44 = true →
 inI (v20 + 1) ∧
 rec2 ((v20 + 1), v21, v22, v23, v24, v25, v26, v27, v28, v29, v30, v31, v32, v33, v34, v35, v36, v37, false, v39)) ∧
 (¬ (v44 = true) →
 inI (v26 + 1) ∧
 inI (v20 + 1) ∧
 rec2 ((v20 + 1), v42.1.Number, v42.1.Sizes, v42.1.Positions, v42.1.Nodes, v42.1.Writes, (v26 + 1), v43.1, v28, v29, v30, v31, v32, v33, v34, v35, v36, v37, v38, v39))
def Z106 (v20 : Int) (v21 : Int) (v22 : List Int) (v23 : List Int) (v24 : List Int) (v25 : List q8) (v26 : Int) (v27 : List (List Sec)) (v28 : Int) (v29 : List q10) (v30 : List Int) (v31 : List Bool) (v32 : List (List Sec)) (v33 : List (List Sec)) (v34 : List (List Sec)) (v35 : Int) (v36 : Int) (v37 : Int) (v38 : Bool) (v39 : List (Int × List (List Sec))) (rec2 : (Int × Int × List Int × List Int × List Int × List q8 × Int × List (List Sec) × Int × List q10 × List Int × List Bool × List (List Sec) × List (List Sec) × List (List Sec) × Int × Int × Int × Bool × (List (Int × List (List Sec)))) → Prop) (v49 : q10 × Bool) (v52 : List (List Sec)) (v53 : q13 × Int) (_ : Bool → Prop) : Int × Bool → Prop
 | (v54, v55) =>
 (v55 = true →
 inI (v20 + 1) ∧
 rec2 ((v20 + 1), v21, v22, v23, v24, v25, v26, v27, v28, v29, v30, v31, v32, v33, v34, v35, v36, v37, false, v39)) ∧
 (¬ (v55 = true) →
 (0 ≤ v54 ∧ v54 < (3 : Int)) ∧
 (v54 = (0 : Int) →
 ((0 : Int) ≤ 0 ∧ 0 < (3 : Int)) ∧
 ((0 : Int) ≤ 0 ∧ 0 < (3 : Int)) ∧
 inI (v20 + 1) ∧
 rec2 ((v20 + 1), v21, v22, v23, v24, v25, v26, v27, v53.1.Limit, v53.1.Kept, v53.1.Applied, v53.1.Lost, v52, v33, v34, v49.1.Number, v36, v37, v38, v39)) ∧
 (v54 = (1 : Int) →
 ((0 : Int) ≤ 1 ∧ 1 < (3 : Int)) ∧
 ((0 : Int) ≤ 1 ∧ 1 < (3 : Int)) ∧
 inI (v20 + 1) ∧
 rec2 ((v20 + 1), v21, v22, v23, v24, v25, v26, v27, v53.1.Limit, v53.1.Kept, v53.1.Applied, v53.1.Lost, v32, v52, v34, v35, v49.1.Number, v37, v38, v39)) ∧
 (v54 = (2 : Int) →
 ((0 : Int) ≤ 2 ∧ 2 < (3 : Int)) ∧
 ((0 : Int) ≤ 2 ∧ 2 < (3 : Int)) ∧
 inI (v20 + 1) ∧
 rec2 ((v20 + 1), v21, v22, v23, v24, v25, v26, v27, v53.1.Limit, v53.1.Kept, v53.1.Applied, v53.1.Lost, v32, v33, v52, v35, v36, v49.1.Number, v38, v39)) ∧
 True)
def Z107 (v20 : Int) (v21 : Int) (v22 : List Int) (v23 : List Int) (v24 : List Int) (v25 : List q8) (v26 : Int) (v27 : List (List Sec)) (v28 : Int) (v29 : List q10) (v30 : List Int) (v31 : List Bool) (v32 : List (List Sec)) (v33 : List (List Sec)) (v34 : List (List Sec)) (v35 : Int) (v36 : Int) (v37 : Int) (v38 : Bool) (v39 : List (Int × List (List Sec))) (rec2 : (Int × Int × List Int × List Int × List Int × List q8 × Int × List (List Sec) × Int × List q10 × List Int × List Bool × List (List Sec) × List (List Sec) × List (List Sec) × Int × Int × Int × Bool × (List (Int × List (List Sec)))) → Prop) (v49 : q10 × Bool) (Φ : Bool → Prop) : Int × Int × List (List Sec) → Prop
 | (v50, v51, v52) =>
 Z93 (q13.mk v28 v29 v30 v31) v50 v49.1.Number fun v53 =>
 Join (Z106 v20 v21 v22 v23 v24 v25 v26 v27 v28 v29 v30 v31 v32 v33 v34 v35 v36 v37 v38 v39 rec2 v49 v52 v53 Φ) fun J8 =>
 (0 ≤ v50 ∧ v50 < (3 : Int)) ∧
 (v50 = (0 : Int) →
 v50 = v50 ∧
 (v51 ≠ 0 →
 J8 (0, true)) ∧
 (¬ (v51 ≠ 0) →
 (v53.2 ≠ 0 →
 J8 (0, true)) ∧
 (¬ (v53.2 ≠ 0) →
 ((0 : Int) ≤ 0 ∧ 0 < (3 : Int)) ∧
 (v35 < v49.1.Base →
 J8 (0, true)) ∧
 (¬ (v35 < v49.1.Base) →
 ((0 : Int) ≤ 0 ∧ 0 < (3 : Int)) ∧
 J8 (0, decide (v49.1.Number ≤ v35)))))) ∧
 (v50 = (1 : Int) →
 v50 = v50 ∧
 (v51 ≠ 0 →
 J8 (1, true)) ∧
 (¬ (v51 ≠ 0) →
 (v53.2 ≠ 0 →
 J8 (1, true)) ∧
 (¬ (v53.2 ≠ 0) →
 ((0 : Int) ≤ 1 ∧ 1 < (3 : Int)) ∧
 (v36 < v49.1.Base →
 J8 (1, true)) ∧
 (¬ (v36 < v49.1.Base) →
 ((0 : Int) ≤ 1 ∧ 1 < (3 : Int)) ∧
 J8 (1, decide (v49.1.Number ≤ v36)))))) ∧
 (v50 = (2 : Int) →
 v50 = v50 ∧
 (v51 ≠ 0 →
 J8 (2, true)) ∧
 (¬ (v51 ≠ 0) →
 (v53.2 ≠ 0 →
 J8 (2, true)) ∧
 (¬ (v53.2 ≠ 0) →
 ((0 : Int) ≤ 2 ∧ 2 < (3 : Int)) ∧
 (v37 < v49.1.Base →
 J8 (2, true)) ∧
 (¬ (v37 < v49.1.Base) →
 ((0 : Int) ≤ 2 ∧ 2 < (3 : Int)) ∧
 J8 (2, decide (v49.1.Number ≤ v37)))))) ∧
 True
def Z108 (v20 : Int) (v21 : Int) (v22 : List Int) (v23 : List Int) (v24 : List Int) (v25 : List q8) (v26 : Int) (v27 : List (List Sec)) (v28 : Int) (v29 : List q10) (v30 : List Int) (v31 : List Bool) (v32 : List (List Sec)) (v33 : List (List Sec)) (v34 : List (List Sec)) (v35 : Int) (v36 : Int) (v37 : Int) (v38 : Bool) (v39 : List (Int × List (List Sec))) (rec2 : (Int × Int × List Int × List Int × List Int × List q8 × Int × List (List Sec) × Int × List q10 × List Int × List Bool × List (List Sec) × List (List Sec) × List (List Sec) × Int × Int × Int × Bool × (List (Int × List (List Sec)))) → Prop) (Φ : Bool → Prop) : Bool → Prop
 | v48 =>
 (v48 = true →
 inI (v20 + 1) ∧
 rec2 ((v20 + 1), v21, v22, v23, v24, v25, v26, v27, v28, v29, v30, v31, v32, v33, v34, v35, v36, v37, v38, v39)) ∧
 (¬ (v48 = true) →
 q75 (q13.mk v28 v29 v30 v31) (((0#8) % (3#8)).toNat : Int) fun v49 =>
 (¬ (v49.2 = true) →
 inI (v20 + 1) ∧
 rec2 ((v20 + 1), v21, v22, v23, v24, v25, v26, v27, v28, v29, v30, v31, v32, v33, v34, v35, v36, v37, v38, v39)) ∧
 (¬ (¬ (v49.2 = true)) →
 Join (Z107 v20 v21 v22 v23 v24 v25 v26 v27 v28 v29 v30 v31 v32 v33 v34 v35 v36 v37 v38 v39 rec2 v49 Φ) fun J7 =>
 (0 ≤ (((0#8) % (3#8)).toNat : Int) ∧ (((0#8) % (3#8)).toNat : Int) < (3 : Int)) ∧
 ((((0#8) % (3#8)).toNat : Int) = (0 : Int) →
 (((0#8) % (3#8)).toNat : Int) = (((0#8) % (3#8)).toNat : Int) ∧
 ((0 : Int) ≤ 0 ∧ 0 < (3 : Int)) ∧
 ∃ v56 : List (List Sec) × Int × Unit, q58 v32 v49.1 (fun z => (z.1, z.2, ()) = v56) ∧
 J7 (0, v56.2.1, v56.1)) ∧
 ((((0#8) % (3#8)).toNat : Int) = (1 : Int) →
 (((0#8) % (3#8)).toNat : Int) = (((0#8) % (3#8)).toNat : Int) ∧
 ((0 : Int) ≤ 1 ∧ 1 < (3 : Int)) ∧
 ∃ v57 : List (List Sec) × Int × Unit, q58 v33 v49.1 (fun z => (z.1, z.2, ()) = v57) ∧
 J7 (1, v57.2.1, v57.1)) ∧
 ((((0#8) % (3#8)).toNat : Int) = (2 : Int) →
 (((0#8) % (3#8)).toNat : Int) = (((0#8) % (3#8)).toNat : Int) ∧
 ((0 : Int) ≤ 2 ∧ 2 < (3 : Int)) ∧
 ∃ v58 : List (List Sec) × Int × Unit, q58 v34 v49.1 (fun z => (z.1, z.2, ()) = v58) ∧
 J7 (2, v58.2.1, v58.1)) ∧
 True))
def Z109 (v20 : Int) (v21 : Int) (v22 : List Int) (v23 : List Int) (v24 : List Int) (v25 : List q8) (v26 : Int) (v27 : List (List Sec)) (v28 : Int) (v29 : List q10) (v30 : List Int) (v31 : List Bool) (v32 : List (List Sec)) (v33 : List (List Sec)) (v34 : List (List Sec)) (v35 : Int) (v36 : Int) (v37 : Int) (v38 : Bool) (v39 : List (Int × List (List Sec))) (rec2 : (Int × Int × List Int × List Int × List Int × List q8 × Int × List (List Sec) × Int × List q10 × List Int × List Bool × List (List Sec) × List (List Sec) × List (List Sec) × Int × Int × Int × Bool × (List (Int × List (List Sec)))) → Prop) (v63 : Int) (v65 : List (List Sec)) (_ : Bool → Prop) : Bool → Prop
 | v66 =>
 (v66 = true →
 inI (v20 + 1) ∧
 rec2 ((v20 + 1), v21, v22, v23, v24, v25, v26, v27, v28, v29, v30, v31, v32, v33, v34, v35, v36, v37, false, v39)) ∧
 (¬ (v66 = true) →
 q226 (q13.mk v28 v29 v30 v31) v63 v21 fun v67 =>
 (v67.2 = 0 →
 (0 ≤ v63 ∧ v63 < (3 : Int)) ∧
 (v63 = (0 : Int) →
 v63 = v63 ∧
 v63 = v63 ∧
 v63 = v63 ∧
 ((0 : Int) ≤ 0 ∧ 0 < (3 : Int)) ∧
 ((0 : Int) ≤ 0 ∧ 0 < (3 : Int)) ∧
 inI (v20 + 1) ∧
 rec2 ((v20 + 1), v21, v22, v23, v24, v25, v26, v27, v67.1.Limit, v67.1.Kept, v67.1.Applied, v67.1.Lost, v65, v33, v34, v21, v36, v37, v38, v39)) ∧
 (v63 = (1 : Int) →
 v63 = v63 ∧
 v63 = v63 ∧
 v63 = v63 ∧
 ((0 : Int) ≤ 1 ∧ 1 < (3 : Int)) ∧
 ((0 : Int) ≤ 1 ∧ 1 < (3 : Int)) ∧
 inI (v20 + 1) ∧
 rec2 ((v20 + 1), v21, v22, v23, v24, v25, v26, v27, v67.1.Limit, v67.1.Kept, v67.1.Applied, v67.1.Lost, v32, v65, v34, v35, v21, v37, v38, v39)) ∧
 (v63 = (2 : Int) →
 v63 = v63 ∧
 v63 = v63 ∧
 v63 = v63 ∧
 ((0 : Int) ≤ 2 ∧ 2 < (3 : Int)) ∧
 ((0 : Int) ≤ 2 ∧ 2 < (3 : Int)) ∧
 inI (v20 + 1) ∧
 rec2 ((v20 + 1), v21, v22, v23, v24, v25, v26, v27, v67.1.Limit, v67.1.Kept, v67.1.Applied, v67.1.Lost, v32, v33, v65, v35, v36, v21, v38, v39)) ∧
 True) ∧
 (¬ (v67.2 = 0) →
 inI (v20 + 1) ∧
 rec2 ((v20 + 1), v21, v22, v23, v24, v25, v26, v27, v28, v29, v30, v31, v32, v33, v34, v35, v36, v37, v38, v39)))
def Z110 (v20 : Int) (v21 : Int) (v22 : List Int) (v23 : List Int) (v24 : List Int) (v25 : List q8) (v26 : Int) (v27 : List (List Sec)) (v28 : Int) (v29 : List q10) (v30 : List Int) (v31 : List Bool) (v32 : List (List Sec)) (v33 : List (List Sec)) (v34 : List (List Sec)) (v35 : Int) (v36 : Int) (v37 : Int) (v38 : Bool) (v39 : List (Int × List (List Sec))) (rec2 : (Int × Int × List Int × List Int × List Int × List q8 × Int × List (List Sec) × Int × List q10 × List Int × List Bool × List (List Sec) × List (List Sec) × List (List Sec) × Int × Int × Int × Bool × (List (Int × List (List Sec)))) → Prop) (v61 : Int) (Φ : Bool → Prop) : Int × Int × List (List Sec) → Prop
 | (v63, v64, v65) =>
 Join (Z109 v20 v21 v22 v23 v24 v25 v26 v27 v28 v29 v30 v31 v32 v33 v34 v35 v36 v37 v38 v39 rec2 v63 v65 Φ) fun J11 =>
 (v61 ≠ 0 →
 J11 true) ∧
 (¬ (v61 ≠ 0) →
 J11 (decide (v64 ≠ 0)))
def Z111 (v20 : Int) (v21 : Int) (v22 : List Int) (v23 : List Int) (v24 : List Int) (v25 : List q8) (v26 : Int) (v27 : List (List Sec)) (v28 : Int) (v29 : List q10) (v30 : List Int) (v31 : List Bool) (v32 : List (List Sec)) (v33 : List (List Sec)) (v34 : List (List Sec)) (v35 : Int) (v36 : Int) (v37 : Int) (v38 : Bool) (v39 : List (Int × List (List Sec))) (rec2 : (Int × Int × List Int × List Int × List Int × List q8 × Int × List (List Sec) × Int × List q10 × List Int × List Bool × List (List Sec) × List (List Sec) × List (List Sec) × Int × Int × Int × Bool × (List (Int × List (List Sec)))) → Prop) (Φ : Bool → Prop) : Int × Int × List q8 → Prop
 | (v60, v61, v62) =>
 Join (Z110 v20 v21 v22 v23 v24 v25 v26 v27 v28 v29 v30 v31 v32 v33 v34 v35 v36 v37 v38 v39 rec2 v61 Φ) fun J10 =>
 (0 ≤ v60 ∧ v60 < (3 : Int)) ∧
 (v60 = (0 : Int) →
 v60 = v60 ∧
 ((0 : Int) ≤ 0 ∧ 0 < (3 : Int)) ∧
 q38 v32 v62 fun v68 =>
 J10 (0, v68.2.2, v68.1)) ∧
 (v60 = (1 : Int) →
 v60 = v60 ∧
 ((0 : Int) ≤ 1 ∧ 1 < (3 : Int)) ∧
 q38 v33 v62 fun v69 =>
 J10 (1, v69.2.2, v69.1)) ∧
 (v60 = (2 : Int) →
 v60 = v60 ∧
 ((0 : Int) ≤ 2 ∧ 2 < (3 : Int)) ∧
 q38 v34 v62 fun v70 =>
 J10 (2, v70.2.2, v70.1)) ∧
 True
def Z112 (v20 : Int) (v21 : Int) (v22 : List Int) (v23 : List Int) (v24 : List Int) (v25 : List q8) (v26 : Int) (v27 : List (List Sec)) (v28 : Int) (v29 : List q10) (v30 : List Int) (v31 : List Bool) (v32 : List (List Sec)) (v33 : List (List Sec)) (v34 : List (List Sec)) (v35 : Int) (v36 : Int) (v37 : Int) (v38 : Bool) (v39 : List (Int × List (List Sec))) (rec2 : (Int × Int × List Int × List Int × List Int × List q8 × Int × List (List Sec) × Int × List q10 × List Int × List Bool × List (List Sec) × List (List Sec) × List (List Sec) × Int × Int × Int × Bool × (List (Int × List (List Sec)))) → Prop) (Φ : Bool → Prop) : Bool → Prop
 | v47 =>
 (v47 = true →
 Join (Z108 v20 v21 v22 v23 v24 v25 v26 v27 v28 v29 v30 v31 v32 v33 v34 v35 v36 v37 v38 v39 rec2 Φ) fun J6 =>
 ((v31.length : Int) ≠ 3 →
 J6 true) ∧
 (¬ ((v31.length : Int) ≠ 3) →
 inX (((0#8) % (3#8)).toNat : Int) v31.length ∧
 J6 (ix v31 (((0#8) % (3#8)).toNat : Int)))) ∧
 (¬ (v47 = true) →
 (((ix ([0#8, 2#8, 3#8] : List (BitVec 8)) v20) % (7#8)) = (5#8) →
 q225 (q13.mk v28 v29 v30 v31) (((0#8) % (3#8)).toNat : Int) fun v59 =>
 (v59.2 = 0 →
 inI (v20 + 1) ∧
 rec2 ((v20 + 1), v21, v22, v23, v24, v25, v26, v27, v59.1.Limit, v59.1.Kept, v59.1.Applied, v59.1.Lost, v32, v33, v34, v35, v36, v37, v38, v39)) ∧
 (¬ (v59.2 = 0) →
 inI (v20 + 1) ∧
 rec2 ((v20 + 1), v21, v22, v23, v24, v25, v26, v27, v28, v29, v30, v31, v32, v33, v34, v35, v36, v37, v38, v39))) ∧
 (¬ (((ix ([0#8, 2#8, 3#8] : List (BitVec 8)) v20) % (7#8)) = (5#8)) →
 Join (Z111 v20 v21 v22 v23 v24 v25 v26 v27 v28 v29 v30 v31 v32 v33 v34 v35 v36 v37 v38 v39 rec2 Φ) fun J9 =>
 (0 ≤ (((0#8) % (3#8)).toNat : Int) ∧ (((0#8) % (3#8)).toNat : Int) < (3 : Int)) ∧
 ((((0#8) % (3#8)).toNat : Int) = (0 : Int) →
 ((0 : Int) ≤ 0 ∧ 0 < (3 : Int)) ∧
 ∃ v71 : List q8 × Int × Unit, q103 v32 (mget v39 v21 ([] : List (List Sec))) (fun z => (z.1, z.2, ()) = v71) ∧
 J9 (0, v71.2.1, v71.1)) ∧
 ((((0#8) % (3#8)).toNat : Int) = (1 : Int) →
 ((0 : Int) ≤ 1 ∧ 1 < (3 : Int)) ∧
 ∃ v72 : List q8 × Int × Unit, q103 v33 (mget v39 v21 ([] : List (List Sec))) (fun z => (z.1, z.2, ()) = v72) ∧
 J9 (1, v72.2.1, v72.1)) ∧
 ((((0#8) % (3#8)).toNat : Int) = (2 : Int) →
 ((0 : Int) ≤ 2 ∧ 2 < (3 : Int)) ∧
 ∃ v73 : List q8 × Int × Unit, q103 v34 (mget v39 v21 ([] : List (List Sec))) (fun z => (z.1, z.2, ()) = v73) ∧
 J9 (2, v73.2.1, v73.1)) ∧
 True))
def Z113 (v20 : Int) (v21 : Int) (v22 : List Int) (v23 : List Int) (v24 : List Int) (v25 : List q8) (v26 : Int) (v27 : List (List Sec)) (v28 : Int) (v29 : List q10) (v30 : List Int) (v31 : List Bool) (v32 : List (List Sec)) (v33 : List (List Sec)) (v34 : List (List Sec)) (v35 : Int) (v36 : Int) (v37 : Int) (v38 : Bool) (v39 : List (Int × List (List Sec))) (rec2 : (Int × Int × List Int × List Int × List Int × List q8 × Int × List (List Sec) × Int × List q10 × List Int × List Bool × List (List Sec) × List (List Sec) × List (List Sec) × Int × Int × Int × Bool × (List (Int × List (List Sec)))) → Prop) (Φ : Bool → Prop) : Bool → Prop
 | v40 =>
 (v40 = true →
 Z11 (q16.mk (0#8) (0#8) (0#8) (0#8) (5#8)) fun v41 =>
 q147 (q12.mk v21 v22 v23 v24 v25) 0 v41 fun v42 =>
 q38 v27 ([v41] : List q8) fun v43 =>
 Join (Z105 v20 v21 v22 v23 v24 v25 v26 v27 v28 v29 v30 v31 v32 v33 v34 v35 v36 v37 v38 v39 rec2 v42 v43 Φ) fun J4 =>
 (v42.2 ≠ 0 →
 J4 true) ∧
 (¬ (v42.2 ≠ 0) →
 J4 (decide (v43.2.2 ≠ 0)))) ∧
 (¬ (v40 = true) →
 (((ix ([0#8, 2#8, 3#8] : List (BitVec 8)) v20) % (7#8)) = (2#8) →
 q102 (q12.mk v21 v22 v23 v24 v25) v26 ([v26] : List Int) fun v45 =>
 (v45.2.2 ≠ 0 →
 inI (v20 + 1) ∧
 rec2 ((v20 + 1), v21, v22, v23, v24, v25, v26, v27, v28, v29, v30, v31, v32, v33, v34, v35, v36, v37, false, v39)) ∧
 (¬ (v45.2.2 ≠ 0) →
 q74 (q13.mk v28 v29 v30 v31) v45.2.1 fun v46 =>
 (v46.2.2 = 17 →
 inI (v20 + 1) ∧
 rec2 ((v20 + 1), v45.1.Number, v45.1.Sizes, v45.1.Positions, v45.1.Nodes, v45.1.Writes, v26, v27, v28, v29, v30, v31, v32, v33, v34, v35, v36, v37, v38, (mput v39 v45.2.1.Number v27))) ∧
 (¬ (v46.2.2 = 17) →
 (v46.2.2 = 15 →
 inI (v20 + 1) ∧
 rec2 ((v20 + 1), v45.1.Number, v45.1.Sizes, v45.1.Positions, v45.1.Nodes, v45.1.Writes, v26, v27, v28, v29, v30, v31, v32, v33, v34, v35, v36, v37, v38, (mput v39 v45.2.1.Number v27))) ∧
 (¬ (v46.2.2 = 15) →
 (v46.2.2 ≠ 0 →
 inI (v20 + 1) ∧
 rec2 ((v20 + 1), v45.1.Number, v45.1.Sizes, v45.1.Positions, v45.1.Nodes, v45.1.Writes, v26, v27, v28, v29, v30, v31, v32, v33, v34, v35, v36, v37, false, (mput v39 v45.2.1.Number v27))) ∧
 (¬ (v46.2.2 ≠ 0) →
 inI (v20 + 1) ∧
 rec2 ((v20 + 1), v45.1.Number, v45.1.Sizes, v45.1.Positions, v45.1.Nodes, v45.1.Writes, v26, v27, v46.1.Limit, v46.1.Kept, v46.1.Applied, v46.1.Lost, v32, v33, v34, v35, v36, v37, v38, (mput v39 v45.2.1.Number v27))))))) ∧
 (¬ (((ix ([0#8, 2#8, 3#8] : List (BitVec 8)) v20) % (7#8)) = (2#8)) →
 Join (Z112 v20 v21 v22 v23 v24 v25 v26 v27 v28 v29 v30 v31 v32 v33 v34 v35 v36 v37 v38 v39 rec2 Φ) fun J5 =>
 (((ix ([0#8, 2#8, 3#8] : List (BitVec 8)) v20) % (7#8)) = (3#8) →
 J5 true) ∧
 (¬ (((ix ([0#8, 2#8, 3#8] : List (BitVec 8)) v20) % (7#8)) = (3#8)) →
 J5 (decide (((ix ([0#8, 2#8, 3#8] : List (BitVec 8)) v20) % (7#8)) = (4#8))))))
def Z114 (Φ : Bool → Prop) : (Int × Int × List Int × List Int × List Int × List q8 × Int × List (List Sec) × Int × List q10 × List Int × List Bool × List (List Sec) × List (List Sec) × List (List Sec) × Int × Int × Int × Bool × (List (Int × List (List Sec)))) → ((Int × Int × List Int × List Int × List Int × List q8 × Int × List (List Sec) × Int × List q10 × List Int × List Bool × List (List Sec) × List (List Sec) × List (List Sec) × Int × Int × Int × Bool × (List (Int × List (List Sec)))) → Prop) → Prop
 | (v20, v21, v22, v23, v24, v25, v26, v27, v28, v29, v30, v31, v32, v33, v34, v35, v36, v37, v38, v39), rec2 =>
 (v20 < (([0#8, 2#8, 3#8] : List (BitVec 8)).length : Int) →
 inX v20 ([0#8, 2#8, 3#8] : List (BitVec 8)).length ∧
 (3#8) ≠ 0#8 ∧
 (7#8) ≠ 0#8 ∧
 Join (Z113 v20 v21 v22 v23 v24 v25 v26 v27 v28 v29 v30 v31 v32 v33 v34 v35 v36 v37 v38 v39 rec2 Φ) fun J3 =>
 (((ix ([0#8, 2#8, 3#8] : List (BitVec 8)) v20) % (7#8)) = (0#8) →
 J3 true) ∧
 (¬ (((ix ([0#8, 2#8, 3#8] : List (BitVec 8)) v20) % (7#8)) = (0#8)) →
 J3 (decide (((ix ([0#8, 2#8, 3#8] : List (BitVec 8)) v20) % (7#8)) = (1#8))))) ∧
 (¬ (v20 < (([0#8, 2#8, 3#8] : List (BitVec 8)).length : Int)) →
 (v38 = true →
 ((0 : Int) ≤ 0 ∧ 0 < (3 : Int)) ∧
 (v35 = 1 →
 ((0 : Int) ≤ 0 ∧ 0 < (3 : Int)) ∧
 ((v32.length : Int) = 2 →
 ((0 : Int) ≤ 0 ∧ 0 < (3 : Int)) ∧
 inX 0 v32.length ∧
 inX 0 (ix v32 0).length ∧
 ((ix (ix v32 0) 0) = (Sec.mk (5#8) (0#8) (0#8) (0#8) (0#8) (0#8) (0#8) (0#8)) →
 Z104 (q13.mk v28 v29 v30 v31) fun v74 =>
 Φ (decide (v74 = 0))) ∧
 (¬ ((ix (ix v32 0) 0) = (Sec.mk (5#8) (0#8) (0#8) (0#8) (0#8) (0#8) (0#8) (0#8))) →
 Φ false)) ∧
 (¬ ((v32.length : Int) = 2) →
 Φ false)) ∧
 (¬ (v35 = 1) →
 Φ false)) ∧
 (¬ (v38 = true) →
 Φ false))
def Z115 (Φ : Bool → Prop) : Int × List Int × List q8 × Int × List (List Sec) × Int × List q10 × List (List Sec) × List (List Sec) × List (List Sec) × Int × Int × Int × Bool × (List (Int × List (List Sec))) × List Int × List Int × List Int × List Bool → Prop
 | (v1, v2, v3, v4, v5, v6, v7, v8, v9, v10, v11, v12, v13, v14, v15, v16, v17, v18, v19) =>
 LoopW (Z114 Φ) (0, v1, v16, v17, v2, v3, v4, v5, v6, v7, v18, v19, v8, v9, v10, v11, v12, v13, v14, v15)
def Z116 (J1 : (Int × List Int × List q8 × Int × List (List Sec) × Int × List q10 × List (List Sec) × List (List Sec) × List (List Sec) × Int × Int × Int × Bool × (List (Int × List (List Sec))) × List Int × List Int × List Int × List Bool) → Prop) (v76 : List (List Sec) × Int) (v78 : q12 × Int) (v79 : q13 × Int) (_ : Bool → Prop) : (Int × List (List Sec) × List (List Sec) × List (List Sec)) → ((Int × List (List Sec) × List (List Sec) × List (List Sec)) → Prop) → Prop
 | (v80, v81, v82, v83), rec12 =>
 (v80 < 3 →
 (0 ≤ v80 ∧ v80 < (3 : Int)) ∧
 (v80 = (0 : Int) →
 v80 = v80 ∧
 v80 = v80 ∧
 ((0 : Int) ≤ 0 ∧ 0 < (3 : Int)) ∧
 inI ((0 : Int) + 1) ∧
 rec12 (((0 : Int) + 1), v76.1, v82, v83)) ∧
 (v80 = (1 : Int) →
 v80 = v80 ∧
 v80 = v80 ∧
 ((0 : Int) ≤ 1 ∧ 1 < (3 : Int)) ∧
 inI ((1 : Int) + 1) ∧
 rec12 (((1 : Int) + 1), v81, v76.1, v83)) ∧
 (v80 = (2 : Int) →
 v80 = v80 ∧
 v80 = v80 ∧
 ((0 : Int) ≤ 2 ∧ 2 < (3 : Int)) ∧
 inI ((2 : Int) + 1) ∧
 rec12 (((2 : Int) + 1), v81, v82, v76.1)) ∧
 True) ∧
 (¬ (v80 < 3) →
 J1 (v78.1.Number, v78.1.Nodes, v78.1.Writes, 0, v76.1, v79.1.Limit, v79.1.Kept, v81, v82, v83, 0, 0, 0, decide (v79.2 = 0), (mput ([] : List (Int × List (List Sec))) 0 v76.1), v78.1.Sizes, v78.1.Positions, v79.1.Applied, v79.1.Lost))
def Z117 (J1 : (Int × List Int × List q8 × Int × List (List Sec) × Int × List q10 × List (List Sec) × List (List Sec) × List (List Sec) × Int × Int × Int × Bool × (List (Int × List (List Sec))) × List Int × List Int × List Int × List Bool) → Prop) (v76 : List (List Sec) × Int) (v78 : q12 × Int) (v79 : q13 × Int) (_ : Bool → Prop) : (Int × List (List Sec) × List (List Sec) × List (List Sec)) → ((Int × List (List Sec) × List (List Sec) × List (List Sec)) → Prop) → Prop
 | (v84, v85, v86, v87), rec13 =>
 (v84 < 3 →
 (0 ≤ v84 ∧ v84 < (3 : Int)) ∧
 (v84 = (0 : Int) →
 v84 = v84 ∧
 v84 = v84 ∧
 ((0 : Int) ≤ 0 ∧ 0 < (3 : Int)) ∧
 inI ((0 : Int) + 1) ∧
 rec13 (((0 : Int) + 1), v76.1, v86, v87)) ∧
 (v84 = (1 : Int) →
 v84 = v84 ∧
 v84 = v84 ∧
 ((0 : Int) ≤ 1 ∧ 1 < (3 : Int)) ∧
 inI ((1 : Int) + 1) ∧
 rec13 (((1 : Int) + 1), v85, v76.1, v87)) ∧
 (v84 = (2 : Int) →
 v84 = v84 ∧
 v84 = v84 ∧
 ((0 : Int) ≤ 2 ∧ 2 < (3 : Int)) ∧
 inI ((2 : Int) + 1) ∧
 rec13 (((2 : Int) + 1), v85, v86, v76.1)) ∧
 True) ∧
 (¬ (v84 < 3) →
 J1 (v78.1.Number, v78.1.Nodes, v78.1.Writes, 0, v76.1, v79.1.Limit, v79.1.Kept, v85, v86, v87, 0, 0, 0, false, (mput ([] : List (Int × List (List Sec))) 0 v76.1), v78.1.Sizes, v78.1.Positions, v79.1.Applied, v79.1.Lost))
def Z118 (J1 : (Int × List Int × List q8 × Int × List (List Sec) × Int × List q10 × List (List Sec) × List (List Sec) × List (List Sec) × Int × Int × Int × Bool × (List (Int × List (List Sec))) × List Int × List Int × List Int × List Bool) → Prop) (v76 : List (List Sec) × Int) (v78 : q12 × Int) (v79 : q13 × Int) (_ : Bool → Prop) : (Int × List (List Sec) × List (List Sec) × List (List Sec)) → ((Int × List (List Sec) × List (List Sec) × List (List Sec)) → Prop) → Prop
 | (v88, v89, v90, v91), rec14 =>
 (v88 < 3 →
 (0 ≤ v88 ∧ v88 < (3 : Int)) ∧
 (v88 = (0 : Int) →
 v88 = v88 ∧
 v88 = v88 ∧
 ((0 : Int) ≤ 0 ∧ 0 < (3 : Int)) ∧
 inI ((0 : Int) + 1) ∧
 rec14 (((0 : Int) + 1), v76.1, v90, v91)) ∧
 (v88 = (1 : Int) →
 v88 = v88 ∧
 v88 = v88 ∧
 ((0 : Int) ≤ 1 ∧ 1 < (3 : Int)) ∧
 inI ((1 : Int) + 1) ∧
 rec14 (((1 : Int) + 1), v89, v76.1, v91)) ∧
 (v88 = (2 : Int) →
 v88 = v88 ∧
 v88 = v88 ∧
 ((0 : Int) ≤ 2 ∧ 2 < (3 : Int)) ∧
 inI ((2 : Int) + 1) ∧
 rec14 (((2 : Int) + 1), v89, v90, v76.1)) ∧
 True) ∧
 (¬ (v88 < 3) →
 J1 (v78.1.Number, v78.1.Nodes, v78.1.Writes, 0, v76.1, v79.1.Limit, v79.1.Kept, v89, v90, v91, 0, 0, 0, false, (mput ([] : List (Int × List (List Sec))) 0 v76.1), v78.1.Sizes, v78.1.Positions, v79.1.Applied, v79.1.Lost))
def Z119 (Φ : Bool → Prop) : Prop :=
 Join (Z115 Φ) fun J1 =>
 Z0 fun v75 =>
 q52 v75 fun v76 =>
 Z0 fun v77 =>
 q167 v77 1 0 fun v78 =>
 q91 3 3 0 fun v79 =>
 (v76.2 = 0 →
 (v78.2 = 0 →
 LoopW (Z116 J1 v76 v78 v79 Φ) (0, ([] : List (List Sec)), ([] : List (List Sec)), ([] : List (List Sec)))) ∧
 (¬ (v78.2 = 0) →
 LoopW (Z117 J1 v76 v78 v79 Φ) (0, ([] : List (List Sec)), ([] : List (List Sec)), ([] : List (List Sec))))) ∧
 (¬ (v76.2 = 0) →
 LoopW (Z118 J1 v76 v78 v79 Φ) (0, ([] : List (List Sec)), ([] : List (List Sec)), ([] : List (List Sec))))
def q40 (x0 : Int) (Φ : Bool → Prop) : Prop :=
 (0 ≤ x0 →
 Φ (decide (x0 ≤ 1073741824))) ∧
 (¬ (0 ≤ x0) →
 Φ false)
def q104 (x0 : Int) (Φ : Bool → Prop) : Prop :=
 (0 ≤ x0 →
 Φ (decide (x0 < 4))) ∧
 (¬ (0 ≤ x0) →
 Φ false)
def Z120 (x0 : Int) (x1 : Int) (x2 : Int) (Φ : Bool → Prop) : Prop :=
 q40 x0 fun v1 =>
 (v1 = true →
 q104 x1 fun v2 =>
 (v2 = true →
 q40 x2 fun v3 =>
 Φ v3) ∧
 (¬ (v2 = true) →
 Φ false)) ∧
 (¬ (v1 = true) →
 Φ false)
def Z121 (x0 : Int) (x1 : Int) (x2 : Int) (Φ : q15 × Int → Prop) : Prop :=
 Z120 x0 x1 x2 fun v1 =>
 (¬ (v1 = true) →
 Φ ((q15.mk 0 0 ([] : List Int) 0 0), 2)) ∧
 (¬ (¬ (v1 = true)) →
 Φ ((q15.mk x0 x1 ([] : List Int) x2 x2), 0))
def Z122 (x0 : Int) (x1 : Int) (x2 : Int) (Φ : q14 × Int → Prop) : Prop :=
 Z120 x0 x1 x2 fun v1 =>
 (¬ (v1 = true) →
 Φ ((q14.mk 0 0 0 0), 2)) ∧
 (¬ (¬ (v1 = true)) →
 Φ ((q14.mk x0 x1 x2 x2), 0))
def Z123 (x0 : List Int) (x1 : Int) (Φ : Int → Prop) : (Int) → ((Int) → Prop) → Prop
 | v1, rec1 =>
 (v1 < (x0.length : Int) →
 inX v1 x0.length ∧
 (x1 = (ix x0 v1) →
 Φ v1) ∧
 (¬ (x1 = (ix x0 v1)) →
 inI (v1 + 1) ∧
 rec1 (v1 + 1))) ∧
 (¬ (v1 < (x0.length : Int)) →
 Φ (-1))
def Z124 (x0 : List Int) (x1 : Int) (Φ : Int → Prop) : Prop :=
 LoopW (Z123 x0 x1 Φ) 0
def Z125 (x0 : List Int) (x1 : Int) (Φ : Bool → Prop) : Prop :=
 Z124 x0 x1 fun v1 =>
 Φ (decide (0 ≤ v1))
def Z126 (x0 : q15) (Φ : Int → Prop) : (Int × Int) → ((Int × Int) → Prop) → Prop
 | (v2, v3), rec1 =>
 (v3 < (x0.Offered.length : Int) →
 inX v3 x0.Offered.length ∧
 ((ix x0.Offered v3) ≤ v2 →
 Φ 3) ∧
 (¬ ((ix x0.Offered v3) ≤ v2) →
 (1073741824 < (ix x0.Offered v3) →
 Φ 3) ∧
 (¬ (1073741824 < (ix x0.Offered v3)) →
 inI (v3 + 1) ∧
 rec1 ((ix x0.Offered v3), (v3 + 1))))) ∧
 (¬ (v3 < (x0.Offered.length : Int)) →
 (x0.Stored ≠ x0.Applied →
 Z125 x0.Offered x0.Stored fun v4 =>
 (¬ (v4 = true) →
 Φ 12) ∧
 (¬ (¬ (v4 = true)) →
 Φ 0)) ∧
 (¬ (x0.Stored ≠ x0.Applied) →
 Φ 0))
def Z127 (x0 : q15) (Φ : Int → Prop) : Prop :=
 Z120 x0.Epoch x0.Site x0.Applied fun v1 =>
 (¬ (v1 = true) →
 Φ 2) ∧
 (¬ (¬ (v1 = true)) →
 (1024 < (x0.Offered.length : Int) →
 Φ 6) ∧
 (¬ (1024 < (x0.Offered.length : Int)) →
 LoopW (Z126 x0 Φ) (x0.Applied, 0)))
def Z128 (x0 : q15) (x1 : Int) (Φ : q15 × List q11 × Int → Prop) : Int → Prop
 | v2 =>
 (x1 ≤ v2 →
 Φ ((q15.mk 0 0 ([] : List Int) 0 0), ([] : List q11), 8)) ∧
 (¬ (x1 ≤ v2) →
 (1073741824 < x1 →
 Φ ((q15.mk 0 0 ([] : List Int) 0 0), ([] : List q11), 2)) ∧
 (¬ (1073741824 < x1) →
 (1024 ≤ (x0.Offered.length : Int) →
 Φ ((q15.mk 0 0 ([] : List Int) 0 0), ([] : List q11), 6)) ∧
 (¬ (1024 ≤ (x0.Offered.length : Int)) →
 Z4 x0.Offered fun v3 =>
 lenOk (v3 ++ ([x1] : List Int)).length 8 ∧
 lenOk ([(q11.mk 8 0 x0.Site x1 0 x0.Epoch ([] : List Int) ([] : List (BitVec 8)))] : List q11).length 96 ∧
 Φ ((q15.mk x0.Epoch x0.Site (v3 ++ ([x1] : List Int)) x0.Stored x0.Applied), ([(q11.mk 8 0 x0.Site x1 0 x0.Epoch ([] : List Int) ([] : List (BitVec 8)))] : List q11), 0))))
def Z129 (x0 : q15) (x1 : Int) (Φ : q15 × List q11 × Int → Prop) : Prop :=
 Z127 x0 fun v1 =>
 (v1 ≠ 0 →
 Φ ((q15.mk 0 0 ([] : List Int) 0 0), ([] : List q11), v1)) ∧
 (¬ (v1 ≠ 0) →
 Join (Z128 x0 x1 Φ) fun J1 =>
 (0 < (x0.Offered.length : Int) →
 inI ((x0.Offered.length : Int) - 1) ∧
 inX ((x0.Offered.length : Int) - 1) x0.Offered.length ∧
 J1 (ix x0.Offered ((x0.Offered.length : Int) - 1))) ∧
 (¬ (0 < (x0.Offered.length : Int)) →
 J1 x0.Applied))
def Z130 (x0 : q14) (Φ : Int → Prop) : Bool → Prop
 | v1 =>
 (v1 = true →
 Φ 2) ∧
 (¬ (v1 = true) →
 (x0.Applied < 0 →
 Φ 3) ∧
 (¬ (x0.Applied < 0) →
 (x0.Stored < x0.Applied →
 Φ 3) ∧
 (¬ (x0.Stored < x0.Applied) →
 (1073741824 < x0.Stored →
 Φ 3) ∧
 (¬ (1073741824 < x0.Stored) →
 Φ 0))))
def Z131 (x0 : q14) (Φ : Int → Prop) : Prop :=
 Join (Z130 x0 Φ) fun J1 =>
 q40 x0.Epoch fun v2 =>
 (¬ (v2 = true) →
 J1 true) ∧
 (¬ (¬ (v2 = true)) →
 q104 x0.Site fun v3 =>
 J1 (decide (¬ (v3 = true))))
def Z132 (x0 : q23) (x1 : Int) (x2 : Int) (Φ : List q11 → Prop) : Prop :=
 Φ ([(q11.mk x1 x0.CommitTarget.Site 0 0 x2 x0.CommitTarget.Epoch ([] : List Int) ([] : List (BitVec 8)))] : List q11)
def Z133 (x0 : q23) (Φ : List q11 → Prop) : Prop :=
 Z132 x0 9 x0.CommitTarget.Stored fun v1 =>
 Φ v1
def Z134 (x0 : q14) (x1 : Int) (Φ : q14 × List q11 × Int → Prop) : Prop :=
 Z131 x0 fun v1 =>
 (v1 ≠ 0 →
 Φ ((q14.mk 0 0 0 0), ([] : List q11), v1)) ∧
 (¬ (v1 ≠ 0) →
 (x1 ≤ x0.Stored →
 Φ ((q14.mk 0 0 0 0), ([] : List q11), 8)) ∧
 (¬ (x1 ≤ x0.Stored) →
 (1073741824 < x1 →
 Φ ((q14.mk 0 0 0 0), ([] : List q11), 2)) ∧
 (¬ (1073741824 < x1) →
 ∃ v2 : List q11 × Unit, Z133 (q23.mk (q14.mk x0.Epoch x0.Site x1 x0.Applied)) (fun z => (z, ()) = v2) ∧
 Φ ((q14.mk x0.Epoch x0.Site x1 x0.Applied), v2.1, 0))))
def Z135 (x0 : q23) (Φ : List q11 → Prop) : Prop :=
 Z132 x0 11 x0.CommitTarget.Applied fun v1 =>
 Φ v1
def Z136 (x0 : q14) (x1 : Int) (Φ : q14 × List q11 × Int → Prop) : Prop :=
 Z131 x0 fun v1 =>
 (v1 ≠ 0 →
 Φ ((q14.mk 0 0 0 0), ([] : List q11), v1)) ∧
 (¬ (v1 ≠ 0) →
 (x1 ≤ x0.Applied →
 Φ ((q14.mk 0 0 0 0), ([] : List q11), 8)) ∧
 (¬ (x1 ≤ x0.Applied) →
 (x0.Stored < x1 →
 Φ ((q14.mk 0 0 0 0), ([] : List q11), 15)) ∧
 (¬ (x0.Stored < x1) →
 ∃ v2 : List q11 × Unit, Z135 (q23.mk (q14.mk x0.Epoch x0.Site x0.Stored x1)) (fun z => (z, ()) = v2) ∧
 Φ ((q14.mk x0.Epoch x0.Site x0.Stored x1), v2.1, 0))))
def Z137 (x0 : q15) (Φ : List q11 → Prop) : (Int × List q11) → ((Int × List q11) → Prop) → Prop
 | (v4, v5), rec2 =>
 (v4 < (x0.Offered.length : Int) →
 inX v4 x0.Offered.length ∧
 (x0.Stored < (ix x0.Offered v4) →
 lenOk (v5 ++ ([(q11.mk 8 0 x0.Site (ix x0.Offered v4) 0 x0.Epoch ([] : List Int) ([] : List (BitVec 8)))] : List q11)).length 96 ∧
 inI (v4 + 1) ∧
 rec2 ((v4 + 1), (v5 ++ ([(q11.mk 8 0 x0.Site (ix x0.Offered v4) 0 x0.Epoch ([] : List Int) ([] : List (BitVec 8)))] : List q11)))) ∧
 (¬ (x0.Stored < (ix x0.Offered v4)) →
 inI (v4 + 1) ∧
 rec2 ((v4 + 1), v5))) ∧
 (¬ (v4 < (x0.Offered.length : Int)) →
 Φ v5)
def Z138 (x0 : q15) (Φ : List q11 → Prop) : List q11 → Prop
 | v3 =>
 LoopW (Z137 x0 Φ) (0, v3)
def Z139 (x0 : q15) (Φ : List q11 → Prop) : Prop :=
 Z127 x0 fun v1 =>
 (v1 ≠ 0 →
 Φ ([] : List q11)) ∧
 (¬ (v1 ≠ 0) →
 Z4 x0.Offered fun _ =>
 Join (Z138 x0 Φ) fun J1 =>
 (x0.Applied < x0.Stored →
 lenOk ([(q11.mk 10 0 x0.Site x0.Stored 0 x0.Epoch ([] : List Int) ([] : List (BitVec 8)))] : List q11).length 96 ∧
 J1 ([(q11.mk 10 0 x0.Site x0.Stored 0 x0.Epoch ([] : List Int) ([] : List (BitVec 8)))] : List q11)) ∧
 (¬ (x0.Applied < x0.Stored) →
 J1 ([] : List q11)))
def Z140 (x0 : q15) (Φ : q15 × List q11 → Prop) : Int × List Int × Int × List q11 → Prop
 | (v3, v4, v5, v6) =>
 Φ ((q15.mk v3 x0.Site v4 v5 x0.Applied), v6)
def Z141 (x0 : q15) (x1 : q11) (v2 : List Int) (Φ : q15 × List q11 → Prop) : Bool → Prop
 | v7 =>
 (v7 = true →
 lenOk ([(q11.mk 10 0 x0.Site x1.Value 0 x0.Epoch ([] : List Int) ([] : List (BitVec 8)))] : List q11).length 96 ∧
 Z140 x0 Φ (x0.Epoch, v2, x1.Value, ([(q11.mk 10 0 x0.Site x1.Value 0 x0.Epoch ([] : List Int) ([] : List (BitVec 8)))] : List q11))) ∧
 (¬ (v7 = true) →
 Z140 x0 Φ (x0.Epoch, v2, x0.Stored, ([] : List q11)))
def Z142 (x0 : q15) (Φ : q15 × List q11 → Prop) : Int × List Int × Int × Int → Prop
 | (v9, v10, v11, v12) =>
 Φ ((q15.mk v9 x0.Site v10 v11 v12), ([] : List q11))
def Z143 (x0 : q15) (Φ : q15 × List q11 → Prop) : Int × Int × List Int → Prop
 | (v14, v15, v16) =>
 Φ ((q15.mk v14 x0.Site v16 v15 x0.Applied), ([] : List q11))
def Z144 (x0 : q15) (x1 : q11) (Φ : q15 × List q11 → Prop) : Bool → Prop
 | v1 =>
 (v1 = true →
 Φ (x0, ([] : List q11))) ∧
 (¬ (v1 = true) →
 Z4 x0.Offered fun v2 =>
 mhas ([] : List (Int × Unit)) (9 : Int) = false ∧
 mhas ([((9 : Int), ())] : List (Int × Unit)) (11 : Int) = false ∧
 mhas ([((9 : Int), ()), ((11 : Int), ())] : List (Int × Unit)) (12 : Int) = false ∧
 (x1.Kind = 9 →
 (x0.Epoch < x1.Epoch →
 Z140 x0 Φ (x1.Epoch, ([] : List Int), x0.Applied, ([] : List q11))) ∧
 (¬ (x0.Epoch < x1.Epoch) →
 Join (Z141 x0 x1 v2 Φ) fun J3 =>
 Z125 v2 x1.Value fun v8 =>
 (v8 = true →
 J3 (decide (x0.Stored ≤ x1.Value))) ∧
 (¬ (v8 = true) →
 J3 false))) ∧
 (¬ (x1.Kind = 9) →
 (x1.Kind = 11 →
 Join (Z142 x0 Φ) fun J4 =>
 (x0.Epoch < x1.Epoch →
 J4 (x1.Epoch, ([] : List Int), x0.Applied, x0.Applied)) ∧
 (¬ (x0.Epoch < x1.Epoch) →
 Z124 v2 x1.Value fun v13 =>
 (0 ≤ v13 →
 inI (v13 + 1) ∧
 inS (v13 + 1) (v2.length : Int) v2.length ∧
 J4 (x0.Epoch, (sub v2 (v13 + 1) (v2.length : Int)), (if x0.Stored < x1.Value then x1.Value else x0.Stored), x1.Value)) ∧
 (¬ (0 ≤ v13) →
 J4 (x0.Epoch, v2, x0.Stored, x0.Applied)))) ∧
 (¬ (x1.Kind = 11) →
 (x1.Kind = 12 →
 Join (Z143 x0 Φ) fun J5 =>
 (x0.Epoch < x1.Epoch →
 J5 (x1.Epoch, x0.Applied, ([] : List Int))) ∧
 (¬ (x0.Epoch < x1.Epoch) →
 J5 (x0.Epoch, x0.Stored, v2))) ∧
 (¬ (x1.Kind = 12) →
 Φ ((q15.mk x0.Epoch x0.Site v2 x0.Stored x0.Applied), ([] : List q11))))))
def Z145 (x0 : q15) (x1 : q11) (Φ : q15 × List q11 → Prop) : Prop :=
 Join (Z144 x0 x1 Φ) fun J1 =>
 Z127 x0 fun v17 =>
 (v17 ≠ 0 →
 J1 true) ∧
 (¬ (v17 ≠ 0) →
 (x1.From ≠ x0.Site →
 J1 true) ∧
 (¬ (x1.From ≠ x0.Site) →
 (x1.Epoch < x0.Epoch →
 J1 true) ∧
 (¬ (x1.Epoch < x0.Epoch) →
 q40 x1.Epoch fun v18 =>
 J1 (decide (¬ (v18 = true))))))
def Z146 (x0 : q14) (x1 : q11) (Φ : q14 × List q11 → Prop) : Int × Int → Prop
 | (v3, v4) =>
 (
 mhas ([] : List (Int × Unit)) (8 : Int) = false ∧
 mhas ([((8 : Int), ())] : List (Int × Unit)) (10 : Int) = false ∧
 (x1.Kind = 8 →
 Z132 (q23.mk (q14.mk v3 x0.Site v4 x0.Applied)) 9 v4 fun v5 =>
 Φ ((q14.mk v3 x0.Site v4 x0.Applied), v5)) ∧
 (¬ (x1.Kind = 8) →
 (x1.Kind = 10 →
 Z132 (q23.mk (q14.mk v3 x0.Site v4 x0.Applied)) 11 x0.Applied fun v6 =>
 Φ ((q14.mk v3 x0.Site v4 x0.Applied), v6)) ∧
 (¬ (x1.Kind = 10) →
 False))) ∧
 (
 mhas ([] : List (Int × Unit)) (10 : Int) = false ∧
 mhas ([((10 : Int), ())] : List (Int × Unit)) (8 : Int) = false ∧
 (x1.Kind = 10 →
 Z132 (q23.mk (q14.mk v3 x0.Site v4 x0.Applied)) 11 x0.Applied fun v7 =>
 Φ ((q14.mk v3 x0.Site v4 x0.Applied), v7)) ∧
 (¬ (x1.Kind = 10) →
 (x1.Kind = 8 →
 Z132 (q23.mk (q14.mk v3 x0.Site v4 x0.Applied)) 9 v4 fun v8 =>
 Φ ((q14.mk v3 x0.Site v4 x0.Applied), v8)) ∧
 (¬ (x1.Kind = 8) →
 False)))
def Z147 (x0 : q14) (x1 : q11) (Φ : q14 × List q11 → Prop) : Bool → Prop
 | v1 =>
 (v1 = true →
 Φ (x0, ([] : List q11))) ∧
 (¬ (v1 = true) →
 (x1.Epoch < x0.Epoch →
 ∃ v2 : List q11 × Unit, Z132 (q23.mk x0) 12 0 (fun z => (z, ()) = v2) ∧
 Φ (x0, v2.1)) ∧
 (¬ (x1.Epoch < x0.Epoch) →
 Join (Z146 x0 x1 Φ) fun J2 =>
 (x0.Epoch < x1.Epoch →
 J2 (x1.Epoch, x0.Applied)) ∧
 (¬ (x0.Epoch < x1.Epoch) →
 J2 (x0.Epoch, x0.Stored))))
def Z148 (x0 : q14) (x1 : q11) (Φ : q14 × List q11 → Prop) : Prop :=
 Join (Z147 x0 x1 Φ) fun J1 =>
 Z131 x0 fun v9 =>
 (v9 ≠ 0 →
 J1 true) ∧
 (¬ (v9 ≠ 0) →
 (x1.To ≠ x0.Site →
 J1 true) ∧
 (¬ (x1.To ≠ x0.Site) →
 q40 x1.Epoch fun v10 =>
 (¬ (v10 = true) →
 J1 true) ∧
 (¬ (¬ (v10 = true)) →
 (x1.Kind ≠ 8 →
 J1 (decide (x1.Kind ≠ 10))) ∧
 (¬ (x1.Kind ≠ 8) →
 J1 false))))
def Z149 (x0 : q15) (Φ : Int → Prop) : Prop :=
 Z127 x0 fun v1 =>
 (v1 ≠ 0 →
 Φ 0) ∧
 (¬ (v1 ≠ 0) →
 Φ x0.Applied)
def Z150 (x1 : List (BitVec 8)) (v7 : Int) (rec2 : (Int × Int × Int × List q10 × List Int × List Bool × Int × Int × Int × Int × Int × Int × List Int × Int × Int × List q11) → Prop) (v22 : Int) (v23 : Int) (v24 : List q10) (v25 : List Int) (v26 : List Bool) (v37 : Int) (v38 : Int) (v39 : Int) (v40 : Int) (v41 : Int) (v42 : Int) (v43 : Int) (v44 : List Int) (v45 : Int) (v46 : Int) (v47 : List q11) (rec4 : (Int × Int × Int × Int × Int × Int × Int × List Int × Int × Int × List q11) → Prop) (Φ : Bool → Prop) : Bool → Prop
 | v48 =>
 (v48 = true →
 inI (2 * v7) ∧
 inI ((2 * v7) + v37) ∧
 inX ((2 * v7) + v37) x1.length ∧
 (0 ≤ ((ix x1 ((2 * v7) + v37)).toNat : Int) ∧ (v47.length : Int) ≠ (0 : Int)) ∧
 inX (((ix x1 ((2 * v7) + v37)).toNat : Int) % (v47.length : Int)) v47.length ∧
 Z145 (q15.mk v42 v43 v44 v45 v46) (ix v47 (((ix x1 ((2 * v7) + v37)).toNat : Int) % (v47.length : Int))) fun v49 =>
 Z148 (q14.mk v38 v39 v40 v41) (ix v47 (((ix x1 ((2 * v7) + v37)).toNat : Int) % (v47.length : Int))) fun v50 =>
 lenOk (v47 ++ v49.2).length 96 ∧
 lenOk ((v47 ++ v49.2) ++ v50.2).length 96 ∧
 inI (v37 + 1) ∧
 rec4 ((v37 + 1), v50.1.Epoch, v50.1.Site, v50.1.Stored, v50.1.Applied, v49.1.Epoch, v49.1.Site, v49.1.Offered, v49.1.Stored, v49.1.Applied, ((v47 ++ v49.2) ++ v50.2))) ∧
 (¬ (v48 = true) →
 Z149 (q15.mk v42 v43 v44 v45 v46) fun v51 =>
 (v41 < v51 →
 Φ false) ∧
 (¬ (v41 < v51) →
 Z93 (q13.mk v23 v24 v25 v26) 0 v51 fun v52 =>
 (v52.2 ≠ 0 →
 Φ false) ∧
 (¬ (v52.2 ≠ 0) →
 inI (v7 + 1) ∧
 rec2 (v22, (v7 + 1), v52.1.Limit, v52.1.Kept, v52.1.Applied, v52.1.Lost, v38, v39, v40, v41, v42, v43, v44, v45, v46, v47))))
def Z151 (x1 : List (BitVec 8)) (v7 : Int) (rec2 : (Int × Int × Int × List q10 × List Int × List Bool × Int × Int × Int × Int × Int × Int × List Int × Int × Int × List q11) → Prop) (v22 : Int) (v23 : Int) (v24 : List q10) (v25 : List Int) (v26 : List Bool) (Φ : Bool → Prop) : (Int × Int × Int × Int × Int × Int × Int × List Int × Int × Int × List q11) → ((Int × Int × Int × Int × Int × Int × Int × List Int × Int × Int × List q11) → Prop) → Prop
 | (v37, v38, v39, v40, v41, v42, v43, v44, v45, v46, v47), rec4 =>
 Join (Z150 x1 v7 rec2 v22 v23 v24 v25 v26 v37 v38 v39 v40 v41 v42 v43 v44 v45 v46 v47 rec4 Φ) fun J5 =>
 (v37 < 2 →
 (0 < (v47.length : Int) →
 inI (2 * v7) ∧
 inI ((2 * v7) + v37) ∧
 J5 (decide (((2 * v7) + v37) < (x1.length : Int)))) ∧
 (¬ (0 < (v47.length : Int)) →
 J5 false)) ∧
 (¬ (v37 < 2) →
 J5 false)
def Z152 (x1 : List (BitVec 8)) (v7 : Int) (v21 : List q11) (rec2 : (Int × Int × Int × List q10 × List Int × List Bool × Int × Int × Int × Int × Int × Int × List Int × Int × Int × List q11) → Prop) (Φ : Bool → Prop) : Int × Int × List q10 × List Int × List Bool × Int × Int × Int × Int × Int × Int × List Int × Int × Int × List q11 → Prop
 | (v22, v23, v24, v25, v26, v27, v28, v29, v30, v31, v32, v33, v34, v35, v36) =>
 lenOk (v21 ++ v36).length 96 ∧
 LoopW (Z151 x1 v7 rec2 v22 v23 v24 v25 v26 Φ) (0, v27, v28, v29, v30, v31, v32, v33, v34, v35, (v21 ++ v36))
def Z153 (x0 : List q17) (x1 : List (BitVec 8)) (Φ : Bool → Prop) : (Int × Int × Int × List q10 × List Int × List Bool × Int × Int × Int × Int × Int × Int × List Int × Int × Int × List q11) → ((Int × Int × Int × List q10 × List Int × List Bool × Int × Int × Int × Int × Int × Int × List Int × Int × Int × List q11) → Prop) → Prop
 | (v6, v7, v8, v9, v10, v11, v12, v13, v14, v15, v16, v17, v18, v19, v20, v21), rec2 =>
 (v7 < (x0.length : Int) →
 Join (Z152 x1 v7 v21 rec2 Φ) fun J3 =>
 inX v7 x0.length ∧
 (5#8) ≠ 0#8 ∧
 ((((ix x0 v7).Kind) % (5#8)) = (0#8) →
 inI (v6 + 1) ∧
 q74 (q13.mk v8 v9 v10 v11) (q10.mk v6 (v6 + 1) 0 ([] : List Int) ([] : List q8)) fun v53 =>
 inI (v6 + 1) ∧
 Z129 (q15.mk v16 v17 v18 v19 v20) (v6 + 1) fun v54 =>
 (v53.2.2 = 17 →
 J3 (v6, v8, v9, v10, v11, v12, v13, v14, v15, v16, v17, v18, v19, v20, ([] : List q11))) ∧
 (¬ (v53.2.2 = 17) →
 (v53.2.2 ≠ 0 →
 Φ false) ∧
 (¬ (v53.2.2 ≠ 0) →
 (v54.2.2 ≠ 0 →
 Φ false) ∧
 (¬ (v54.2.2 ≠ 0) →
 inI (v6 + 1) ∧
 J3 ((v6 + 1), v53.1.Limit, v53.1.Kept, v53.1.Applied, v53.1.Lost, v12, v13, v14, v15, v54.1.Epoch, v54.1.Site, v54.1.Offered, v54.1.Stored, v54.1.Applied, v54.2.1))))) ∧
 (¬ ((((ix x0 v7).Kind) % (5#8)) = (0#8)) →
 ((((ix x0 v7).Kind) % (5#8)) = (1#8) →
 (v14 < v6 →
 inI (v14 + 1) ∧
 Z134 (q14.mk v12 v13 v14 v15) (v14 + 1) fun v55 =>
 (v55.2.2 ≠ 0 →
 Φ false) ∧
 (¬ (v55.2.2 ≠ 0) →
 J3 (v6, v8, v9, v10, v11, v55.1.Epoch, v55.1.Site, v55.1.Stored, v55.1.Applied, v16, v17, v18, v19, v20, v55.2.1))) ∧
 (¬ (v14 < v6) →
 J3 (v6, v8, v9, v10, v11, v12, v13, v14, v15, v16, v17, v18, v19, v20, ([] : List q11)))) ∧
 (¬ ((((ix x0 v7).Kind) % (5#8)) = (1#8)) →
 ((((ix x0 v7).Kind) % (5#8)) = (2#8) →
 (v15 < v14 →
 q75 (q13.mk v8 v9 v10 v11) 0 fun v56 =>
 (¬ (v56.2 = true) →
 Φ false) ∧
 (¬ (¬ (v56.2 = true)) →
 inI (v15 + 1) ∧
 ((v15 + 1) < v56.1.Number →
 Φ false) ∧
 (¬ ((v15 + 1) < v56.1.Number) →
 inI (v15 + 1) ∧
 Z136 (q14.mk v12 v13 v14 v15) (v15 + 1) fun v57 =>
 (v57.2.2 ≠ 0 →
 Φ false) ∧
 (¬ (v57.2.2 ≠ 0) →
 J3 (v6, v8, v9, v10, v11, v57.1.Epoch, v57.1.Site, v57.1.Stored, v57.1.Applied, v16, v17, v18, v19, v20, v57.2.1))))) ∧
 (¬ (v15 < v14) →
 J3 (v6, v8, v9, v10, v11, v12, v13, v14, v15, v16, v17, v18, v19, v20, ([] : List q11)))) ∧
 (¬ ((((ix x0 v7).Kind) % (5#8)) = (2#8)) →
 ((((ix x0 v7).Kind) % (5#8)) = (3#8) →
 Z139 (q15.mk v16 v17 v18 v19 v20) fun v58 =>
 J3 (v6, v8, v9, v10, v11, v12, v13, v14, v15, v16, v17, v18, v19, v20, v58)) ∧
 (¬ ((((ix x0 v7).Kind) % (5#8)) = (3#8)) →
 J3 (v6, v8, v9, v10, v11, v12, v13, v14, v15, v16, v17, v18, v19, v20, ([] : List q11))))))) ∧
 (¬ (v7 < (x0.length : Int)) →
 Z119 fun v59 =>
 Φ v59)
def Z154 (x0 : List q17) (x1 : List (BitVec 8)) (Φ : Bool → Prop) : Bool → Prop
 | v1 =>
 (v1 = true →
 Z119 fun v2 =>
 Φ v2) ∧
 (¬ (v1 = true) →
 Z121 1 2 0 fun v3 =>
 Z122 1 2 0 fun v4 =>
 q91 1 64 0 fun v5 =>
 (v3.2 ≠ 0 →
 Φ false) ∧
 (¬ (v3.2 ≠ 0) →
 (v4.2 ≠ 0 →
 Φ false) ∧
 (¬ (v4.2 ≠ 0) →
 (v5.2 ≠ 0 →
 Φ false) ∧
 (¬ (v5.2 ≠ 0) →
 LoopW (Z153 x0 x1 Φ) (0, 0, v5.1.Limit, v5.1.Kept, v5.1.Applied, v5.1.Lost, v4.1.Epoch, v4.1.Site, v4.1.Stored, v4.1.Applied, v3.1.Epoch, v3.1.Site, v3.1.Offered, v3.1.Stored, v3.1.Applied, ([] : List q11))))))
def Z155 (x0 : List q17) (x1 : List (BitVec 8)) (Φ : Bool → Prop) : Prop :=
 Join (Z154 x0 x1 Φ) fun J1 =>
 (40 < (x0.length : Int) →
 J1 true) ∧
 (¬ (40 < (x0.length : Int)) →
 J1 (decide (80 < (x1.length : Int))))
def ghT : Hp → Prop := fun _ => True
def gh : Hp → Prop := fun _ => True
theorem ghUp : GUp gh := fun _ _ _ _ => trivial
def ct25 : Ct DD := ⟨25, [], [24], [[true]], false, fun _ Φ => Z0 fun y => Φ (y, ())⟩
def pl25 : List PE := []
def ct107 : Ct DD := ⟨107, [3], [4], [[false]], true, fun x Φ => Z1 x.1 fun y => Φ (y, ())⟩
def pl107 : List PE := []
def ct64 : Ct DD := ⟨64, [24], [43], [[false]], true, fun x Φ => Z3 x.1 fun y => Φ (y, ())⟩
def pl64 : List PE := [⟨[4, 1, 0, 1, 12, 0, 1, 11, 0, 0, 1, 1], [], [], ⟨[.int], [(0, .kp 0), (1, .kp 1), (7, .kp 4), (8, .v .int)], [], [], []⟩, false, 0⟩]
def ct66 : Ct DD := ⟨66, [3], [82], [[true]], false, fun x Φ => q224 x.1 fun y => Φ (y, ())⟩
def pl66 : List PE := []
def ct24 : Ct DD := ⟨24, [24], [29, 43], [[true], [false]], false, fun x Φ => q52 x.1 fun y => Φ (y.1, y.2, ())⟩
def pl24 : List PE := [⟨[4, 1, 0, 1, 1, 11, 0, 1, 1], [], [], ⟨[.int, .lst 82], [(1, .kp 2), (5, .own 0), (11, .kp 8), (12, .kp 9), (13, .v .int)], [], [82], []⟩, false, 0⟩]
def ct67 : Ct DD := ⟨67, [3, 3, 3], [4], [[false]], true, fun x Φ => q34 x.1 x.2.1 x.2.2.1 fun y => Φ (y, ())⟩
def pl67 : List PE := []
def ct68 : Ct DD := ⟨68, [24], [24], [[true]], false, fun x Φ => Z4 x.1 fun y => Φ (y, ())⟩
def pl68 : List PE := []
def ct26 : Ct DD := ⟨26, [24, 3, 3], [27, 43], [[false, true, true, false, false], [false]], false, fun x Φ => q167 x.1 x.2.1 x.2.2.1 fun y => Φ (y.1, y.2, ())⟩
def pl26 : List PE := []
def ct122 : Ct DD := ⟨122, [195, 195], [195, 195], [[false], [false]], true, fun x Φ => Z5 x.1 x.2.1 fun y => Φ (y.1, y.2, ())⟩
def pl122 : List PE := []
def ct97 : Ct DD := ⟨97, [168, 168], [168, 168], [[false], [false]], true, fun x Φ => Z6 x.1 x.2.1 fun y => Φ (y.1, y.2, ())⟩
def pl97 : List PE := []
def ct48 : Ct DD := ⟨48, [24, 3], [24], [[true]], false, fun x Φ => Z9 x.1 x.2.1 fun y => Φ (y, ())⟩
def pl48 : List PE := [⟨[4, 0, 1, 1, 1, 1, 1, 1], [], [], ⟨[.int, .lst 3], [(7, .own 0), (8, .v .int)], [], [3], []⟩, false, 0⟩, ⟨[0, 1, 1, 1], [], [], ⟨[.bool], [(0, .kp 0), (6, .kp 15), (26, .v .bool)], [], [], []⟩, true, 0⟩]
def ct14 : Ct DD := ⟨14, [3, 3, 3], [34, 43], [[false, false, true, true], [false]], false, fun x Φ => q91 x.1 x.2.1 x.2.2.1 fun y => Φ (y.1, y.2, ())⟩
def pl14 : List PE := [⟨[3, 1, 4, 0, 1], [], [0], ⟨[.bool], [(0, .kp 1), (1, .kp 2), (2, .kp 3), (6, .kp 4), (16, .v .bool)], [], [], []⟩, true, 0⟩, ⟨[4, 0, 1], [], [0], ⟨[.bool], [(0, .kp 1), (1, .kp 2), (2, .kp 3), (6, .kp 4), (8, .v .bool)], [], [], []⟩, true, 0⟩]
def ct27 : Ct DD := ⟨27, [91], [89], [[false, false, true]], false, fun x Φ => Z11 x.1 fun y => Φ (y, ())⟩
def pl27 : List PE := [⟨[4, 1, 0, 1, 1, 1, 1], [], [2, 1, 0], ⟨[.int, .lst 81], [(1, .kp 5), (2, .kp 6), (3, .kp 13), (4, .kp 19), (5, .kp 26), (6, .v .int)], [(3, 89, [.kp 28,.kp 29,.own 0])], [81], []⟩, false, 0⟩]
def ct118 : Ct DD := ⟨118, [3], [4], [[false]], true, fun x Φ => Z12 x.1 fun y => Φ (y, ())⟩
def pl118 : List PE := []
def ct90 : Ct DD := ⟨90, [24, 3], [43], [[false]], true, fun x Φ => Z14 x.1 x.2.1 fun y => Φ (y, ())⟩
def pl90 : List PE := [⟨[4, 1, 0, 1, 12, 0, 1, 11, 0, 0, 1, 1], [], [], ⟨[.int], [(0, .kp 0), (1, .kp 1), (7, .kp 4), (8, .v .int)], [], [], []⟩, false, 0⟩]
def ct135 : Ct DD := ⟨135, [82], [3], [[false]], true, fun x Φ => Z15 x.1 fun y => Φ (y, ())⟩
def pl135 : List PE := []
def ct109 : Ct DD := ⟨109, [29], [24], [[true]], false, fun x Φ => q73 x.1 fun y => Φ (y, ())⟩
def pl109 : List PE := [⟨[4, 1, 0, 1, 1, 11, 0, 1], [], [], ⟨[.int, .lst 3], [(1, .kp 2), (5, .own 0), (11, .kp 8), (12, .kp 9), (13, .v .int)], [], [3], []⟩, false, 0⟩]
def ct76 : Ct DD := ⟨76, [29], [43], [[false]], true, fun x Φ => q45 x.1 fun y => Φ (y, ())⟩
def pl76 : List PE := []
def ct78 : Ct DD := ⟨78, [29, 89], [43], [[false]], true, fun x Φ => q92 x.1 x.2.1 fun y => Φ (y, ())⟩
def pl78 : List PE := [⟨[4, 0, 1], [], [0], ⟨[.bool], [(0, .kp 1), (3, .kp 3), (5, .v .bool)], [], [], []⟩, true, 0⟩]
def ct108 : Ct DD := ⟨108, [29, 89], [43], [[false]], true, fun x Φ => q66 x.1 x.2.1 fun y => Φ (y, ())⟩
def pl108 : List PE := []
def ct88 : Ct DD := ⟨88, [82], [82], [[true]], false, fun x Φ => Z17 x.1 fun y => Φ (y, ())⟩
def pl88 : List PE := []
def ct75 : Ct DD := ⟨75, [89], [89], [[false, false, true]], false, fun x Φ => Z18 x.1 fun y => Φ (y, ())⟩
def pl75 : List PE := []
def ct74 : Ct DD := ⟨74, [27], [27], [[false, true, true, true, true]], false, fun x Φ => Z20 x.1 fun y => Φ (y, ())⟩
def pl74 : List PE := [⟨[4, 1, 0, 1, 1, 1], [], [4, 3, 2, 0, 1], ⟨[.int, .lst 89], [(1, .kp 6), (2, .kp 7), (3, .own 0), (19, .kp 22), (20, .kp 23), (21, .v .int)], [], [89], []⟩, false, 0⟩]
def ct28 : Ct DD := ⟨28, [27, 3, 89], [27, 43], [[false, true, true, true, true], [false]], false, fun x Φ => q147 x.1 x.2.1 x.2.2.1 fun y => Φ (y.1, y.2, ())⟩
def pl28 : List PE := [⟨[0, 1, 1], [0, 1], [0, 1], ⟨[], [(0, .kp 0), (1, .kp 0), (3, .kp 0), (4, .kp 0)], [], [0, 0, 0, 1, 3, 4, 2, 5], []⟩, false, 0⟩, ⟨[4, 1, 0, 1, 1, 1, 1, 1, 1, 12, 0, 1, 1], [19], [19, 18, 3, 2], ⟨[.int], [(1, .kp 21), (3, .kp 29), (38, .kp 56), (39, .kp 57), (40, .v .int)], [], [], []⟩, false, 0⟩, ⟨[1, 4, 0, 1, 1, 5, 4, 1, 0, 1, 1, 1, 1, 1, 1, 12, 0, 1, 1], [], [], ⟨[], [], [], [8], []⟩, false, 0⟩]
def ct29 : Ct DD := ⟨29, [29, 25], [29, 3, 43], [[true], [false], [false]], false, fun x Φ => q38 x.1 x.2.1 fun y => Φ (y.1, y.2.1, y.2.2, ())⟩
def ct111 : Ct DD := ⟨111, [3], [4], [[false]], true, fun x Φ => Z25 x.1 fun y => Φ (y, ())⟩
def pl111 : List PE := []
def it112 : It DD := ⟨112, [144, 4], [3, 89], fun x l => q29 x.1 x.2.1 l⟩
def pl112 : List PE := [⟨[4, 1], [], [], ⟨[.int], [(0, .kp 0), (1, .kp 3), (2, .kp 4), (8, .kp 7), (9, .kp 8), (10, .v .int)], [], [], []⟩, false, 0⟩, ⟨[0, 1, 4, 0, 1, 1, 5, 4, 1], [], [], ⟨[], [(2, .kp 0), (5, .kp 0), (7, .kp 0), (8, .kp 0), (9, .kp 0)], [], [0, 0, 2, 5, 0, 1, 3, 4, 6, 7, 8, 9, 10, 11, 12, 13], []⟩, false, 0⟩]
def ct113 : Ct DD := ⟨113, [89], [43], [[false]], true, fun x Φ => Z28 x.1 fun y => Φ (y, ())⟩
def pl113 : List PE := [⟨[4, 0, 1], [], [0], ⟨[.bool], [(1, .kp 2), (3, .v .bool)], [], [], []⟩, true, 0⟩]
def ct136 : Ct DD := ⟨136, [212], [212], [[false, false]], true, fun x Φ => Z29 x.1 fun y => Φ (y, ())⟩
def pl136 : List PE := []
def ct146 : Ct DD := ⟨146, [3], [4], [[false]], true, fun x Φ => Z30 x.1 fun y => Φ (y, ())⟩
def pl146 : List PE := []
def ct149 : Ct DD := ⟨149, [3, 3], [3], [[false]], true, fun x Φ => Z31 x.1 x.2.1 fun y => Φ (y, ())⟩
def pl149 : List PE := []
def ct148 : Ct DD := ⟨148, [24], [3], [[false]], true, fun x Φ => q258 x.1 fun y => Φ (y, ())⟩
def pl148 : List PE := [⟨[4, 1, 0, 1, 1], [], [], ⟨[.int], [(3, .kp 2), (6, .kp 3), (7, .kp 4), (8, .v .int)], [], [], []⟩, false, 0⟩]
def ct138 : Ct DD := ⟨138, [212, 212], [3], [[false]], true, fun x Φ => Z32 x.1 x.2.1 fun y => Φ (y, ())⟩
def pl138 : List PE := []
def tn137 : Tn DD := ⟨137, 212, [138], fun xs Φ => Z33 xs Φ⟩
def ct82 : Ct DD := ⟨82, [25], [25, 43], [[true], [false]], false, fun x Φ => Z40 x.1 fun y => Φ (y.1, y.2, ())⟩
def pl82 : List PE := [⟨[4, 1, 0, 1], [], [], ⟨[.int], [(0, .kp 0), (7, .kp 3), (8, .kp 4), (9, .v .int)], [], [], []⟩, false, 0⟩, ⟨[4, 1, 0, 1, 1, 11, 0, 1, 1], [], [], ⟨[.int, .mp 212 81], [(3, .kp 9), (10, .kp 0), (11, .kp 10), (12, .v .int)], [], [], [(6, .map 212 81 true true)]⟩, false, 0⟩, ⟨[4, 1, 1, 1, 4, 0, 1, 1, 5, 4, 1, 0, 1, 1, 11, 0, 1, 1], [], [12], ⟨[.int, .int, .int, .mp 212 81], [(3, .kp 9), (6, .kp 24), (10, .kp 0), (11, .kp 10), (12, .kp 14), (22, .kp 26), (23, .kp 27), (24, .v .int)], [(13, 212, [.v .int,.v .int])], [], [(6, .map 212 81 true true)]⟩, false, 0⟩, ⟨[4, 1, 0, 1, 1, 12, 0, 1, 1], [], [6], ⟨[.itr, .lst 212], [(0, .kp 9), (3, .own 0), (14, .kp 18)], [], [212], [(13, .itr 6)]⟩, false, 0⟩, ⟨[4, 1, 0, 1, 1, 1, 1, 1, 1, 12, 0, 1, 1], [], [13, 19, 6], ⟨[.int, .int, .int, .lst 89, .lst 81], [(0, .kp 9), (5, .own 0), (6, .kp 28), (26, .kp 29), (27, .kp 30), (28, .v .int)], [(20, 212, [.v .int,.v .int])], [300089, 81], []⟩, false, 0⟩, ⟨[1, 4, 0, 1, 1, 5, 4, 1, 0, 1, 1, 1, 1, 1, 1, 12, 0, 1, 1], [], [36, 20], ⟨[.lst 89, .lst 81], [(0, .kp 9), (5, .own 0), (6, .kp 28), (8, .kp 42), (26, .kp 29), (27, .kp 30), (28, .kp 38)], [], [300089, 81], []⟩, true, 0⟩]
def ct84 : Ct DD := ⟨84, [144, 3, 89], [89], [[false, false, true]], false, fun x Φ => Z44 x.1 x.2.1 x.2.2.1 fun y => Φ (y, ())⟩
def pl84 : List PE := [⟨[4, 1, 0, 1, 1], [5, 6], [6, 5, 3, 1, 0], ⟨[.lst 81], [], [(2, 89, [.kp 21,.kp 22,.own 0])], [81], []⟩, false, 0⟩, ⟨[4, 1, 1, 4, 7, 4, 1, 0, 1, 1], [], [32], ⟨[.int, .lst 81], [(5, .kp 12), (8, .kp 36), (29, .kp 43), (30, .v .int)], [(2, 89, [.kp 21,.kp 22,.own 0])], [81], []⟩, false, 0⟩, ⟨[0, 4, 7, 4, 1, 0, 1, 1], [], [32, 2, 31], ⟨[.bool], [(5, .kp 12), (8, .kp 36), (26, .v .bool)], [], [], []⟩, true, 0⟩]
def ct30 : Ct DD := ⟨30, [27, 3, 24], [27, 48, 43], [[false, true, true, true, true], [false, false, false, true, true], [false]], false, fun x Φ => q102 x.1 x.2.1 x.2.2.1 fun y => Φ (y.1, y.2.1, y.2.2, ())⟩
def pl30 : List PE := [⟨[4, 1, 0, 1, 1, 1, 1, 1, 1, 11, 0, 1, 1], [5], [5, 4, 3, 2, 1, 0], ⟨[.int], [(1, .kp 7), (3, .kp 15), (38, .kp 42), (39, .kp 43), (40, .v .int)], [], [], []⟩, false, 0⟩, ⟨[1, 4, 0, 1, 1, 5, 4, 1, 0, 1, 1, 1, 1, 1, 1, 11, 0, 1, 1], [], [], ⟨[], [], [], [8], []⟩, false, 0⟩, ⟨[4, 1, 0, 1, 1, 1, 1, 1, 1, 1], [135, 133, 136], [136, 135, 132, 133, 5, 4, 3, 2, 1, 0], ⟨[.lst 89], [], [(134, 25, [.own 0])], [89], []⟩, false, 0⟩, ⟨[4, 1, 0, 1, 1, 1, 1, 1, 1, 1, 1, 1, 1, 1, 1], [153, 154], [154, 153, 151, 152, 150, 149, 2, 134, 148, 136, 135, 132, 133, 5, 4, 3, 0], ⟨[.lst 3, .lst 89], [], [(1, 27, [.kp 176,.kp 177,.kp 178,.own 0,.own 1])], [3, 89], []⟩, false, 0⟩, ⟨[1, 1, 1, 1, 1], [], [5, 4, 3, 2, 1, 0], ⟨[.int, .lst 3, .lst 3, .lst 3, .lst 89, .lst 4], [(1, .kp 67), (2, .kp 68), (3, .kp 69), (6, .kp 70), (7, .kp 71), (8, .kp 72), (9, .pv 132 0)], [(132, 144, [.v .int,.v (.lst 3),.v (.lst 3),.v (.lst 3),.v (.lst 89),.own 0])], [4], []⟩, true, 49⟩, ⟨[4, 1, 0, 1, 1, 12, 0, 1, 1, 1, 1, 1], [], [85, 84], ⟨[.int, .lst 3], [(2, .kp 88), (4, .kp 89), (5, .own 0), (14, .kp 68), (15, .kp 93), (16, .v .int)], [], [3], []⟩, false, 0⟩, ⟨[4, 1, 0, 1, 1, 1, 1, 12, 0, 1, 1, 1, 1, 1], [], [85, 84], ⟨[.int, .lst 3, .lst 4], [(4, .kp 89), (5, .own 0), (8, .kp 113), (41, .kp 104), (42, .kp 115), (43, .v .int)], [(107, 144, [.kp 117,.kp 118,.kp 119,.kp 120,.kp 121,.own 1])], [3, 4], []⟩, false, 0⟩, ⟨[4, 1, 0, 1, 12, 0, 1, 11, 0, 1, 1, 1, 1, 1, 12, 0, 1, 1, 1, 1, 1], [], [107, 123, 124, 85, 84], ⟨[.int], [(0, .kp 125), (1, .kp 126), (7, .kp 129), (8, .v .int)], [], [], []⟩, false, 0⟩]
def ct35 : Ct DD := ⟨35, [3], [4], [[false]], true, fun x Φ => Z52 x.1 fun y => Φ (y, ())⟩
def pl35 : List PE := []
def ct38 : Ct DD := ⟨38, [], [24], [[true]], false, fun _ Φ => q57 fun y => Φ (y, ())⟩
def pl38 : List PE := []
def ct91 : Ct DD := ⟨91, [25, 24], [43], [[false]], true, fun x Φ => Z54 x.1 x.2.1 fun y => Φ (y, ())⟩
def pl91 : List PE := [⟨[4, 1, 0, 1, 12, 0, 1, 1, 1], [0], [1, 0], ⟨[.int], [(0, .kp 2), (1, .kp 3), (9, .kp 5), (10, .kp 6), (11, .v .int)], [], [], []⟩, false, 0⟩]
def ct39 : Ct DD := ⟨39, [48, 24], [43], [[false]], true, fun x Φ => q46 x.1 x.2.1 fun y => Φ (y, ())⟩
def pl39 : List PE := [⟨[4, 0, 1, 1], [], [1, 0], ⟨[.bool], [(1, .kp 3), (2, .kp 4), (16, .v .bool)], [], [], []⟩, true, 0⟩]
def ct92 : Ct DD := ⟨92, [24], [3], [[false]], true, fun x Φ => Z57 x.1 fun y => Φ (y, ())⟩
def pl92 : List PE := [⟨[4, 1, 0, 1, 1, 1], [], [], ⟨[.int, .int], [(0, .kp 0), (3, .v .int), (4, .v .int)], [], [], []⟩, false, 0⟩]
def ct40 : Ct DD := ⟨40, [34], [3], [[false]], true, fun x Φ => Z58 x.1 fun y => Φ (y, ())⟩
def pl40 : List PE := []
def ct63 : Ct DD := ⟨63, [34, 3], [4], [[false]], true, fun x Φ => Z60 x.1 x.2.1 fun y => Φ (y, ())⟩
def pl63 : List PE := [⟨[4, 1, 0, 1, 12, 0, 1, 13, 0, 1], [], [1, 0], ⟨[.int], [(0, .kp 2), (1, .kp 3), (7, .kp 6), (8, .v .int)], [], [], []⟩, false, 0⟩]
def ct41 : Ct DD := ⟨41, [34, 3], [4], [[false]], true, fun x Φ => Z61 x.1 x.2.1 fun y => Φ (y, ())⟩
def pl41 : List PE := []
def ct94 : Ct DD := ⟨94, [3, 3], [3], [[false]], true, fun x Φ => Z62 x.1 x.2.1 fun y => Φ (y, ())⟩
def pl94 : List PE := []
def ct42 : Ct DD := ⟨42, [34], [3], [[false]], true, fun x Φ => Z64 x.1 fun y => Φ (y, ())⟩
def pl42 : List PE := [⟨[4, 1, 0, 1, 1, 11, 0, 1], [], [1, 0], ⟨[.int, .int], [(2, .kp 4), (3, .kp 5), (7, .v .int), (12, .kp 10), (13, .kp 11), (14, .v .int)], [], [], []⟩, false, 0⟩]
def ct8 : Ct DD := ⟨8, [34], [43], [[false]], true, fun x Φ => Z70 x.1 fun y => Φ (y, ())⟩
def pl8 : List PE := [⟨[4, 1, 0, 1, 1, 1, 1], [12], [12, 1, 0], ⟨[.int], [(1, .kp 3), (4, .kp 20), (54, .kp 8), (55, .kp 22), (56, .v .int)], [], [], []⟩, false, 0⟩, ⟨[4, 1, 0, 1, 1, 1, 1, 1], [], [12, 1, 0], ⟨[.int], [(1, .kp 3), (83, .kp 9), (84, .kp 27), (85, .v .int)], [], [], []⟩, false, 0⟩, ⟨[3, 1, 4, 0, 1, 1], [], [1, 0], ⟨[.bool], [(1, .kp 3), (30, .v .bool)], [], [], []⟩, true, 0⟩, ⟨[4, 1, 0, 1, 12, 0, 1, 22, 0, 3, 1, 4, 0, 1, 1], [], [], ⟨[.int], [(0, .kp 9), (1, .kp 12), (7, .kp 14), (8, .v .int)], [], [], []⟩, false, 0⟩, ⟨[4, 0, 1, 1], [], [1, 0], ⟨[.bool], [(1, .kp 3), (3, .kp 5), (10, .v .bool)], [], [], []⟩, true, 0⟩]
def ct98 : Ct DD := ⟨98, [32], [32], [[true]], false, fun x Φ => Z71 x.1 fun y => Φ (y, ())⟩
def pl98 : List PE := []
def ct46 : Ct DD := ⟨46, [48], [48], [[false, false, false, true, true]], false, fun x Φ => Z73 x.1 fun y => Φ (y, ())⟩
def pl46 : List PE := [⟨[4, 1, 0, 1, 1, 1], [], [2, 1, 0], ⟨[.int, .lst 89], [(1, .kp 5), (2, .kp 6), (3, .own 0), (15, .kp 17), (16, .kp 18), (17, .v .int)], [], [89], []⟩, false, 0⟩]
def ct49 : Ct DD := ⟨49, [34], [34], [[false, true, true, true]], false, fun x Φ => Z75 x.1 fun y => Φ (y, ())⟩
def pl49 : List PE := [⟨[4, 1, 0, 1, 1], [], [2, 3, 1, 0], ⟨[.int, .lst 48], [(2, .kp 7), (3, .kp 17), (16, .kp 19), (17, .kp 20), (18, .v .int)], [(4, 34, [.kp 22,.own 0,.kp 24,.kp 25])], [48], []⟩, false, 0⟩]
def tn51 : Tn DD := ⟨51, 3, [], fun xs Φ => Z76 xs Φ⟩
def ct15 : Ct DD := ⟨15, [34, 48], [34, 24, 43], [[false, false, false, true], [true], [false]], false, fun x Φ => q74 x.1 x.2.1 fun y => Φ (y.1, y.2.1, y.2.2, ())⟩
def pl15 : List PE := [⟨[4, 0, 1, 1, 1, 1, 1, 1, 1, 1], [11, 5], [10, 8, 9, 11, 5, 3, 2, 1, 0], ⟨[.int, .lst 48, .lst 3, .lst 3, .lst 4], [(4, .kp 16), (9, .kp 40), (10, .own 0)], [(7, 34, [.v .int,.v (.lst 48),.v (.lst 3),.own 1])], [3, 4], []⟩, false, 0⟩, ⟨[4, 1, 0, 1, 4, 1, 5, 4, 0, 1, 1, 1, 1, 1, 1, 1, 1], [], [], ⟨[.int, .lst 3, .lst 4], [(4, .kp 16), (9, .kp 40), (10, .own 0), (11, .kp 77), (55, .kp 79), (56, .kp 80), (57, .v .int)], [(7, 34, [.kp 82,.kp 83,.kp 84,.own 1])], [3, 4], []⟩, false, 0⟩, ⟨[1, 4, 0, 1, 1, 5, 4, 1, 0, 1, 4, 1, 5, 4, 0, 1, 1, 1, 1, 1, 1, 1, 1], [], [7, 86, 87], ⟨[.bool], [(4, .kp 16), (9, .kp 40), (10, .kp 88), (11, .kp 77), (12, .kp 94), (55, .kp 79), (56, .kp 80), (57, .kp 89), (72, .v .bool)], [], [], []⟩, true, 0⟩, ⟨[1, 1, 1, 1, 11, 1, 1, 4, 1, 5, 4, 0, 1, 1, 1, 1, 1, 1, 1, 1], [], [90, 89, 88, 7, 86, 87], ⟨[.int], [(1, .kp 92), (2, .kp 93), (5, .v .int)], [], [], []⟩, true, 0⟩, ⟨[1, 1, 1, 11, 1, 1, 4, 1, 5, 4, 0, 1, 1, 1, 1, 1, 1, 1, 1], [], [90, 89, 88, 7, 86, 87], ⟨[.int], [(1, .kp 92), (2, .kp 93), (5, .v .int)], [], [], []⟩, true, 0⟩, ⟨[4, 1, 0, 1, 13, 0, 1, 1, 1, 11, 1, 1, 4, 1, 5, 4, 0, 1, 1, 1, 1, 1, 1, 1, 1], [], [], ⟨[.int], [(0, .kp 105), (1, .kp 98), (7, .kp 110), (8, .v .int)], [], [], []⟩, false, 0⟩, ⟨[1, 4, 0, 1, 1, 5, 4, 1, 0, 1, 13, 0, 1, 1, 1, 11, 1, 1, 4, 1, 5, 4, 0, 1, 1, 1, 1, 1, 1, 1, 1], [], [], ⟨[.bool], [(0, .kp 105), (1, .kp 98), (5, .kp 115), (7, .kp 110), (8, .kp 112), (16, .v .bool)], [], [], []⟩, true, 0⟩]
def ct44 : Ct DD := ⟨44, [34, 3], [43], [[false]], true, fun x Φ => Z84 x.1 x.2.1 fun y => Φ (y, ())⟩
def pl44 : List PE := []
def ct11 : Ct DD := ⟨11, [34, 3], [48, 4], [[false, false, false, true, true], [false]], false, fun x Φ => q75 x.1 x.2.1 fun y => Φ (y.1, y.2, ())⟩
def pl11 : List PE := [⟨[4, 1, 9, 4, 1, 0, 1, 1], [], [19, 18, 0], ⟨[.int], [(0, .kp 20), (1, .kp 22), (2, .kp 23), (7, .kp 25), (8, .kp 26), (9, .v .int)], [(2, 4, [.kp 8]), (1, 48, [.kp 9,.kp 10,.kp 11,.kp 12,.kp 13])], [], [(21, .jmp)]⟩, false, 0⟩, ⟨[0, 1, 4, 0, 1, 1, 5, 4, 1, 9, 4, 1, 0, 1, 1], [], [], ⟨[], [], [], [11], []⟩, false, 0⟩, ⟨[0, 1], [], [2, 1, 0], ⟨[.bool], [(1, .kp 4), (2, .kp 5), (4, .kp 6), (5, .kp 7), (17, .v .bool)], [], [], []⟩, true, 0⟩]
def ct31 : Ct DD := ⟨31, [29, 48], [29, 43], [[true], [false]], false, fun x Φ => q58 x.1 x.2.1 fun y => Φ (y.1, y.2, ())⟩
def pl31 : List PE := [⟨[4, 1, 0, 1, 1, 1], [], [0], ⟨[.int, .lst 3], [(0, .kp 1), (3, .kp 3), (7, .own 0), (19, .kp 12), (20, .kp 13), (21, .v .int)], [], [3], []⟩, false, 0⟩]
def ct50 : Ct DD := ⟨50, [34], [34], [[false, false, false, false]], false, fun x Φ => q39 x.1 fun y => Φ (y, ())⟩
def pl50 : List PE := [⟨[1, 1, 1, 1], [], [2, 1, 0], ⟨[.int], [(1, .kp 4), (2, .kp 5), (5, .v .int)], [], [], []⟩, true, 0⟩, ⟨[1, 1, 1], [], [2, 1, 0], ⟨[.int], [(1, .kp 4), (2, .kp 5), (5, .v .int)], [], [], []⟩, true, 0⟩, ⟨[4, 1, 0, 1, 13, 0, 1, 1, 1], [], [], ⟨[.int], [(0, .kp 17), (1, .kp 10), (7, .kp 21), (8, .v .int)], [], [], []⟩, false, 0⟩, ⟨[1, 4, 0, 1, 1, 5, 4, 1, 0, 1, 13, 0, 1, 1, 1], [], [], ⟨[.bool], [(0, .kp 17), (1, .kp 10), (5, .kp 26), (7, .kp 21), (8, .kp 23), (16, .v .bool)], [], [], []⟩, true, 0⟩]
def ct23 : Ct DD := ⟨23, [34, 3, 3], [34, 43], [[false, false, false, false], [false]], false, fun x Φ => Z93 x.1 x.2.1 x.2.2.1 fun y => Φ (y.1, y.2, ())⟩
def pl23 : List PE := [⟨[3, 1, 3, 1, 4, 0, 1, 1], [], [1, 0], ⟨[.bool], [(1, .kp 3), (2, .kp 4), (3, .kp 5), (6, .kp 6), (33, .v .bool)], [], [], []⟩, true, 0⟩]
def ct32 : Ct DD := ⟨32, [34, 3], [34, 43], [[false, false, false, false], [false]], false, fun x Φ => q225 x.1 x.2.1 fun y => Φ (y.1, y.2, ())⟩
def pl32 : List PE := []
def ct139 : Ct DD := ⟨139, [24, 24], [4], [[false]], true, fun x Φ => Z95 x.1 x.2.1 fun y => Φ (y, ())⟩
def pl139 : List PE := [⟨[4, 1, 0, 1, 1], [], [], ⟨[.int], [(0, .kp 0), (1, .kp 1), (12, .kp 9), (13, .v .int)], [], [], []⟩, false, 0⟩]
def ct116 : Ct DD := ⟨116, [29, 29], [43], [[false]], true, fun x Φ => q259 x.1 x.2.1 fun y => Φ (y, ())⟩
def pl116 : List PE := [⟨[4, 1, 0, 1], [], [0], ⟨[.int], [(0, .kp 1), (1, .kp 2), (10, .kp 6), (11, .kp 7), (12, .v .int)], [], [], []⟩, false, 0⟩]
def ct117 : Ct DD := ⟨117, [82, 82], [155], [[true]], false, fun x Φ => Z97 x.1 x.2.1 fun y => Φ (y, ())⟩
def pl117 : List PE := [⟨[4, 1, 9, 4, 1, 0, 1, 1, 1], [], [3, 2], ⟨[.int, .int, .lst 158], [(0, .kp 4), (1, .kp 6), (2, .kp 7), (6, .kp 9), (7, .v .int)], [(1, 3, [.v .int]), (0, 155, [.own 0])], [158], [(5, .jmp)]⟩, false, 0⟩, ⟨[0, 1, 4, 0, 1, 1, 5, 4, 1, 9, 4, 1, 0, 1, 1, 1], [], [], ⟨[], [], [], [12], []⟩, false, 0⟩]
def ct85 : Ct DD := ⟨85, [29, 29], [152, 43], [[true], [false]], false, fun x Φ => Z99 x.1 x.2.1 fun y => Φ (y.1, y.2, ())⟩
def pl85 : List PE := [⟨[4, 1, 0, 1, 1, 1], [], [], ⟨[.int, .lst 155], [(0, .kp 0), (1, .kp 1), (7, .own 0), (16, .kp 12), (17, .v .int)], [], [155], []⟩, false, 0⟩]
def ct33 : Ct DD := ⟨33, [29, 29], [25, 43], [[true], [false]], false, fun x Φ => q103 x.1 x.2.1 fun y => Φ (y.1, y.2, ())⟩
def pl33 : List PE := [⟨[4, 1, 0, 1, 1, 1, 1], [], [1, 0], ⟨[.int, .lst 89], [(3, .kp 4), (8, .own 0), (20, .kp 18), (21, .kp 19), (22, .v .int)], [], [89], []⟩, false, 0⟩, ⟨[4, 1, 0, 1, 1, 13, 1, 4, 0, 1, 1, 5, 4, 1, 0, 1, 1, 1, 1], [], [23, 22], ⟨[.int, .lst 89], [(1, .kp 26), (5, .own 0), (11, .kp 32), (12, .kp 33), (13, .v .int)], [], [89], []⟩, false, 0⟩]
def ct34 : Ct DD := ⟨34, [34, 3, 3], [34, 43], [[false, true, true, true], [false]], false, fun x Φ => q226 x.1 x.2.1 x.2.2.1 fun y => Φ (y.1, y.2, ())⟩
def pl34 : List PE := [⟨[0, 1, 1, 1, 1, 1], [37], [37], ⟨[], [(0, .kp 0), (1, .kp 0), (2, .kp 0), (3, .kp 0), (4, .kp 0), (5, .kp 0), (6, .kp 0)], [], [0, 0, 0, 1, 2, 3, 4, 5, 6, 7, 8, 9, 10], []⟩, false, 0⟩, ⟨[3, 1, 3, 1, 4, 0, 1, 1, 1], [], [1, 0], ⟨[.bool], [(1, .kp 3), (2, .kp 4), (3, .kp 5), (6, .kp 6), (39, .v .bool)], [], [], []⟩, true, 0⟩, ⟨[3, 1, 4, 0, 1, 1, 1], [], [1, 0], ⟨[.bool], [(1, .kp 3), (2, .kp 4), (3, .kp 5), (6, .kp 6), (9, .kp 17), (29, .v .bool)], [], [], []⟩, true, 0⟩]
def ct9 : Ct DD := ⟨9, [34], [3], [[false]], true, fun x Φ => Z104 x.1 fun y => Φ (y, ())⟩
def pl9 : List PE := []
def ct5 : Ct DD := ⟨5, [], [4], [[false]], true, fun _ Φ => Z119 fun y => Φ (y, ())⟩
def pl5 : List PE := [⟨[4, 1, 0, 1, 1], [101, 102, 103, 104], [105, 101, 102, 103, 104], ⟨[.int, .int, .lst 3, .lst 3, .lst 3, .lst 89, .int, .lst 82, .int, .lst 48, .lst 3, .lst 4, .lst 82, .lst 82, .lst 82, .int, .int, .int, .bool, .mp 3 29], [(1, .kp 106), (5, .kp 107), (6, .kp 108), (7, .v .int)], [(100, 38, [.v .int,.v (.lst 3),.v (.lst 3),.v (.lst 3),.v (.lst 89),.v .int,.v (.lst 82),.mpv 11,.v .int,.v (.lst 48),.v (.lst 3),.v (.lst 4),.v (.lst 82),.v (.lst 82),.v (.lst 82),.v .int,.v .int,.v .int,.v .bool])], [], [(11, .map 3 29 false false)]⟩, false, 0⟩, ⟨[0, 1, 1, 1, 2, 1, 4, 1, 0, 1, 1, 13, 1, 4, 0, 1, 1, 5, 4, 1, 0, 1, 1], [], [215, 214, 213, 209, 210, 211, 212, 208, 207, 131, 130, 129, 100, 11], ⟨[.bool], [(2, .kp 134), (4, .kp 136), (7, .kp 231), (9, .kp 241), (128, .v .bool)], [], [], []⟩, true, 0⟩, ⟨[1, 1, 1, 1, 1, 1, 2, 1, 3, 1, 3, 1, 4, 1, 0, 1, 1, 13, 1, 4, 0, 1, 1, 5, 4, 1, 0, 1, 1], [231, 213], [231, 213], ⟨[], [(0, .kp 0), (1, .kp 0), (2, .kp 0), (3, .kp 0), (4, .kp 0), (5, .kp 0), (6, .kp 0), (9, .kp 0), (11, .kp 0)], [], [0, 0, 0, 1, 2, 3, 4, 5, 6, 11, 7, 8, 9, 10, 12, 13], []⟩, false, 0⟩, ⟨[0, 1, 1, 1, 1, 1, 2, 1, 3, 1, 3, 1, 4, 1, 0, 1, 1, 13, 1, 4, 0, 1, 1, 5, 4, 1, 0, 1, 1], [], [231, 230, 213, 211, 212, 131, 130, 129, 100, 11], ⟨[.int, .bool], [(2, .kp 134), (4, .kp 136), (5, .v .int), (18, .kp 221), (20, .kp 233), (22, .kp 243), (253, .v .bool)], [], [], []⟩, true, 0⟩, ⟨[1, 1, 1, 2, 1, 3, 1, 3, 1, 4, 1, 0, 1, 1, 13, 1, 4, 0, 1, 1, 5, 4, 1, 0, 1, 1], [211, 212], [213, 211, 212, 131, 130, 129, 100, 11], ⟨[.int, .int, .lst 82], [(2, .kp 134), (4, .kp 136), (5, .v .int), (18, .kp 221), (20, .own 0), (21, .v .int)], [], [82], []⟩, true, 0⟩, ⟨[0, 2, 1, 3, 1, 3, 1, 4, 1, 0, 1, 1, 13, 1, 4, 0, 1, 1, 5, 4, 1, 0, 1, 1], [], [131, 130, 129, 100, 11], ⟨[.bool], [(2, .kp 134), (4, .kp 136), (5, .kp 141), (200, .v .bool)], [], [], []⟩, true, 0⟩, ⟨[0, 1, 1, 1, 3, 1, 3, 1, 3, 1, 3, 1, 4, 1, 0, 1, 1, 13, 1, 4, 0, 1, 1, 5, 4, 1, 0, 1, 1], [], [219, 215, 131, 130, 129, 100, 11], ⟨[.bool], [(2, .kp 134), (4, .kp 136), (5, .kp 220), (26, .kp 169), (29, .kp 221), (71, .v .bool)], [], [], []⟩, true, 0⟩, ⟨[1, 1, 3, 1, 3, 1, 3, 1, 3, 1, 4, 1, 0, 1, 1, 13, 1, 4, 0, 1, 1, 5, 4, 1, 0, 1, 1], [215], [215, 131, 130, 129, 100, 11], ⟨[.int, .int, .lst 82], [(2, .kp 134), (4, .kp 136), (5, .v .int), (26, .kp 169), (28, .kp 218), (29, .own 0), (31, .v .int)], [], [82], []⟩, true, 0⟩, ⟨[1, 3, 1, 3, 1, 3, 1, 3, 1, 4, 1, 0, 1, 1, 13, 1, 4, 0, 1, 1, 5, 4, 1, 0, 1, 1], [], [131, 130, 129, 100, 11], ⟨[.int, .int, .lst 89], [(2, .kp 134), (4, .kp 136), (5, .v .int), (26, .kp 169), (27, .own 0), (28, .v .int)], [], [89], []⟩, true, 0⟩, ⟨[3, 1, 3, 1, 4, 1, 0, 1, 1, 13, 1, 4, 0, 1, 1, 5, 4, 1, 0, 1, 1], [], [131, 130, 129, 100, 11], ⟨[.bool], [(2, .kp 134), (4, .kp 136), (5, .kp 141), (40, .kp 144), (185, .v .bool)], [], [], []⟩, true, 0⟩, ⟨[4, 1, 0, 1, 1, 13, 1, 4, 0, 1, 1, 5, 4, 1, 0, 1, 1], [], [131, 130, 129, 100, 11], ⟨[.bool], [(2, .kp 134), (3, .kp 135), (4, .kp 136), (5, .kp 141), (40, .kp 144), (94, .v .bool)], [], [], []⟩, true, 0⟩, ⟨[1], [], [], ⟨[.int, .lst 3, .lst 89, .int, .lst 82, .int, .lst 48, .lst 82, .lst 82, .lst 82, .int, .int, .int, .bool, .mp 3 29, .lst 3, .lst 3, .lst 3, .lst 4], [(1, .pv 100 0)], [(100, 38, [.v .int,.own 0,.own 1,.v (.lst 3),.v (.lst 89),.v .int,.v (.lst 82),.mpv 11,.v .int,.v (.lst 48),.own 2,.own 3,.v (.lst 82),.v (.lst 82),.v (.lst 82),.v .int,.v .int,.v .int,.v .bool])], [3, 3, 3, 4], [(11, .map 3 29 false false)]⟩, true, 100⟩, ⟨[4, 1, 0, 1, 1, 1, 1, 1, 10, 0, 1], [], [11, 10, 8, 9, 7, 5, 6, 4, 3, 2, 1], ⟨[.int, .lst 82, .lst 82, .lst 82], [(0, .kp 13), (1, .kp 19), (7, .kp 51), (8, .v .int)], [(12, 38, [.kp 53,.kp 54,.kp 55,.kp 56,.kp 57,.kp 58,.kp 59,.kp 60,.kp 61,.kp 62,.kp 63,.kp 64,.v (.lst 82),.v (.lst 82),.v (.lst 82),.kp 68,.kp 69,.kp 70,.kp 71])], [], []⟩, false, 0⟩, ⟨[4, 1, 0, 1, 1, 1, 1, 1, 10, 0, 1], [], [11, 10, 8, 9, 7, 5, 6, 4, 3, 2, 1], ⟨[.int, .lst 82, .lst 82, .lst 82], [(0, .kp 13), (1, .kp 19), (7, .kp 51), (8, .v .int)], [(12, 38, [.kp 53,.kp 54,.kp 55,.kp 56,.kp 57,.kp 58,.kp 59,.kp 60,.kp 61,.kp 62,.kp 63,.kp 64,.v (.lst 82),.v (.lst 82),.v (.lst 82),.kp 68,.kp 69,.kp 70,.kp 71])], [], []⟩, false, 0⟩, ⟨[4, 1, 0, 1, 1, 1, 1, 1, 10, 0, 1], [], [11, 10, 8, 9, 7, 5, 6, 4, 3, 2, 1], ⟨[.int, .lst 82, .lst 82, .lst 82], [(0, .kp 13), (1, .kp 19), (7, .kp 51), (8, .v .int)], [(12, 38, [.kp 53,.kp 54,.kp 55,.kp 56,.kp 57,.kp 58,.kp 59,.kp 60,.kp 61,.kp 62,.kp 63,.kp 64,.v (.lst 82),.v (.lst 82),.v (.lst 82),.kp 68,.kp 69,.kp 70,.kp 71])], [], []⟩, false, 0⟩]
def ct58 : Ct DD := ⟨58, [3], [4], [[false]], true, fun x Φ => q40 x.1 fun y => Φ (y, ())⟩
def pl58 : List PE := []
def ct96 : Ct DD := ⟨96, [3], [4], [[false]], true, fun x Φ => q104 x.1 fun y => Φ (y, ())⟩
def pl96 : List PE := []
def ct47 : Ct DD := ⟨47, [3, 3, 3], [4], [[false]], true, fun x Φ => Z120 x.1 x.2.1 x.2.2.1 fun y => Φ (y, ())⟩
def pl47 : List PE := []
def ct12 : Ct DD := ⟨12, [3, 3, 3], [54, 43], [[false, false, false, false, false], [false]], false, fun x Φ => Z121 x.1 x.2.1 x.2.2.1 fun y => Φ (y.1, y.2, ())⟩
def pl12 : List PE := []
def ct13 : Ct DD := ⟨13, [3, 3, 3], [58, 43], [[false, false, false, false], [false]], true, fun x Φ => Z122 x.1 x.2.1 x.2.2.1 fun y => Φ (y.1, y.2, ())⟩
def pl13 : List PE := []
def ct104 : Ct DD := ⟨104, [24, 3], [3], [[false]], true, fun x Φ => Z124 x.1 x.2.1 fun y => Φ (y, ())⟩
def pl104 : List PE := [⟨[4, 1, 0, 1], [], [], ⟨[.int], [(0, .kp 0), (1, .kp 1), (7, .kp 4), (8, .v .int)], [], [], []⟩, false, 0⟩]
def ct103 : Ct DD := ⟨103, [24, 3], [4], [[false]], true, fun x Φ => Z125 x.1 x.2.1 fun y => Φ (y, ())⟩
def pl103 : List PE := []
def ct52 : Ct DD := ⟨52, [54], [43], [[false]], true, fun x Φ => Z127 x.1 fun y => Φ (y, ())⟩
def pl52 : List PE := [⟨[4, 1, 0, 1, 1, 1, 1], [], [0], ⟨[.int, .int], [(1, .kp 2), (3, .v .int), (21, .kp 20), (22, .kp 21), (23, .v .int)], [], [], []⟩, false, 0⟩]
def ct16 : Ct DD := ⟨16, [54, 3], [54, 63, 43], [[false, false, false, false, false], [true], [false]], false, fun x Φ => Z129 x.1 x.2.1 fun y => Φ (y.1, y.2.1, y.2.2, ())⟩
def pl16 : List PE := [⟨[0, 1, 1, 1, 1, 1, 1, 1, 1], [30], [30], ⟨[], [], [], [], []⟩, false, 0⟩, ⟨[1, 1, 1], [], [1, 0], ⟨[.int], [(1, .kp 3), (2, .kp 4), (4, .kp 5), (8, .v .int)], [], [], []⟩, true, 0⟩]
def ct55 : Ct DD := ⟨55, [58], [43], [[false]], true, fun x Φ => Z131 x.1 fun y => Φ (y, ())⟩
def pl55 : List PE := [⟨[4, 0, 1], [], [0], ⟨[.bool], [(1, .kp 2), (3, .v .bool)], [], [], []⟩, true, 0⟩]
def ct62 : Ct DD := ⟨62, [123, 3, 3], [63], [[true]], false, fun x Φ => Z132 x.1 x.2.1 x.2.2.1 fun y => Φ (y, ())⟩
def pl62 : List PE := []
def ct56 : Ct DD := ⟨56, [123], [63], [[true]], false, fun x Φ => Z133 x.1 fun y => Φ (y, ())⟩
def pl56 : List PE := []
def ct17 : Ct DD := ⟨17, [58, 3], [58, 63, 43], [[false, false, false, false], [true], [false]], false, fun x Φ => Z134 x.1 x.2.1 fun y => Φ (y.1, y.2.1, y.2.2, ())⟩
def pl17 : List PE := []
def ct57 : Ct DD := ⟨57, [123], [63], [[true]], false, fun x Φ => Z135 x.1 fun y => Φ (y, ())⟩
def pl57 : List PE := []
def ct18 : Ct DD := ⟨18, [58, 3], [58, 63, 43], [[false, false, false, false], [true], [false]], false, fun x Φ => Z136 x.1 x.2.1 fun y => Φ (y.1, y.2.1, y.2.2, ())⟩
def pl18 : List PE := []
def ct19 : Ct DD := ⟨19, [54], [63], [[true]], false, fun x Φ => Z139 x.1 fun y => Φ (y, ())⟩
def pl19 : List PE := [⟨[4, 1, 0, 1, 1, 1, 1], [], [2, 1, 0], ⟨[.int, .lst 72], [(1, .kp 5), (3, .kp 12), (21, .kp 26), (22, .kp 31), (23, .v .int)], [(3, 119, [.kp 13,.kp 14,.kp 15,.kp 16,.kp 17,.own 0])], [72], []⟩, false, 0⟩, ⟨[1, 1, 1], [], [2, 1, 0], ⟨[.lst 72], [(1, .kp 5), (3, .kp 12)], [(3, 119, [.kp 13,.kp 14,.kp 15,.kp 16,.kp 17,.own 0])], [72], []⟩, true, 0⟩]
def ct20 : Ct DD := ⟨20, [54, 72], [54, 63], [[false, false, false, false, false], [true]], false, fun x Φ => Z145 x.1 x.2.1 fun y => Φ (y.1, y.2, ())⟩
def pl20 : List PE := [⟨[1, 1, 1, 1], [28], [31, 28, 27, 2, 1, 0], ⟨[.int, .lst 3, .int, .lst 72], [(4, .kp 7), (6, .kp 35)], [(29, 119, [.v .int,.kp 52,.v (.lst 3),.v .int,.kp 55,.own 0])], [72], []⟩, false, 0⟩, ⟨[13, 3, 1, 3, 1, 4, 0, 1, 1, 1, 1], [], [29], ⟨[.bool], [(0, .kp 62), (1, .kp 18), (19, .v .bool)], [], [], []⟩, false, 0⟩, ⟨[1, 1, 1, 1], [28], [32, 28, 27, 2, 1, 0], ⟨[.int, .lst 3, .int, .int], [(4, .kp 7), (6, .kp 36)], [(29, 119, [.v .int,.kp 53,.v (.lst 3),.v .int,.v .int,.kp 57])], [], []⟩, false, 0⟩, ⟨[0, 1, 1, 1, 1, 1], [64], [64], ⟨[], [], [], [], []⟩, false, 0⟩, ⟨[1, 1, 1, 1], [], [33, 27, 2, 1, 0], ⟨[.int, .int, .lst 3], [(4, .kp 7), (6, .kp 37)], [(29, 119, [.v .int,.kp 54,.own 0,.v .int,.kp 57,.kp 58])], [3], []⟩, false, 0⟩, ⟨[0, 1, 1, 1, 1, 1], [28], [28], ⟨[], [], [], [], []⟩, false, 0⟩, ⟨[0, 1], [], [2, 1, 0], ⟨[.bool], [(2, .kp 5), (3, .kp 6), (4, .kp 7), (31, .v .bool)], [], [], []⟩, true, 0⟩]
def ct21 : Ct DD := ⟨21, [58, 72], [58, 63], [[false, false, false, false], [true]], false, fun x Φ => Z148 x.1 x.2.1 fun y => Φ (y.1, y.2, ())⟩
def pl21 : List PE := [⟨[0, 1, 1, 1, 1, 1], [0, 29, 1], [0, 29, 1], ⟨[], [(0, .kp 0), (2, .kp 0), (3, .kp 0), (5, .kp 0), (6, .kp 0), (8, .kp 0), (9, .kp 0), (10, .kp 0)], [], [9, 0, 0, 2, 3, 5, 6, 9, 10, 1, 4, 7, 8, 11, 12, 13, 14, 7, 4, 8, 11, 12, 13, 14], []⟩, false, 0⟩, ⟨[1, 1, 1], [], [2, 1], ⟨[.int, .int], [(2, .kp 5), (3, .kp 6), (4, .kp 7)], [(0, 58, [.v .int,.kp 22,.v .int,.kp 24])], [], []⟩, true, 0⟩, ⟨[0, 1], [], [2, 1, 0], ⟨[.bool], [(2, .kp 5), (3, .kp 6), (4, .kp 7), (32, .v .bool)], [], [], []⟩, true, 0⟩]
def ct22 : Ct DD := ⟨22, [54], [3], [[false]], true, fun x Φ => Z149 x.1 fun y => Φ (y, ())⟩
def pl22 : List PE := []
def ct4 : Ct DD := ⟨4, [22, 52], [4], [[false]], true, fun x Φ => Z155 x.1 x.2.1 fun y => Φ (y, ())⟩
def pl4 : List PE := [⟨[4, 1, 0, 1, 1, 1, 1, 1, 1, 1, 1], [5, 6], [5, 6], ⟨[.int, .int, .int, .lst 48, .lst 3, .lst 4, .int, .int, .int, .int, .int, .int, .lst 3, .int, .int, .lst 72], [(0, .kp 0), (1, .kp 1), (5, .kp 13), (7, .kp 19), (9, .kp 25), (11, .own 0), (12, .v .int), (13, .v .int)], [(7, 34, [.v .int,.v (.lst 48),.v (.lst 3),.v (.lst 4)]), (4, 58, [.v .int,.v .int,.v .int,.v .int]), (3, 54, [.v .int,.v .int,.v (.lst 3),.v .int,.v .int])], [72], []⟩, false, 0⟩, ⟨[4, 1, 0, 1, 1, 1, 4, 0, 1, 5, 4, 1, 0, 1, 1, 1, 1, 1, 1, 1, 1], [], [7, 74], ⟨[.int, .int, .int, .int, .int, .int, .int, .lst 3, .int, .int, .lst 72], [(0, .kp 0), (1, .kp 1), (5, .kp 13), (7, .kp 19), (9, .kp 25), (11, .own 0), (12, .kp 77), (13, .kp 56), (30, .v .int)], [(4, 58, [.v .int,.v .int,.v .int,.v .int]), (3, 54, [.v .int,.v .int,.v (.lst 3),.v .int,.v .int])], [72], []⟩, false, 0⟩, ⟨[0, 5, 4, 1, 0, 1, 1, 1, 4, 0, 1, 5, 4, 1, 0, 1, 1, 1, 1, 1, 1, 1, 1], [], [4, 3, 95], ⟨[.bool], [(0, .kp 0), (1, .kp 1), (5, .kp 13), (7, .kp 19), (9, .kp 25), (11, .kp 96), (12, .kp 77), (13, .kp 56), (30, .kp 97), (192, .v .bool)], [], [], []⟩, true, 0⟩, ⟨[1, 4, 0, 1, 5, 4, 1, 0, 1, 1, 1, 1, 1, 1, 1, 1], [], [53], ⟨[.int, .int, .lst 48, .lst 3, .lst 4, .int, .int, .int, .int, .int, .int, .lst 3, .int, .int, .lst 72], [(0, .kp 0), (1, .kp 1), (5, .kp 13), (7, .kp 19), (9, .kp 25), (11, .kp 54), (12, .v .int), (13, .kp 56), (14, .own 0)], [(7, 34, [.v .int,.v (.lst 48),.v (.lst 3),.v (.lst 4)]), (4, 58, [.v .int,.v .int,.v .int,.v .int]), (3, 54, [.v .int,.v .int,.v (.lst 3),.v .int,.v .int])], [72], []⟩, true, 0⟩, ⟨[0, 1], [], [], ⟨[.bool], [(0, .kp 0), (1, .kp 1), (46, .v .bool)], [], [], []⟩, true, 0⟩]
def Eqn (cs : List (Ct DD)) (pl : List PE) (S : List (List Nat × Nat)) (K : List (Sk DD)) (c : Ct DD) : Prop := ∀ x Φ, c.W x Φ = topF ⟨Tryz.prog, tab, cs, pl, [], gh, [], S, K⟩ 9 c.f c.ps c.rs c.own x Φ
theorem eq5 : Eqn [ct9, ct11, ct14, ct15, ct23, ct24, ct25, ct26, ct27, ct28, ct29, ct30, ct31, ct32, ct33, ct34] pl5 [([8, 0, 0, 1, 1, 1, 1, 1, 2, 1, 3, 1, 3, 1, 4, 1, 0, 1, 1, 13, 1, 4, 0, 1, 1, 5, 4, 1, 0, 1, 1], 22500060003), ([8, 0, 1, 1, 1, 2, 1, 3, 1, 3, 1, 4, 1, 0, 1, 1, 13, 1, 4, 0, 1, 1, 5, 4, 1, 0, 1, 1], 20600060003), ([8, 0, 1, 3, 1, 3, 1, 3, 1, 3, 1, 4, 1, 0, 1, 1, 13, 1, 4, 0, 1, 1, 5, 4, 1, 0, 1, 1], 60003), ([8, 1, 1, 1, 1, 1, 1, 2, 1, 3, 1, 3, 1, 4, 1, 0, 1, 1, 13, 1, 4, 0, 1, 1, 5, 4, 1, 0, 1, 1], 60003), ([9, 12, 0, 1, 1, 3, 1, 3, 1, 3, 1, 3, 1, 4, 1, 0, 1, 1, 13, 1, 4, 0, 1, 1, 5, 4, 1, 0, 1, 1], 60003), ([9, 13, 4, 0, 1, 5, 4, 1, 0, 1, 1, 1, 1, 1, 10, 0, 1], 4100090003), ([9, 18, 2, 1, 1, 1, 1, 1, 1, 3, 1, 3, 1, 3, 1, 3, 1, 4, 1, 0, 1, 1, 13, 1, 4, 0, 1, 1, 5, 4, 1, 0, 1, 1], 86007800060003)] [] ct5 := fun x Φ => by kernel_rfl
theorem eq30 (x : TupD DD ct30.ps) (Φ : TupD DD ct30.rs → Prop) : ct30.W x Φ = topD ⟨Tryz.prog, tab, [ct24, ct67, ct68, ct82, ct84, ct90, ct108, ct111], pl30, [it112], gh, [], [([18, 0, 1, 4, 0, 1, 1, 5, 4, 1, 0, 1, 1, 12, 0, 1, 1, 1, 1, 1], 0)], []⟩ 9 ct30.f ct30.ps ct30.rs ct30.own x Φ := by kernel_rfl
theorem eq14 : Eqn [ct48] pl14 [] [] ct14 := fun x Φ => by kernel_rfl
theorem eq85 : Eqn [ct116, ct117] pl85 [] [] ct85 := fun x Φ => by kernel_rfl
theorem eqi112 (x : TupD DD it112.cs) (l : List (TupD DD it112.ts)) : it112.W x l = iterF ⟨Tryz.prog, tab, [], pl112, [], gh, [], [], []⟩ it112.f it112.cs it112.ts x l := by kernel_rfl
theorem eq55 : Eqn [ct58, ct96] pl55 [] [] ct55 := fun x Φ => by kernel_rfl
theorem eq32 : Eqn [ct44, ct49, ct50] pl32 [] [] ct32 := fun x Φ => by kernel_rfl
theorem eq104 : Eqn [] pl104 [] [] ct104 := fun x Φ => by kernel_rfl
theorem eq40 : Eqn [ct92] pl40 [] [] ct40 := fun x Φ => by kernel_rfl
theorem eq108 : Eqn [ct76, ct78] pl108 [] [] ct108 := fun x Φ => by kernel_rfl
theorem eq68 : Eqn [] pl68 [] [] ct68 := fun x Φ => by kernel_rfl
theorem eq56 : Eqn [ct62] pl56 [] [] ct56 := fun x Φ => by kernel_rfl
theorem eq107 : Eqn [] pl107 [] [] ct107 := fun x Φ => by kernel_rfl
theorem eq111 : Eqn [] pl111 [] [] ct111 := fun x Φ => by kernel_rfl
theorem eq4 : Eqn [ct5, ct11, ct12, ct13, ct14, ct15, ct16, ct17, ct18, ct19, ct20, ct21, ct22, ct23] pl4 [] [] ct4 := fun x Φ => by kernel_rfl
theorem eq91 : Eqn [ct24, ct108] pl91 [] [] ct91 := fun x Φ => by kernel_rfl
theorem eq11 : Eqn [ct44, ct46] pl11 [] [] ct11 := fun x Φ => by kernel_rfl
theorem eq49 : Eqn [ct46, ct68, ct98] pl49 [] [] ct49 := fun x Φ => by kernel_rfl
theorem eq24 : Eqn [ct64, ct66] pl24 [] [] ct24 := fun x Φ => by kernel_rfl
theorem eq109 : Eqn [ct135] pl109 [] [] ct109 := fun x Φ => by kernel_rfl
theorem eq44 : Eqn [ct8] pl44 [] [] ct44 := fun x Φ => by kernel_rfl
theorem eq13 : Eqn [ct47] pl13 [] [] ct13 := fun x Φ => by kernel_rfl
theorem eq57 : Eqn [ct62] pl57 [] [] ct57 := fun x Φ => by kernel_rfl
theorem eq94 : Eqn [] pl94 [] [] ct94 := fun x Φ => by kernel_rfl
theorem eq118 : Eqn [ct67] pl118 [] [] ct118 := fun x Φ => by kernel_rfl
theorem eq25 : Eqn [] pl25 [] [] ct25 := fun x Φ => by kernel_rfl
theorem eq15 (x : TupD DD ct15.ps) (Φ : TupD DD ct15.rs → Prop) : ct15.W x Φ = topF ⟨Tryz.prog, tab, [ct8, ct38, ct39, ct40, ct42, ct46, ct49], pl15, [], gh, [tn51], [], []⟩ 9 ct15.f ct15.ps ct15.rs ct15.own x Φ := by kernel_rfl
theorem eq33 : Eqn [ct85, ct88] pl33 [] [] ct33 := fun x Φ => by kernel_rfl
theorem eq27 : Eqn [ct25] pl27 [] [] ct27 := fun x Φ => by kernel_rfl
theorem eq50 : Eqn [ct42] pl50 [] [] ct50 := fun x Φ => by kernel_rfl
theorem eq26 : Eqn [ct24, ct67, ct68] pl26 [] [] ct26 := fun x Φ => by kernel_rfl
theorem eq39 : Eqn [ct24, ct67, ct90, ct91] pl39 [] [] ct39 := fun x Φ => by kernel_rfl
theorem eq17 : Eqn [ct55, ct56] pl17 [] [] ct17 := fun x Φ => by kernel_rfl
theorem eq42 : Eqn [ct94] pl42 [] [] ct42 := fun x Φ => by kernel_rfl
theorem eq47 : Eqn [ct58, ct96] pl47 [] [] ct47 := fun x Φ => by kernel_rfl
theorem eq62 : Eqn [] pl62 [] [] ct62 := fun x Φ => by kernel_rfl
theorem eq9 : Eqn [ct8, ct42] pl9 [] [] ct9 := fun x Φ => by kernel_rfl
theorem eq67 : Eqn [] pl67 [] [] ct67 := fun x Φ => by kernel_rfl
theorem eq58 : Eqn [] pl58 [] [] ct58 := fun x Φ => by kernel_rfl
theorem eq146 : Eqn [] pl146 [] [] ct146 := fun x Φ => by kernel_rfl
theorem eq82 (x : TupD DD ct82.ps) (Φ : TupD DD ct82.rs → Prop) : ct82.W x Φ = topF ⟨Tryz.prog, tab, [ct113, ct136], pl82, [], gh, [tn137], [([11, 0, 1, 1, 1, 1, 1, 1, 1, 12, 0, 1, 1], 0), ([16, 2, 1, 0, 1, 4, 0, 1, 1, 5, 4, 1, 0, 1, 1, 1, 1, 1, 1, 12, 0, 1, 1], 81002), ([17, 2, 1, 0, 1, 4, 0, 1, 1, 5, 4, 1, 0, 1, 1, 1, 1, 1, 1, 12, 0, 1, 1], 0)], []⟩ 9 ct82.f ct82.ps ct82.rs ct82.own x Φ := by kernel_rfl
theorem eq84 (x : TupD DD ct84.ps) (Φ : TupD DD ct84.rs → Prop) : ct84.W x Φ = topF ⟨Tryz.prog, tab, [ct67, ct75], pl84, [it112], gh, [], [], []⟩ 9 ct84.f ct84.ps ct84.rs ct84.own x Φ := by kernel_rfl
theorem eq34 : Eqn [ct40, ct41, ct42, ct44, ct49] pl34 [] [] ct34 := fun x Φ => by kernel_rfl
theorem eq23 : Eqn [ct44, ct49, ct50, ct63] pl23 [] [] ct23 := fun x Φ => by kernel_rfl
theorem eq74 : Eqn [ct68, ct75] pl74 [] [] ct74 := fun x Φ => by kernel_rfl
theorem eq31 : Eqn [ct29, ct39, ct76] pl31 [] [] ct31 := fun x Φ => by kernel_rfl
theorem eq64 : Eqn [ct107] pl64 [] [] ct64 := fun x Φ => by kernel_rfl
theorem eq113 : Eqn [] pl113 [] [] ct113 := fun x Φ => by kernel_rfl
theorem eq92 : Eqn [] pl92 [] [] ct92 := fun x Φ => by kernel_rfl
theorem eq138 : Eqn [ct148, ct149] pl138 [] [] ct138 := fun x Φ => by kernel_rfl
theorem eq12 : Eqn [ct47] pl12 [] [] ct12 := fun x Φ => by kernel_rfl
theorem eq136 : Eqn [] pl136 [] [] ct136 := fun x Φ => by kernel_rfl
theorem eq76 : Eqn [ct64, ct109] pl76 [] [] ct76 := fun x Φ => by kernel_rfl
theorem eq96 : Eqn [] pl96 [] [] ct96 := fun x Φ => by kernel_rfl
theorem eq20 : Eqn [ct52, ct58, ct68, ct103, ct104] pl20 [([10, 0, 1, 1, 1], 999), ([13, 0, 1, 1, 1], 999), ([16, 0, 1, 1, 1], 999), ([18, 0, 2, 1, 1, 13, 3, 1, 3, 1, 4, 0, 1, 1, 1, 1], 998), ([19, 0, 1, 1, 1], 999), ([23, 0, 1, 1, 1], 999)] [] ct20 := fun x Φ => by kernel_rfl
theorem eq21 : Eqn [ct55, ct58, ct62] pl21 [([11, 0, 1, 1, 1, 1, 1], 999), ([14, 0, 1, 1, 1, 1, 1], 999), ([17, 0, 1, 1, 1, 1, 1], 999), ([21, 0, 1, 1, 1, 1, 1], 999)] [] ct21 := fun x Φ => by kernel_rfl
theorem eq16 : Eqn [ct52, ct68] pl16 [] [] ct16 := fun x Φ => by kernel_rfl
theorem eq48 : Eqn [ct97] pl48 [] [] ct48 := fun x Φ => by kernel_rfl
theorem eq52 : Eqn [ct47, ct103] pl52 [] [] ct52 := fun x Φ => by kernel_rfl
theorem eq116 : Eqn [ct76, ct109, ct139] pl116 [] [] ct116 := fun x Φ => by kernel_rfl
theorem eq90 : Eqn [ct67, ct118] pl90 [] [] ct90 := fun x Φ => by kernel_rfl
theorem eq139 : Eqn [] pl139 [] [] ct139 := fun x Φ => by kernel_rfl
theorem eq63 : Eqn [] pl63 [] [] ct63 := fun x Φ => by kernel_rfl
theorem eq148 : Eqn [] pl148 [] [] ct148 := fun x Φ => by kernel_rfl
theorem eq88 : Eqn [] pl88 [] [] ct88 := fun x Φ => by kernel_rfl
theorem eq22 : Eqn [ct52] pl22 [] [] ct22 := fun x Φ => by kernel_rfl
theorem eq103 : Eqn [ct104] pl103 [] [] ct103 := fun x Φ => by kernel_rfl
theorem eq66 : Eqn [] pl66 [] [] ct66 := fun x Φ => by kernel_rfl
theorem eq38 : Eqn [ct48] pl38 [] [] ct38 := fun x Φ => by kernel_rfl
theorem eq8 : Eqn [ct35, ct38, ct39, ct40, ct41, ct42] pl8 [] [] ct8 := fun x Φ => by kernel_rfl
theorem eq28 (x : TupD DD ct28.ps) (Φ : TupD DD ct28.rs → Prop) : ct28.W x Φ = topD ⟨Tryz.prog, tab, [ct24, ct67, ct74, ct75, ct90, ct108], pl28, [], gh, [], [], []⟩ 9 ct28.f ct28.ps ct28.rs ct28.own x Φ := by kernel_rfl
theorem eq19 : Eqn [ct52, ct68] pl19 [] [] ct19 := fun x Φ => by kernel_rfl
theorem eq117 : Eqn [] pl117 [] [] ct117 := fun x Φ => by kernel_rfl
theorem eq46 : Eqn [ct68, ct88] pl46 [] [] ct46 := fun x Φ => by kernel_rfl
theorem eq78 : Eqn [] pl78 [] [] ct78 := fun x Φ => by kernel_rfl
theorem eq18 : Eqn [ct55, ct57] pl18 [] [] ct18 := fun x Φ => by kernel_rfl
theorem eq122 : Eqn [] pl122 [] [] ct122 := fun x Φ => by kernel_rfl
theorem eq149 : Eqn [ct146] pl149 [] [] ct149 := fun x Φ => by kernel_rfl
theorem eq41 : Eqn [ct40, ct63] pl41 [] [] ct41 := fun x Φ => by kernel_rfl
theorem eq98 : Eqn [] pl98 [] [] ct98 := fun x Φ => by kernel_rfl
theorem eq75 : Eqn [ct88] pl75 [] [] ct75 := fun x Φ => by kernel_rfl
theorem eq97 : Eqn [ct122] pl97 [] [] ct97 := fun x Φ => by kernel_rfl
theorem eq35 : Eqn [] pl35 [] [] ct35 := fun x Φ => by kernel_rfl
theorem eq135 : Eqn [] pl135 [] [] ct135 := fun x Φ => by kernel_rfl
section
theorem Below.grow {w w' : World} (h : Below w.heap.size w w') : ∃ q os, w' = Sort.grow (w.drewN q) os := by
  refine ⟨w'.drawn - w.drawn, w'.heap.extract w.heap.size w'.heap.size, ?_⟩; have hs := h.size; have hd := h.dr
  have e1 : w'.heap = w.heap ++ w'.heap.extract w.heap.size w'.heap.size := by
    apply Array.ext_getElem?
    intro i; by_cases hi : i < w.heap.size
    · rw [h.block i hi, Array.getElem?_append_left hi]
    · rw [Array.getElem?_append_right (by omega)]
      by_cases hj : i < w'.heap.size
      · rw [Array.getElem?_eq_getElem hj, Array.getElem?_eq_getElem (by simp; omega)]
        congr 1
        simp only [Array.getElem_extract]
        congr 1
        omega
      · rw [Array.getElem?_eq_none (by omega), Array.getElem?_eq_none (by simp; omega)]
  have e2 : w'.drawn = w.drawn + (w'.drawn - w.drawn) := by omega
  obtain ⟨heap, tape, drawn, os, output⟩ := w'; have h1 : os = w.os := h.os; have h2 : tape = w.tape := h.tape; have h3 : output = w.output := h.output; subst h1 h2 h3; unfold Sort.grow World.drewN; simp only at e1 e2 ⊢; rw [← e1, ← e2]
section
variable {α : Type} (le : α → α → Bool)
theorem q301 (x : α) : ∀ l : List α, (insG le x l).Perm (x :: l)
  | [] => List.Perm.refl _
  | y :: r => by
    unfold insG; cases le x y with
    | true => exact List.Perm.refl _
    | false => exact ((q301 x r).cons y).trans (List.Perm.swap x y r)
theorem q41 : ∀ l : List α, (sortG le l).Perm l
  | [] => List.Perm.refl _
  | x :: r => (q301 le x (sortG le r)).trans ((q41 r).cons x)
variable {le}
theorem q302 (ht : ∀ a b, le a b = true ∨ le b a = true) (htr : ∀ a b c, le a b = true → le b c = true → le a c = true) (x : α) : ∀ l : List α, l.Pairwise (fun a b => le a b = true) → (insG le x l).Pairwise (fun a b => le a b = true)
  | [], _ => by simp [insG]
  | y :: r, h => by
    have h1 := List.pairwise_cons.1 h; unfold insG; cases hxy : le x y with
    | true =>
      refine List.pairwise_cons.2 ⟨fun z hz => ?_, h⟩; rcases List.mem_cons.1 hz with rfl | hz
      · exact hxy
      · exact htr _ _ _ hxy (h1.1 z hz)
    | false =>
      refine List.pairwise_cons.2 ⟨fun z hz => ?_, q302 ht htr x r h1.2⟩; rcases List.mem_cons.1 ((q301 le x r).mem_iff.1 hz) with rfl | hz
      · exact (ht z y).resolve_left (by rw [hxy]; simp)
      · exact h1.1 z hz
theorem q123 (ht : ∀ a b, le a b = true ∨ le b a = true) (htr : ∀ a b c, le a b = true → le b c = true → le a c = true) : ∀ l : List α, (sortG le l).Pairwise (fun a b => le a b = true)
  | [] => List.Pairwise.nil
  | x :: r => q302 ht htr x _ (q123 ht htr r)
theorem q500 (ht : ∀ a b, le a b = true ∨ le b a = true) (htr : ∀ a b c, le a b = true → le b c = true → le a c = true) (ha : ∀ a b, le a b = true → le b a = true → a = b) {l m : List α} (hp : m.Perm l) (hs : m.Pairwise (fun a b => le a b = true)) : m = sortG le l :=
  List.Perm.eq_of_pairwise (le := fun a b => le a b = true) (fun _ _ _ _ h1 h2 => ha _ _ h1 h2) hs (q123 ht htr l) (hp.trans (q41 le l).symm)
end
section
variable {α : Type}
theorem q191 {enc : α → List Value} {k : Nat} (hk : ∀ x, (enc x).length = k) : ∀ l : List α, (l.flatMap enc).length = l.length * k
  | [] => by simp
  | x :: l => by rw [List.flatMap_cons, List.length_append, hk, q191 hk l, List.length_cons, Nat.succ_mul, Nat.add_comm]
theorem q303 {enc : α → List Value} {k : Nat} (hk : ∀ x, (enc x).length = k) : ∀ (l : List α) (t : Nat) (_ : t < l.length * k), (l.flatMap enc)[t]? = (l[t / k]?).bind fun x => (enc x)[t % k]?
  | [], t, h => by simp at h
  | x :: l, t, h => by
    have k0 : 0 < k := by rcases Nat.eq_zero_or_pos k with h0 | h0; · subst h0; simp at h
                          · exact h0
    rw [List.flatMap_cons]; by_cases ht : t < k
    · rw [List.getElem?_append_left (by rw [hk]; exact ht), Nat.div_eq_of_lt ht, Nat.mod_eq_of_lt ht]
      rfl
    · have e1 : t / k = (t - k) / k + 1 := by rw [Nat.div_eq_sub_div k0 (by omega)]
      have e2 : t % k = (t - k) % k := by rw [Nat.mod_eq_sub_mod (by omega)]
      rw [List.getElem?_append_right (by rw [hk]; omega), hk, q303 hk l (t - k) (by rw [List.length_cons, Nat.succ_mul] at h; omega), e1, e2]; rfl
variable [Inhabited α]
theorem q340 {enc : α → List Value} {k : Nat} (hk : ∀ x, (enc x).length = k) (d : Array α) : (Sort.flatK enc k d).toList = d.toList.flatMap enc := by
  have hl := q191 hk d.toList
  apply List.ext_getElem?
  intro t; by_cases ht : t < d.size * k
  · have k0 : 0 < k := by rcases Nat.eq_zero_or_pos k with h0 | h0; · subst h0; simp at ht
                          · exact h0
    have hd : t / k < d.size := (Nat.div_lt_iff_lt_mul k0).2 ht; have hm : t % k < k := Nat.mod_lt _ k0; rw [q303 hk _ t (by rw [Array.length_toList]; exact ht)]; have e1 := Sort.get_flatK enc k d t ht; have e2 : t < (Sort.flatK enc k d).size := by rw [Sort.size_flatK]; exact ht
    rw [getElem!_pos (Sort.flatK enc k d) t e2] at e1; rw [Array.getElem?_toList, Array.getElem?_eq_getElem e2, e1, Array.getElem?_toList, Array.getElem?_eq_getElem hd]; have e3 : d[t / k]! = d[t / k] := getElem!_pos d _ hd; rw [e3]; have e4 : t % k < (enc d[t / k]).length := by rw [hk]; exact hm
    show some ((enc d[t / k])[t % k]!) = (enc d[t / k])[t % k]?; rw [getElem!_pos (enc d[t / k]) _ e4, List.getElem?_eq_getElem e4]
  · rw [List.getElem?_eq_none, List.getElem?_eq_none]
    · rw [hl, Array.length_toList]; omega
    · rw [Array.length_toList, Sort.size_flatK]; omega
end
theorem DtL.enc {α : Type} [Dt α] {enc : α → List Value} (he : ∀ H cs (x : α), Dt.rd H cs x → cs = enc x) {H : Hp} : ∀ {xs : List α} {cs : List Value}, DtL H cs xs → cs = xs.flatMap enc
  | [], _, h => h
  | _ :: _, _, ⟨_, _, h, h1, h2⟩ => by rw [h, he _ _ _ h1, DtL.enc he h2]; rfl
theorem DtL.ofEnc {α : Type} [Dt α] {enc : α → List Value} (he : ∀ H (x : α), Dt.rd H (enc x) x) {H : Hp} : ∀ (xs : List α), DtL H (xs.flatMap enc) xs
  | [] => rfl
  | x :: xs => ⟨enc x, xs.flatMap enc, rfl, he H x, DtL.ofEnc he xs⟩
end
def cmpI (a b : Int) : Int := if a < b then -1 else if b < a then 1 else 0
def cmpP (a b : q9) : Int := if cmpI a.volume b.volume ≠ 0 then cmpI a.volume b.volume else cmpI a.sector b.sector
theorem q710 (a b : Int) {Φ : Int → Prop} (h : Φ (cmpI a b)) : Z31 a b Φ := by
  unfold cmpI at h; unfold Z31 Z30; refine ⟨fun e => absurd e (by simp), fun _ => ⟨fun e => absurd e (by simp), fun _ => ⟨fun e => ?_, fun e => ⟨fun e2 => ?_, fun e2 => ?_⟩⟩⟩⟩
  · rw [if_pos e] at h; exact h
  · rw [if_neg e, if_pos e2] at h; exact h
  · rw [if_neg e, if_neg e2] at h; exact h
theorem q597 (x y : q9) : Z32 x y fun v => v = cmpP x y := by
  unfold Z32; refine ⟨(cmpI x.volume y.volume, ()), q710 _ _ rfl, (cmpI x.sector y.sector, ()), q710 _ _ rfl, (cmpP x y, ()), ?_, rfl⟩; refine ⟨3, ⟨fun _ => ⟨⟨by decide, by simp⟩, fun h => ?_, fun h => ⟨by unfold inI; decide, ⟨fun _ => ⟨⟨by decide, by simp⟩, fun h2 => ?_, fun h2 => ⟨by unfold inI; decide, ⟨fun h3 => absurd h3 (by simp), fun _ => ?_⟩⟩⟩, fun h2 => absurd (show (0 + 1 : Int) < _ by simp) h2⟩⟩⟩, fun h => absurd (show (0 : Int) < _ by simp) h⟩⟩
  · have h : cmpI x.volume y.volume ≠ 0 := h
    show (cmpI x.volume y.volume, ()) = (cmpP x y, ())
    unfold cmpP; rw [if_pos h]
  · have h : ¬ (cmpI x.volume y.volume ≠ 0) := h
    show (cmpI x.sector y.sector, ()) = (cmpP x y, ())
    unfold cmpP; rw [if_neg h]
  · have h : ¬ (cmpI x.volume y.volume ≠ 0) := h
    have h2 : ¬ (cmpI x.sector y.sector ≠ 0) := h2; show ((0 : Int), ()) = (cmpP x y, ())
    unfold cmpP; rw [if_neg h, Decidable.not_not.1 h2]
theorem q598 {a b : Int} : cmpI a b < 0 ↔ a < b := by unfold cmpI; split <;> (try split) <;> omega
theorem cmpI_eq {a b : Int} : cmpI a b = 0 ↔ a = b := by unfold cmpI; split <;> (try split) <;> omega
theorem cmpP_lt {a b : q9} : cmpP a b < 0 ↔ a.volume < b.volume ∨ a.volume = b.volume ∧ a.sector < b.sector := by
  have h1 := q598 (a := a.volume) (b := b.volume); have h2 := cmpI_eq (a := a.volume) (b := b.volume); have h3 := q598 (a := a.sector) (b := b.sector); unfold cmpP
  split <;> omega
theorem ltP (a b : q9) : ltOf cmpP a b = decide (a.volume < b.volume ∨ a.volume = b.volume ∧ a.sector < b.sector) := by
  unfold ltOf; exact decide_eq_decide.2 cmpP_lt
theorem swoP : Sort.SWO (ltOf cmpP) where
  irrefl x := by rw [ltP]; simp
  trans x y z h1 h2 := by rw [ltP] at *; simp only [decide_eq_true_eq] at *; omega
  ntrans x y z h1 h2 := by rw [ltP] at *; simp only [decide_eq_false_iff_not] at *; omega
theorem q76 {x y : q9} (h1 : x.volume = y.volume) (h2 : x.sector = y.sector) : x = y := by
  cases x; cases y; simp only at h1 h2; subst h1 h2; rfl
theorem q525 : ∀ x y : q9, ltOf cmpP x y = false → ltOf cmpP y x = false → x = y := fun x y h1 h2 => by
  rw [ltP] at *; simp only [decide_eq_false_iff_not] at *; exact q76 (by omega) (by omega)
theorem q168 (a b : q9) : pleB a b = true ∨ pleB b a = true := by unfold pleB; simp only [decide_eq_true_eq]; omega
theorem q169 (a b c : q9) (h : pleB a b = true) (k : pleB b c = true) : pleB a c = true := by unfold pleB at *; simp only [decide_eq_true_eq] at *; omega
theorem q501 (a b : q9) (h : pleB a b = true) (k : pleB b a = true) : a = b := by unfold pleB at *; simp only [decide_eq_true_eq] at *; exact q76 (by omega) (by omega)
theorem mergeP (l : List q9) : (l.mergeSort fun x y => !(ltOf cmpP) y x) = sortG pleB l := by
  have e : (fun x y : q9 => !(ltOf cmpP) y x) = pleB := by
    funext x y
    rw [ltP]; unfold pleB; by_cases h : y.volume < x.volume ∨ y.volume = x.volume ∧ y.sector < x.sector
    · rw [decide_eq_true h, decide_eq_false (by omega)]; rfl
    · rw [decide_eq_false h, decide_eq_true (by omega)]; rfl
  rw [e]; exact q500 q168 q169 q501 (List.mergeSort_perm l _) (List.pairwise_mergeSort (fun a b c h k => q169 a b c h k) (fun a b => by have := q168 a b; simpa using this) l)
end Go.Proofs.YtpobhmleblaccaaGreat
