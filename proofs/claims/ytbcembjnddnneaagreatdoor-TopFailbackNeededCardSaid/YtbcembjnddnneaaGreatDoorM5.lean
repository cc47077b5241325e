/- Part 5 of the proof of the statement TopFailbackNeededCardSaid: lemmas. No condition of its own. -/
import Derived.SevenTiedAt
import Derived.Test.YtbcembjnddnneaaGreatDoorRows
import Derived.Test.YtbcembjnddnneaaGreatDoorTie
import Derived.Test.YtbcembjnddnneaaGreatDoorCards
import Derived.Test.YtbcembjnddnneaaGreatDoorProg
import Derived.CallsIn
import Derived.Shelf.SlIterI.Sorted
import Derived.Shelf.SortM.Plain
import Derived.Shelf.SortM.SortNone
import Derived.Ground.GgzProg
import Derived.Ground.SlgmProg
import Derived.Shelf.SlSortCmp.NoneTotal
import Derived.Test.YtbcembjnddnneaaGreatDoorM4
namespace Go.Proofs.YtbcembjnddnneaaGreatDoor
open Go.RowKit
section
section
variable {P : Program}
theorem lvM_rec {fn gn : Func} {R : Ending → World → Prop} {tm : Array Value} {g a b id : Nat} {ops : Array Oper} {rest : Code} {lb args : List Value} {ds : List Deferred} {u u' : FrameMode} {v : Value} {w : World} (hen : Enters P g) (hgn : P.funcs[g]? = some gn) (hbd : gn.body = some (.seq (.region id ops false) rest)) (hrec : recA ops.toList = some (a, b)) (hres : gn.results = #[])
    (ha : dstOk (some a) gn.ntmps = true) (hb : dstOk (some b) gn.ntmps = true) (hN : (args ++ lb).length ≤ gn.ntmps) (hm : (u = .returning ∧ v = .nilIface ∧ u' = .returning) ∨ (u = .panicking [⟨v, false, false⟩] ∧ u' = .panicking [⟨v, true, false⟩]))
    (h : CW none 0 P gn.ntmps rest (fun e D _ w' => (e = .ret ∨ e = .normal) ∧ D = [] ∧ LeavesInM Fence.wide 0 P fn tm R ds .returning w') [] (upd (upd (sl (enumA 0 (args ++ lb)) fun _ => undef) (some a) v) (some b) v) w) :
    LeavesInM Fence.wide 0 P fn tm R (⟨.fn (.func g) lb.toArray, args.toArray⟩ :: ds) u w := by
  have hu : u ≠ .run := by rcases hm with ⟨rfl, _⟩ | ⟨rfl, _⟩ <;> simp
  have hset : settle u' = .returning := by rcases hm with ⟨_, _, rfl⟩ | ⟨_, rfl⟩ <;> rfl
  refine ⟨hu, .inr ⟨fun h => by simp [Fence.wide] at h, .func g, lb.toArray, g, (args ++ lb).toArray, rfl, ?_, fun _ _ => trivial, ?_⟩⟩
  · have := hen (args ++ lb).toArray w
    simp [invoke] at this ⊢; exact this
  · refine callsDIn_of_wpSIn hgn hbd trivial fun c₀ cs hc => ?_
    obtain ⟨ts, ty, ps, af, ty', ps', af', hl⟩ := recA_ok hrec; obtain ⟨l⟩ := ops; have hl : l = _ := hl; subst hl; generalize hxs : (args ++ lb).toArray = xs at *; have hxl : xs.toList = args ++ lb := by rw [← hxs]
    have hN' : xs.size ≤ gn.ntmps := by rw [← hxs, List.size_toArray]; exact hN
    rw [← hxl] at h
    have fin : ∀ cs', cs' = { c₀ with mode := u' } :: cs → rest.wpSIn Fence.wide (0 - 1) P (bodyPostS P gn c₀ cs fun
          | .returned _, u', w' => LeavesInM Fence.wide 0 P fn tm R ds (settle u') w'
          | .panicked chain, u', w' => LeavesInM Fence.wide 0 P fn tm R ds (raised u' chain) w'
          | .outgrown, _, w' => R .outgrown w') ((({ tmps := xs ++ Array.replicate (gn.ntmps - xs.size) undef, defers := [] } : Act).put (some a) v).put (some b) v) cs' w := by
      rintro _ rfl
      refine wpSIn_of_wpIn rfl (wpIn_mono (h _ (((q113 xs gn.ntmps hN').put ha v).put hb v)) ?_)
      rintro e a' w' ⟨D', σ', h1, he, hD, hL⟩
      have hd : a'.defers = [] := h1.1.trans hD; have hr : (results gn a'.tmps).run P w' = .ok (.tuple #[]) w' := by rw [results_none hres]
      rcases he with rfl | rfl
      · exact ⟨hd, u', rfl, .tuple #[], hr, (show LeavesInM Fence.wide 0 P fn tm R ds (settle u') w' by rw [hset]; exact hL)⟩
      · exact ⟨hd, u', rfl, .tuple #[], hr, (show LeavesInM Fence.wide 0 P fn tm R ds (settle u') w' by rw [hset]; exact hL)⟩
    have hev : (({ tmps := xs ++ Array.replicate (gn.ntmps - xs.size) undef, defers := [] } : Act).put (some a) v).eval (.tmp a) = v := by
      rw [((q113 xs gn.ntmps hN').put ha v).eval]; show (bif Nat.beq a a then v else _) = v; rw [Nat.beq_refl]; rfl
    refine wpSIn_seq (wpSIn_region ?_); refine And.intro (fun _ _ => trivial) ?_
    show (match recoverD (c₀ :: cs) with
      | some (v, cs') => wpOpsSIn _ _ _ _ _ [1] (Act.put _ (some a) v) cs' w
      | none => wpOpsSIn _ _ _ _ _ [1] (Act.put _ (some a) .nilIface) (c₀ :: cs) w)
    rcases hm with ⟨hu1, rfl, rfl⟩ | ⟨hu1, rfl⟩
    · have hrd : recoverD (c₀ :: cs) = none := by simp [recoverD, hc, hu1]
      rw [hrd]; refine And.intro (fun _ _ => trivial) ?_; rw [if_pos (show Region.wanted _ _ = true from rfl)]; show wpOpsSIn _ _ _ _ _ [] (Act.put _ (some b) (Act.eval _ (.tmp a))) _ w; rw [hev]; exact fin _ (by rw [← hu1, ← hc])
    · have hrd : recoverD (c₀ :: cs) = some (v, { c₀ with mode := .panicking [⟨v, true, false⟩] } :: cs) := by simp [recoverD, hc, hu1]
      rw [hrd]; refine And.intro (fun _ _ => trivial) ?_; rw [if_pos (show Region.wanted _ _ = true from rfl)]; show wpOpsSIn _ _ _ _ _ [] (Act.put _ (some b) (Act.eval _ (.tmp a))) _ w; rw [hev]; exact fin _ rfl
theorem q695 {fn gn : Func} {R : Ending → World → Prop} {tm : Array Value} {g : Nat} {c : Code} {lb args : List Value} {ds : List Deferred} {w : World} (hen : Enters P g) (hgn : P.funcs[g]? = some gn) (hbd : gn.body = some c) (hres : gn.results = #[]) (hN : (args ++ lb).length ≤ gn.ntmps)
    (h : CW none 0 P gn.ntmps c (fun e D _ w' => (e = .ret ∨ e = .normal) ∧ D = [] ∧ LeavesInM Fence.wide 0 P fn tm R ds .returning w') [] (sl (enumA 0 (args ++ lb)) fun _ => undef) w) :
    LeavesInM Fence.wide 0 P fn tm R (⟨.fn (.func g) lb.toArray, args.toArray⟩ :: ds) .returning w := by
  refine ⟨by simp, .inr ⟨fun h => by simp [Fence.wide] at h, .func g, lb.toArray, g, (args ++ lb).toArray, rfl, ?_, fun _ _ => trivial, ?_⟩⟩
  · have := hen (args ++ lb).toArray w
    simp [invoke] at this ⊢; exact this
  · refine callsDIn_of_wpSIn hgn hbd trivial fun c₀ cs hc => ?_
    generalize hxs : (args ++ lb).toArray = xs at *; have hxl : xs.toList = args ++ lb := by rw [← hxs]
    have hN' : xs.size ≤ gn.ntmps := by rw [← hxs, List.size_toArray]; exact hN
    rw [← hxl] at h; refine wpSIn_of_wpIn rfl (wpIn_mono (h _ (q113 xs gn.ntmps hN')) ?_)
    rintro e a' w' ⟨D', σ', h1, he, hD, hL⟩
    have hd : a'.defers = [] := h1.1.trans hD; have hr : (results gn a'.tmps).run P w' = .ok (.tuple #[]) w' := by rw [results_none hres]
    have hc0 : c₀ :: cs = { c₀ with mode := .returning } :: cs := by rw [← hc]
    rcases he with rfl | rfl
    · exact ⟨hd, .returning, hc0, .tuple #[], hr, hL⟩
    · exact ⟨hd, .returning, hc0, .tuple #[], hr, hL⟩
end
section
variable {D : Nat → Type} [∀ t, Dt (D t)]
variable {E : Env D} {w0 w : World} {H0 H : Hp} {ρ : RM} {L : List Ent} {st : St D} {σ : Nat → Value}
def plnF (E : Env D) (n : Nat) (g : Nat) (caps : List (SV D)) (st : St D) (K : St D → Prop) : Prop := match E.P.funcs[g]? with
  | some gn => match gn.body with
    | some c => cdP (entB E.P g && (Nat.ble caps.length gn.ntmps && Nat.beq gn.results.size 0)) (runC E (callX E n) gn.ntmps true c [2, 9] [] ⟨q76 0 caps, st.bk, st.kn, st.nx⟩ fun e st' => cdP (isEnd e) (K ⟨st.sl, st'.bk, st'.kn, st'.nx⟩) False) False
    | none => False
  | none => False
theorem q696 (hE : E.Ok) (n : Nat) (h0 : E.G H0) {fn : Func} {R : Ending → World → Prop} {g : Nat} {vs : List (SV D)} {lb args : List Value} {ds : List Deferred} {v : Value} {u u' : FrameMode} {tm : Array Value} {K : St D → Prop} (h : cloF E n g vs v st K) (hs : Sat [] [] w0 H0 [] H ρ L st σ w) (hcs : RvL H ρ (args ++ lb) vs)
    (hm : (u = .returning ∧ v = .nilIface ∧ u' = .returning) ∨ (u = .panicking [⟨v, false, false⟩] ∧ u' = .panicking [⟨v, true, false⟩]))
    (hk : ∀ st4 H4 ρ4 L4 w4, K st4 → H.le H4 → RM.le ρ ρ4 → Sat [] [] w0 H0 [] H4 ρ4 L4 st4 σ w4 → LeavesInM Fence.wide 0 E.P fn tm R ds .returning w4) :
    LeavesInM Fence.wide 0 E.P fn tm R (⟨.fn (.func g) lb.toArray, args.toArray⟩ :: ds) u w := by
  unfold cloF at h
  split at h
  · rename_i gn hgn
    split at h
    · rename_i id ops rest hbd
      split at h
      · rename_i a b hrec
        obtain ⟨hq, h⟩ := cifP h; simp only [Bool.and_eq_true] at hq; obtain ⟨q0, q1, q2, q3, q4⟩ := hq; have hl := RvL.length hcs; refine lvM_rec (q154 q0) hgn hbd hrec (Array.eq_empty_of_size_eq_zero (Nat.eq_of_beq_eq_true q4)) q2 q3 (by have := Nat.le_of_ble_eq_true q1; omega) hm ?_; have hsl : SlR H ρ (setS (setS (q76 0 vs) a (.c v)) b (.c v)) (upd (upd (sl (enumA 0 (args ++ lb)) fun _ => undef) (some a) v) (some b) v) := ((q90 hcs).put (v := .c v) (show v = v from rfl) (some a)).put (v := .c v) (show v = v from rfl) (some b); have hs1 : Sat [] [] w0 H0 (mkO [] ++ []) H ρ L (⟨setS (setS (q76 0 vs) a (.c v)) b (.c v), st.bk, st.kn, st.nx⟩ : St D) (upd (upd (sl (enumA 0 (args ++ lb)) fun _ => undef) (some a) v) (some b) v) w := ⟨hs.mem, hsl, hs.bk, hs.fr, hs.kn, hs.nx⟩
        refine q346 (rd := true) (ms := []) (B := []) (R := []) hE h0 rest (q209 hE h0 n) (fun t => Bool.noConfusion t) hs1 h fun e => ?_; intro ms' st5 σ5 w5 H5 ρ5 L5 hk5 hmm hle hρ hs5; obtain rfl : ms' = [] := hmm rfl; obtain ⟨he, hk5⟩ := cifP hk5; exact ⟨q130 he, rfl, hk _ H5 ρ5 L5 w5 hk5 hle hρ ⟨hs5.mem, hs.sl.mono hle hρ, hs5.bk, hs5.fr, hs5.kn, hs5.nx⟩⟩
      · exact h.elim
    · exact h.elim
  · exact h.elim
theorem plnF_ok (hE : E.Ok) (n : Nat) (h0 : E.G H0) {fn : Func} {R : Ending → World → Prop} {g : Nat} {vs : List (SV D)} {lb args : List Value} {ds : List Deferred} {tm : Array Value} {K : St D → Prop} (h : plnF E n g vs st K) (hs : Sat [] [] w0 H0 [] H ρ L st σ w) (hcs : RvL H ρ (args ++ lb) vs)
    (hk : ∀ st4 H4 ρ4 L4 w4, K st4 → H.le H4 → RM.le ρ ρ4 → Sat [] [] w0 H0 [] H4 ρ4 L4 st4 σ w4 → LeavesInM Fence.wide 0 E.P fn tm R ds .returning w4) :
    LeavesInM Fence.wide 0 E.P fn tm R (⟨.fn (.func g) lb.toArray, args.toArray⟩ :: ds) .returning w := by
  unfold plnF at h
  split at h
  · rename_i gn hgn
    split at h
    · rename_i c hbd
      obtain ⟨hq, h⟩ := cifP h; simp only [Bool.and_eq_true] at hq; obtain ⟨q0, q1, q4⟩ := hq; have hl := RvL.length hcs; refine q695 (q154 q0) hgn hbd (Array.eq_empty_of_size_eq_zero (Nat.eq_of_beq_eq_true q4)) (by have := Nat.le_of_ble_eq_true q1; omega) ?_; have hs1 : Sat [] [] w0 H0 (mkO [] ++ []) H ρ L (⟨q76 0 vs, st.bk, st.kn, st.nx⟩ : St D) (sl (enumA 0 (args ++ lb)) fun _ => undef) w := ⟨hs.mem, q90 hcs, hs.bk, hs.fr, hs.kn, hs.nx⟩
      refine q346 (rd := true) (ms := []) (B := []) (R := []) hE h0 c (q209 hE h0 n) (fun t => Bool.noConfusion t) hs1 h fun e => ?_; intro ms' st5 σ5 w5 H5 ρ5 L5 hk5 hmm hle hρ hs5; obtain rfl : ms' = [] := hmm rfl; obtain ⟨he, hk5⟩ := cifP hk5; exact ⟨q130 he, rfl, hk _ H5 ρ5 L5 w5 hk5 hle hρ ⟨hs5.mem, hs.sl.mono hle hρ, hs5.bk, hs5.fr, hs5.kn, hs5.nx⟩⟩
    · exact h.elim
  · exact h.elim
theorem RW.deferA {r : Option Nat} {md : Nat} {P : Program} {N : Nat} {Q : Exit → List Deferred → (Nat → Value) → World → Prop} {D : List Deferred} {σ : Nat → Value} {w : World} {ops : Array Oper} {l : List Oper} {ty : TypeId} {pos : String} {af : Array Edge} {gd : Option (Nat × Bool)} {g : Operand} {xs : Array Operand} {ts : Array TypeId} {f : FuncId} {lb : Array Value} (hf : ev σ g = .func (.func f) #[] lb) (hr : r = none) (hg : gdOk ops σ gd = true) (K : RW r md P N ops l Q (⟨.fn (.func f) lb, (xs.toList.map (ev σ)).toArray⟩ :: D) σ w) : RW r md P N ops (⟨none, .defer ⟨.value g, xs, ts⟩, ty, pos, af, gd⟩ :: l) Q D σ w := by
  subst hr; intro a ha; have hw := q58 (ops := ops) ha (o := ⟨none, .defer ⟨.value g, xs, ts⟩, ty, pos, af, gd⟩); unfold wpListIn; rw [hw, if_pos hg]; refine ⟨fun f _ => trivial, ?_⟩; have hs : Oper.semAt (FR none).round a.eval ⟨none, .defer ⟨.value g, xs, ts⟩, ty, pos, af, gd⟩ = execOp a.eval ⟨none, .defer ⟨.value g, xs, ts⟩, ty, pos, af, gd⟩ := Oper.semAt_none _ _
  have hx : xs.map (ev σ) = (xs.toList.map (ev σ)).toArray := by
    apply Array.ext'
    simp
  have hrun : (execOp (ev σ) ⟨none, .defer ⟨.value g, xs, ts⟩, ty, pos, af, gd⟩).run P w = .ok (.defer ⟨.fn (.func f) lb, (xs.toList.map (ev σ)).toArray⟩) w := by
    simp only [execOp, resolve, hf, Deferred.ofValue]; simp; exact hx
  rw [hs, ha.eval, hrun]; refine K _ ⟨?_, ha.2.1, ha.2.2⟩; show _ :: a.defers = _; rw [ha.1]
def dfrG : Oper → Option (Nat × List Operand)
  | ⟨none, .defer ⟨.value (.func g), xs, _⟩, _, _, _, none⟩ => some (g, xs.toList)
  | _ => none
theorem dfrG_ok {o : Oper} {g : Nat} {l : List Operand} (h : dfrG o = some (g, l)) : ∃ xs ts ty ps af, o = ⟨none, .defer ⟨.value (.func g), xs, ts⟩, ty, ps, af, none⟩ ∧ xs.toList = l := by
  unfold dfrG at h
  split at h
  · rename_i g' xs ts ty ps af
    cases h; exact ⟨xs, ts, ty, ps, af, rfl, rfl⟩
  · cases h
def topE (E : Env D) (n : Nat) (f : Nat) (ps rs : List Nat) (own : List (List Bool)) (x : TupD D ps) (Φ : TupD D rs → Prop) : Prop := match tupC E.tb ps x with
  | some ls => match packs E.P ps ls with
    | some vs => match E.P.funcs[f]? with
      | some fn => match fn.body with
        | some (.seq (.region _ ops1 false) (.seq (.region _ ops2 false) (.seq (.region _ ops3 false) rest))) => cdP (Nat.ble vs.length fn.ntmps) (runR E (callX E n) fn.ntmps [] [0] ops1 0 ops1.toList ⟨q76 0 vs, [], [], 0⟩ (fun st1 => match ops2.toList with
          | [o1, o2] => match dfrT o2 with
            | some t => cdP (dstOk o1.dst fn.ntmps && o1.guard.isNone) (stepE E (callX E n) [] [10, 0, 1] o1 st1 (fun st2 => match getS st2.sl t with
              | some (.fn g1 caps1) => match ops3.toList with
                | [o3] => match dfrG o3 with
                  | some (g2, xs) => match mapO (evO st2.sl) xs with
                    | some vs2 => runC E (callX E n) fn.ntmps false rest [1, 1, 1] [] st2 fun e st3 => match panV e with
                      | some v => cloF E n g2 vs2 v st3 fun st4 => plnF E n g1 caps1 st4 (retF E.P E.tb fn rs own Φ)
                      | none => cdP (isEnd e) (cloF E n g2 vs2 .nilIface st3 fun st4 => plnF E n g1 caps1 st4 (retF E.P E.tb fn rs own Φ)) False
                    | none => False
                  | none => False
                | _ => False
              | _ => False) fun _ _ => False) False
            | none => False
          | _ => False) fun _ _ => False) False
        | _ => False
      | none => False
    | none => False
  | none => False
theorem Ct.liftE (hE : E.Ok) (n : Nat) (c : Ct D) (h : ∀ x Φ, c.W x Φ → topE E n c.f c.ps c.rs c.own x Φ) : c.Ok E.P E.tb E.G := by
  intro x Φ hW H vs hGH hA; have hF := h x Φ hW; unfold topE at hF
  split at hF
  · rename_i ls hls
    split at hF
    · rename_i svs hsv
      split at hF
      · rename_i fn hfn
        split at hF
        · rename_i id1 ops1 id2 ops2 id3 ops3 rest hcd
          obtain ⟨hN, hF⟩ := cifP hF; obtain ⟨cs, g1, g2⟩ := q156 (ρ := fun _ => none) hE.tb hA hls; have g3 := q208 g1 g2 hsv; refine RetP.of_codeD hfn hcd (by have := Nat.le_of_ble_eq_true hN; simpa [RvL.length g3] using this) fun w hM => ?_; have hs0 : Sat [] [] w H [] H (fun _ => none) [] (⟨q76 0 svs, [], [], 0⟩ : St D) (sl (enumA 0 vs) fun _ => undef) w := ⟨hM, q90 g3, rfl, rfl, (fun _ _ h => nomatch h), fun _ _ => rfl⟩
          obtain ⟨l1⟩ := ops1; refine CW.seq (CW.region (q425 hE hGH (q209 hE hGH n) hs0 hF ?_ fun _ _ _ _ _ _ _ hf => hf.elim)); intro st1 σ1 w1 H1 ρ1 L1 hk le1 le2 hs1
          split at hk
          · rename_i o1 o2 hops
            split at hk
            · rename_i t ht
              obtain ⟨hgd, hk⟩ := cifP hk; rw [Bool.and_eq_true] at hgd; obtain ⟨l2⟩ := ops2; have hops : l2 = [o1, o2] := hops; subst hops
              have hgo : gdOk (Array.mk [o1, o2]) σ1 o1.guard = true := by
                cases hg : o1.guard with
                | none => rfl
                | some j => rw [hg] at hgd; exact absurd hgd.2 (by simp)
              refine CW.seq (CW.region (q424 hE hGH (q209 hE hGH n) hs1 hk hgo hgd.1 ?_ fun _ _ _ _ _ _ _ hf => hf.elim)); intro st2 σ2 w2 H2 ρ2 L2 hk2 le3 le4 hs2
              split at hk2
              · rename_i gc capc hgt
                obtain ⟨ts, ty, ps, af, rfl⟩ := dfrT_ok ht; obtain ⟨cv, e1, e2⟩ := hs2.sl _ _ hgt; refine RW.defer e1 rfl rfl (RW.nil ?_)
                split at hk2
                · rename_i o3 hop3
                  split at hk2
                  · rename_i gr xs hdg
                    split at hk2
                    · rename_i vs2 hvs2
                      obtain ⟨l3⟩ := ops3; have hop3 : l3 = [o3] := hop3; subst hop3; obtain ⟨xs', ts', ty', ps', af', rfl, hxs⟩ := dfrG_ok hdg; have hargs := q249 hs2 hvs2; rw [← hxs] at hargs; refine CW.seq (CW.region (RW.deferA (lb := #[]) rfl rfl rfl (RW.nil ?_))); refine q346 (ms := []) (B := [⟨.fn (.func gr) [].toArray, (xs'.toList.map (ev σ2)).toArray⟩, ⟨.fn (.func gc) cv.toArray, #[]⟩]) (R := []) hE hGH rest (q209 hE hGH n) (fun _ => ⟨rfl, rfl⟩) hs2 hk2 fun e => ?_; intro ms' st3 σ3 w3 H3 ρ3 L3 hk3 _ le5 le6 hs3; intro a hra; have hd : a.defers = mkD ms' ++ [⟨.fn (.func gr) [].toArray, (xs'.toList.map (ev σ2)).toArray⟩, ⟨.fn (.func gc) cv.toArray, #[]⟩] := hra.1; have hM3 := hs3.mem.perm (q429 _ _ _ _); have hrp : ∀ D', Rep fn.ntmps D' σ3 { tmps := a.tmps, defers := D' } := fun D' => ⟨rfl, hra.2.1, hra.2.2⟩
                      have more : ∀ st4 H4 ρ4 L4 w4, plnF E n gc capc st4 (retF E.P E.tb fn c.rs c.own Φ) → H3.le H4 → RM.le ρ3 ρ4 → Sat [] [] w H [] H4 ρ4 L4 st4 σ3 w4 → LeavesInM Fence.wide 0 E.P fn a.tmps (fun e w' => ∃ v, e = .returned v ∧ ∃ H' L', Mem w H w' H' L' ∧ ∃ y, Φ y ∧ ResR E.P E.tb c.rs c.own y H' v L') [⟨.fn (.func gc) cv.toArray, #[]⟩] .returning w4 := fun st4 H4 ρ4 L4 w4 h4 q1 q2 q3 =>
                        plnF_ok (args := []) hE n hGH h4 q3 (RvL.mono (le5.trans q1) (le6.trans q2) _ e2) fun st5 H5 ρ5 L5 w5 h5 r1 r2 r3 => by
                          obtain ⟨ux, H6, S, i1, i2, y, i3, i4⟩ := retF_ok hE h5 r3; exact ⟨q248 ux, i1 { tmps := a.tmps, defers := [] } (hrp []), q248 ux, rfl, H6, S, i2, y, i3, i4⟩
                      have hargs3 : RvL H3 ρ3 (xs'.toList.map (ev σ2) ++ []) vs2 := by rw [List.append_nil]; exact RvL.mono le5 le6 _ hargs
                      cases hp : panV e with
                      | some v =>
                        obtain rfl := panV_ok hp; rw [hp] at hk3; show LeavesInM _ _ _ _ _ _ a.defers _ _; rw [hd]; exact q347 (by simp) ms' hM3 fun w4 hw4 => q696 hE n hGH hk3 (hs3.reR hw4) hargs3 (.inr ⟨rfl, rfl⟩) more
                      | none =>
                        rw [hp] at hk3; obtain ⟨he, hk3⟩ := cifP hk3
                        have fin : LeavesInM Fence.wide 0 E.P fn a.tmps (fun e w' => ∃ v, e = .returned v ∧ ∃ H' L', Mem w H w' H' L' ∧ ∃ y, Φ y ∧ ResR E.P E.tb c.rs c.own y H' v L') a.defers .returning w3 := by
                          rw [hd]; exact q347 (by simp) ms' hM3 fun w4 hw4 => q696 hE n hGH hk3 (hs3.reR hw4) hargs3 (.inl ⟨rfl, rfl, rfl⟩) more
                        rcases q130 he with rfl | rfl
                        · exact fin
                        · exact fin
                    · exact hk2.elim
                  · exact hk2.elim
                · exact hk2.elim
              · exact hk2.elim
            · exact hk.elim
          · exact hk.elim
        · exact hF.elim
      · exact hF.elim
    · exact hF.elim
  · exact hF.elim
end
end
end Go.Proofs.YtbcembjnddnneaaGreatDoor
namespace Go.Proofs.YtbcembjnddnneaaGreatDoor
def insZ (x : Int) : List Int → List Int
  | [] => [x]
  | y :: r => if x ≤ y then x :: y :: r else y :: insZ x r
def sortZ : List Int → List Int
  | [] => []
  | x :: r => insZ x (sortZ r)
theorem q348 (x : Int) : ∀ l : List Int, (insZ x l).Perm (x :: l)
  | [] => List.Perm.refl _
  | y :: r => by
    unfold insZ
    split
    · exact List.Perm.refl _
    · exact ((q348 x r).cons y).trans (List.Perm.swap x y r)
theorem q210 : ∀ l : List Int, (sortZ l).Perm l
  | [] => List.Perm.refl _
  | x :: r => (q348 x (sortZ r)).trans ((q210 r).cons x)
theorem q349 (x : Int) : ∀ l : List Int, l.Pairwise (fun a b => a ≤ b) → (insZ x l).Pairwise (fun a b => a ≤ b)
  | [], _ => by simp [insZ]
  | y :: r, h => by
    have h1 := List.pairwise_cons.1 h; unfold insZ
    split
    · rename_i hxy
      refine List.pairwise_cons.2 ⟨fun b hb => ?_, h⟩; rcases List.mem_cons.1 hb with rfl | hb
      · exact hxy
      · exact Int.le_trans hxy (h1.1 b hb)
    · rename_i hxy
      refine List.pairwise_cons.2 ⟨fun b hb => ?_, q349 x r h1.2⟩; rcases List.mem_cons.1 ((q348 x r).mem_iff.1 hb) with rfl | hb
      · omega
      · exact h1.1 b hb
theorem q193 : ∀ l : List Int, (sortZ l).Pairwise fun a b => a ≤ b
  | [] => List.Pairwise.nil
  | x :: r => q349 x _ (q193 r)
end Go.Proofs.YtbcembjnddnneaaGreatDoor
namespace Go.Proofs.YtbcembjnddnneaaGreatDoor
open Go.RowKit
structure q10 where
  Volume : Int
  Start : Int
  Data : List Sec
  deriving DecidableEq
instance dt_api_Write : Dt q10 where
  default := ⟨0, 0, []⟩
  sz := 3
  rd H cs x := ∃ A0 n0 c0 s0, cs = [.int .i64 (x.Volume), .int .i64 (x.Start), .slice A0 n0 c0] ∧ Fz H A0 n0 c0 x.Data s0
  len := fun ⟨A0, n0, c0, s0, h, h0⟩ => by rw [h]; rfl
  mono := fun ⟨A0, n0, c0, s0, h, h0⟩ hle => ⟨A0, n0, c0, s0, h, h0.mono hle⟩
  one := fun ⟨A0, n0, c0, s0, h, h0⟩ => by rw [h]; exact q112 ⟨rfl, rfl, rfl, trivial⟩
structure q14 where
  Common : List (List Sec)
  Old : List q10
  New : List q10
  Rounds : List (List q10)
  deriving DecidableEq
instance dt_standbytop_RunLoss : Dt q14 where
  default := ⟨[], [], [], []⟩
  sz := 4
  rd H cs x := ∃ A0 n0 c0 s0, ∃ A1 n1 c1 s1, ∃ A2 n2 c2 s2, ∃ A3 n3 c3 s3, cs = [.slice A0 n0 c0, .slice A1 n1 c1, .slice A2 n2 c2, .slice A3 n3 c3] ∧ Fz H A0 n0 c0 x.Common s0 ∧ Fz H A1 n1 c1 x.Old s1 ∧ Fz H A2 n2 c2 x.New s2 ∧ Fz H A3 n3 c3 x.Rounds s3
  len := fun ⟨A0, n0, c0, s0, A1, n1, c1, s1, A2, n2, c2, s2, A3, n3, c3, s3, h, h0, h1, h2, h3⟩ => by rw [h]; rfl
  mono := fun ⟨A0, n0, c0, s0, A1, n1, c1, s1, A2, n2, c2, s2, A3, n3, c3, s3, h, h0, h1, h2, h3⟩ hle => ⟨A0, n0, c0, s0, A1, n1, c1, s1, A2, n2, c2, s2, A3, n3, c3, s3, h, h0.mono hle, h1.mono hle, h2.mono hle, h3.mono hle⟩
  one := fun ⟨A0, n0, c0, s0, A1, n1, c1, s1, A2, n2, c2, s2, A3, n3, c3, s3, h, h0, h1, h2, h3⟩ => by rw [h]; exact q112 ⟨rfl, rfl, rfl, rfl, trivial⟩
structure q23 where
  Epoch : Int
  From : Int
  To : Int
  deriving DecidableEq
instance dt_api_Span : Dt q23 where
  default := ⟨0, 0, 0⟩
  sz := 3
  rd H cs x := cs = [.int .i64 (x.Epoch), .int .i64 (x.From), .int .i64 (x.To)]
  len h := by rw [h]; rfl
  mono h _ := h
  one h := by rw [h]; exact q112 ⟨rfl, rfl, rfl, trivial⟩
structure q9 where
  Size : Int
  Words : List (BitVec 64)
  deriving DecidableEq
instance dt_api_Bitmap : Dt q9 where
  default := ⟨0, []⟩
  sz := 2
  rd H cs x := ∃ A0 n0 c0 s0, cs = [.int .i64 (x.Size), .slice A0 n0 c0] ∧ Fz H A0 n0 c0 x.Words s0
  len := fun ⟨A0, n0, c0, s0, h, h0⟩ => by rw [h]; rfl
  mono := fun ⟨A0, n0, c0, s0, h, h0⟩ hle => ⟨A0, n0, c0, s0, h, h0.mono hle⟩
  one := fun ⟨A0, n0, c0, s0, h, h0⟩ => by rw [h]; exact q112 ⟨rfl, rfl, trivial⟩
structure q16 where
  Site : Int
  Lineage : List q23
  Dirty : List q9
  Image : List (List Sec)
  deriving DecidableEq
instance dt_api_Point : Dt q16 where
  default := ⟨0, [], [], []⟩
  sz := 4
  rd H cs x := ∃ A0 n0 c0 s0, ∃ A1 n1 c1 s1, ∃ A2 n2 c2 s2, cs = [.int .i64 (x.Site), .slice A0 n0 c0, .slice A1 n1 c1, .slice A2 n2 c2] ∧ Fz H A0 n0 c0 x.Lineage s0 ∧ Fz H A1 n1 c1 x.Dirty s1 ∧ Fz H A2 n2 c2 x.Image s2
  len := fun ⟨A0, n0, c0, s0, A1, n1, c1, s1, A2, n2, c2, s2, h, h0, h1, h2⟩ => by rw [h]; rfl
  mono := fun ⟨A0, n0, c0, s0, A1, n1, c1, s1, A2, n2, c2, s2, h, h0, h1, h2⟩ hle => ⟨A0, n0, c0, s0, A1, n1, c1, s1, A2, n2, c2, s2, h, h0.mono hle, h1.mono hle, h2.mono hle⟩
  one := fun ⟨A0, n0, c0, s0, A1, n1, c1, s1, A2, n2, c2, s2, h, h0, h1, h2⟩ => by rw [h]; exact q112 ⟨rfl, rfl, rfl, rfl, trivial⟩
structure q12 where
  Site : Int
  Common : Int
  Dirty : List q9
  deriving DecidableEq
instance dt_api_Peer : Dt q12 where
  default := ⟨0, 0, []⟩
  sz := 3
  rd H cs x := ∃ A0 n0 c0 s0, cs = [.int .i64 (x.Site), .int .i64 (x.Common), .slice A0 n0 c0] ∧ Fz H A0 n0 c0 x.Dirty s0
  len := fun ⟨A0, n0, c0, s0, h, h0⟩ => by rw [h]; rfl
  mono := fun ⟨A0, n0, c0, s0, h, h0⟩ hle => ⟨A0, n0, c0, s0, h, h0.mono hle⟩
  one := fun ⟨A0, n0, c0, s0, h, h0⟩ => by rw [h]; exact q112 ⟨rfl, rfl, rfl, trivial⟩
structure q13 where
  Sizes : List Int
  Peers : List q12
  deriving DecidableEq
instance dt_api_Tracker : Dt q13 where
  default := ⟨[], []⟩
  sz := 2
  rd H cs x := ∃ A0 n0 c0 s0, ∃ A1 n1 c1 s1, cs = [.slice A0 n0 c0, .slice A1 n1 c1] ∧ Fz H A0 n0 c0 x.Sizes s0 ∧ Fz H A1 n1 c1 x.Peers s1
  len := fun ⟨A0, n0, c0, s0, A1, n1, c1, s1, h, h0, h1⟩ => by rw [h]; rfl
  mono := fun ⟨A0, n0, c0, s0, A1, n1, c1, s1, h, h0, h1⟩ hle => ⟨A0, n0, c0, s0, A1, n1, c1, s1, h, h0.mono hle, h1.mono hle⟩
  one := fun ⟨A0, n0, c0, s0, A1, n1, c1, s1, h, h0, h1⟩ => by rw [h]; exact q112 ⟨rfl, rfl, trivial⟩
structure q8 where
  Start : Int
  Count : Int
  deriving DecidableEq
instance dt_api_Extent : Dt q8 where
  default := ⟨0, 0⟩
  sz := 2
  rd H cs x := cs = [.int .i64 (x.Start), .int .i64 (x.Count)]
  len h := by rw [h]; rfl
  mono h _ := h
  one h := by rw [h]; exact q112 ⟨rfl, rfl, trivial⟩
structure q26 where
  Kind : Int
  From : Int
  To : Int
  Step : Int
  Epoch : Int
  Cycle : Int
  Done : Bool
  Failed : Bool
  deriving DecidableEq
instance dt_api_Procedure : Dt q26 where
  default := ⟨0, 0, 0, 0, 0, 0, false, false⟩
  sz := 8
  rd H cs x := cs = [.int .i64 (x.Kind), .int .i64 (x.From), .int .i64 (x.To), .int .i64 (x.Step), .int .i64 (x.Epoch), .int .i64 (x.Cycle), .bool x.Done, .bool x.Failed]
  len h := by rw [h]; rfl
  mono h _ := h
  one h := by rw [h]; exact q112 ⟨rfl, rfl, rfl, rfl, rfl, rfl, rfl, rfl, trivial⟩
structure q11 where
  at_ : Int
  list : Int
  step : Int
  deriving DecidableEq
instance dt_extent_end : Dt q11 where
  default := ⟨0, 0, 0⟩
  sz := 3
  rd H cs x := cs = [.int .i64 (x.at_), .int .i64 (x.list), .int .i64 (x.step)]
  len h := by rw [h]; rfl
  mono h _ := h
  one h := by rw [h]; exact q112 ⟨rfl, rfl, rfl, trivial⟩
structure q21 where
  Base : Int
  Number : Int
  Time : Int
  Positions : List Int
  Writes : List q10
  deriving DecidableEq
instance dt_api_Cycle : Dt q21 where
  default := ⟨0, 0, 0, [], []⟩
  sz := 5
  rd H cs x := ∃ A0 n0 c0 s0, ∃ A1 n1 c1 s1, cs = [.int .i64 (x.Base), .int .i64 (x.Number), .int .i64 (x.Time), .slice A0 n0 c0, .slice A1 n1 c1] ∧ Fz H A0 n0 c0 x.Positions s0 ∧ Fz H A1 n1 c1 x.Writes s1
  len := fun ⟨A0, n0, c0, s0, A1, n1, c1, s1, h, h0, h1⟩ => by rw [h]; rfl
  mono := fun ⟨A0, n0, c0, s0, A1, n1, c1, s1, h, h0, h1⟩ hle => ⟨A0, n0, c0, s0, A1, n1, c1, s1, h, h0.mono hle, h1.mono hle⟩
  one := fun ⟨A0, n0, c0, s0, A1, n1, c1, s1, h, h0, h1⟩ => by rw [h]; exact q112 ⟨rfl, rfl, rfl, rfl, rfl, trivial⟩
instance dtUnit : Dt Unit where
  default := ()
  sz := 0
  rd _ cs _ := cs = []
  len h := by rw [h]; rfl
  mono h _ := h
  one h := by rw [h]; intro u hu; cases hu
structure TyR where
  α : Type
  inst : Dt α
def tyOf (t : Nat) : TyR := bif Nat.beq t 4 then ⟨Bool, inferInstance⟩ else bif Nat.beq t 108 then ⟨Sec, inferInstance⟩ else bif Nat.beq t 92 then ⟨List Sec, inferInstance⟩ else bif Nat.beq t 115 then ⟨q10, inferInstance⟩ else bif Nat.beq t 24 then ⟨List q10, inferInstance⟩ else bif Nat.beq t 27 then ⟨q14, inferInstance⟩ else bif Nat.beq t 23 then ⟨List (List Sec), inferInstance⟩ else bif Nat.beq t 3 then ⟨Int, inferInstance⟩ else bif Nat.beq t 42 then ⟨Int, inferInstance⟩ else bif Nat.beq t 33 then ⟨List Int, inferInstance⟩ else bif Nat.beq t 22 then ⟨List (List Sec), inferInstance⟩ else bif Nat.beq t 74 then ⟨q23, inferInstance⟩ else bif Nat.beq t 197 then ⟨BitVec 64, inferInstance⟩ else bif Nat.beq t 166 then ⟨q9, inferInstance⟩ else bif Nat.beq t 32 then ⟨q16, inferInstance⟩ else bif Nat.beq t 154 then ⟨q12, inferInstance⟩ else bif Nat.beq t 36 then ⟨q13, inferInstance⟩ else bif Nat.beq t 30 then ⟨List q9, inferInstance⟩ else bif Nat.beq t 34 then ⟨List q12, inferInstance⟩ else bif Nat.beq t 130 then ⟨List Bool, inferInstance⟩ else bif Nat.beq t 164 then ⟨List (BitVec 64), inferInstance⟩ else bif Nat.beq t 97 then ⟨q8, inferInstance⟩ else bif Nat.beq t 29 then ⟨List q23, inferInstance⟩ else bif Nat.beq t 40 then ⟨q26, inferInstance⟩ else bif Nat.beq t 55 then ⟨List q8, inferInstance⟩ else bif Nat.beq t 41 then ⟨List (List q8), inferInstance⟩ else bif Nat.beq t 149 then ⟨q11, inferInstance⟩ else bif Nat.beq t 145 then ⟨List q11, inferInstance⟩ else bif Nat.beq t 48 then ⟨q21, inferInstance⟩ else bif Nat.beq t 61 then ⟨List q21, inferInstance⟩ else ⟨Unit, dtUnit⟩
abbrev DD (t : Nat) : Type := (tyOf t).α
instance dtDD (t : Nat) : Dt (DD t) := (tyOf t).inst
def xI : SV DD → Option Int
 | .i .i64 n => some n
 | _ => none
def xW : SV DD → Option (BitVec 64)
 | .w x => some x
 | _ => none
def xY : SV DD → Option (BitVec 8)
 | .y x => some x
 | _ => none
def xT : SV DD → Option ByteArray
 | .st x => some x
 | _ => none
def xS (e : Nat) : SV DD → Option (List (DD e))
 | .fsl e' xs => castL e' e xs
 | .nil => some []
 | _ => none
theorem xI_cq {a : SV DD} {n : Int} (h : xI a = some n) : CQ a (.i .i64 n) := by
  unfold xI at h
  split at h
  · cases h; exact .inr ⟨rfl, rfl, fun _ _ _ h => h⟩
  · cases h
theorem xW_cq {a : SV DD} {n : BitVec 64} (h : xW a = some n) : CQ a (.w n) := by
  unfold xW at h
  split at h
  · cases h; exact .inr ⟨rfl, rfl, fun _ _ _ h => h⟩
  · cases h
theorem xY_cq {a : SV DD} {n : BitVec 8} (h : xY a = some n) : CQ a (.y n) := by
  unfold xY at h
  split at h
  · cases h; exact .inr ⟨rfl, rfl, fun _ _ _ h => h⟩
  · cases h
theorem xB_cq {a : SV DD} {n : Bool} (h : q298 a = some n) : CQ a (.b n) := by
  cases a <;> first | (cases h; exact .inr ⟨rfl, rfl, fun _ _ _ h => h⟩) | cases h
theorem xS_cq {e : Nat} {a : SV DD} {n : List (DD e)} (h : xS e a = some n) : CQ a (.fsl e n) := by
  unfold xS at h
  split at h
  · obtain ⟨he, h1⟩ := q105 h
    subst he; subst h1; exact .inl ⟨_, _, rfl, .inl rfl⟩
  · cases h; exact .inl ⟨_, _, rfl, .inr ⟨rfl, rfl⟩⟩
  · cases h
theorem bindS {α β : Type} {o : Option α} {f : α → Option β} {x : β} (h : o.bind f = some x) : ∃ v, o = some v ∧ f v = some x := Option.bind_eq_some_iff.1 h
def ofc4 : List (SV DD) → Option (DD 4)
 | [a0] => (q298 a0).bind fun v0 => some v0
 | _ => none
def ce4 : CE DD := ⟨4, fun x => [.b (x)], ofc4, none⟩
theorem ceOk4 : ce4.Ok where
  rdi := @fun H ρ cs x => ⟨fun h => by
    obtain h := (show Dt.rd (α := Bool) H cs x from h)
    subst h; exact ⟨_, _, rfl, rfl, rfl⟩, fun h => by
    obtain ⟨v0, r0, e0, p0, e⟩ := h; have e : r0 = [] := e; subst e; subst e0; have p0 : v0 = _ := p0; subst p0
    exact (show Dt.rd (α := Bool) H _ x from rfl)⟩
  cq := @fun l x h => by
    change ofc4 l = some x at h; unfold ofc4 at h
    split at h
    · obtain ⟨v0, h0, h⟩ := bindS h
      cases h; exact ⟨_, _, rfl, xB_cq h0, rfl⟩
    · cases h
  eqc := fun d a b c1 c2 hd h1 h2 => by cases hd
def q697 : List (SV DD) → Option (DD 108)
 | [a0, a1, a2, a3, a4, a5, a6, a7] => (xY a0).bind fun v0 => (xY a1).bind fun v1 => (xY a2).bind fun v2 => (xY a3).bind fun v3 => (xY a4).bind fun v4 => (xY a5).bind fun v5 => (xY a6).bind fun v6 => (xY a7).bind fun v7 => some ⟨v0, v1, v2, v3, v4, v5, v6, v7⟩
 | _ => none
def ce108 : CE DD := ⟨108, fun x => [.y (x.b0), .y (x.b1), .y (x.b2), .y (x.b3), .y (x.b4), .y (x.b5), .y (x.b6), .y (x.b7)], q697, some (inferInstanceAs (DecidableEq Sec))⟩
theorem sc108 (a b : Sec) : (([.i .u8 ((a.b0).toNat : Int), .i .u8 ((a.b1).toNat : Int), .i .u8 ((a.b2).toNat : Int), .i .u8 ((a.b3).toNat : Int), .i .u8 ((a.b4).toNat : Int), .i .u8 ((a.b5).toNat : Int), .i .u8 ((a.b6).toNat : Int), .i .u8 ((a.b7).toNat : Int)] : List Sc) = [.i .u8 ((b.b0).toNat : Int), .i .u8 ((b.b1).toNat : Int), .i .u8 ((b.b2).toNat : Int), .i .u8 ((b.b3).toNat : Int), .i .u8 ((b.b4).toNat : Int), .i .u8 ((b.b5).toNat : Int), .i .u8 ((b.b6).toNat : Int), .i .u8 ((b.b7).toNat : Int)]) ↔ a = b := by
  cases a; cases b; simp [← BitVec.toNat_inj]; omega
theorem ceOk108 : ce108.Ok where
  rdi := @fun H ρ cs x => ⟨fun h => by
    obtain h := (show Dt.rd (α := Sec) H cs x from h)
    subst h; exact ⟨_, _, rfl, rfl, _, _, rfl, rfl, _, _, rfl, rfl, _, _, rfl, rfl, _, _, rfl, rfl, _, _, rfl, rfl, _, _, rfl, rfl, _, _, rfl, rfl, rfl⟩, fun h => by
    obtain ⟨v0, r0, e0, p0, v1, r1, e1, p1, v2, r2, e2, p2, v3, r3, e3, p3, v4, r4, e4, p4, v5, r5, e5, p5, v6, r6, e6, p6, v7, r7, e7, p7, e⟩ := h; have e : r7 = [] := e; subst e; subst e7; subst e6; subst e5; subst e4; subst e3; subst e2; subst e1; subst e0; have p0 : v0 = _ := p0; subst p0; have p1 : v1 = _ := p1; subst p1; have p2 : v2 = _ := p2; subst p2; have p3 : v3 = _ := p3; subst p3; have p4 : v4 = _ := p4; subst p4; have p5 : v5 = _ := p5; subst p5; have p6 : v6 = _ := p6; subst p6; have p7 : v7 = _ := p7; subst p7
    exact (show Dt.rd (α := Sec) H _ x from rfl)⟩
  cq := @fun l x h => by
    change q697 l = some x at h; unfold q697 at h
    split at h
    · obtain ⟨v0, h0, h⟩ := bindS h
      obtain ⟨v1, h1, h⟩ := bindS h; obtain ⟨v2, h2, h⟩ := bindS h; obtain ⟨v3, h3, h⟩ := bindS h; obtain ⟨v4, h4, h⟩ := bindS h; obtain ⟨v5, h5, h⟩ := bindS h; obtain ⟨v6, h6, h⟩ := bindS h; obtain ⟨v7, h7, h⟩ := bindS h; cases h; exact ⟨_, _, rfl, xY_cq h0, _, _, rfl, xY_cq h1, _, _, rfl, xY_cq h2, _, _, rfl, xY_cq h3, _, _, rfl, xY_cq h4, _, _, rfl, xY_cq h5, _, _, rfl, xY_cq h6, _, _, rfl, xY_cq h7, rfl⟩
    · cases h
  eqc := fun d a b c1 c2 hd h1 h2 => by
    cases h1; cases h2; exact sc108 a b
def ofc92 : List (SV DD) → Option (DD 92)
 | [a0] => (xS 108 a0).bind fun v0 => some v0
 | _ => none
def ce92 : CE DD := ⟨92, fun x => [.fsl 108 (x)], ofc92, none⟩
theorem ceOk92 : ce92.Ok where
  rdi := @fun H ρ cs x => ⟨fun h => by
    obtain ⟨A0, n0, c0, s0, h, h0⟩ := (show Dt.rd (α := List Sec) H cs x from h)
    subst h; exact ⟨_, _, rfl, ⟨A0, n0, c0, s0, rfl, h0⟩, rfl⟩, fun h => by
    obtain ⟨v0, r0, e0, ⟨A0, n0, c0, s0, p0, h0⟩, e⟩ := h; have e : r0 = [] := e; subst e; subst e0; subst p0
    exact (show Dt.rd (α := List Sec) H _ x from ⟨A0, n0, c0, s0, rfl, h0⟩)⟩
  cq := @fun l x h => by
    change ofc92 l = some x at h; unfold ofc92 at h
    split at h
    · obtain ⟨v0, h0, h⟩ := bindS h
      cases h; exact ⟨_, _, rfl, xS_cq h0, rfl⟩
    · cases h
  eqc := fun d a b c1 c2 hd h1 h2 => by cases hd
def q698 : List (SV DD) → Option (DD 115)
 | [a0, a1, a2] => (xI a0).bind fun v0 => (xI a1).bind fun v1 => (xS 108 a2).bind fun v2 => some ⟨v0, v1, v2⟩
 | _ => none
def ce115 : CE DD := ⟨115, fun x => [.i .i64 (x.Volume), .i .i64 (x.Start), .fsl 108 (x.Data)], q698, none⟩
theorem ceOk115 : ce115.Ok where
  rdi := @fun H ρ cs x => ⟨fun h => by
    obtain ⟨A0, n0, c0, s0, h, h0⟩ := (show Dt.rd (α := q10) H cs x from h)
    subst h; exact ⟨_, _, rfl, rfl, _, _, rfl, rfl, _, _, rfl, ⟨A0, n0, c0, s0, rfl, h0⟩, rfl⟩, fun h => by
    obtain ⟨v0, r0, e0, p0, v1, r1, e1, p1, v2, r2, e2, ⟨A0, n0, c0, s0, p2, h0⟩, e⟩ := h; have e : r2 = [] := e; subst e; subst e2; subst e1; subst e0; have p0 : v0 = _ := p0; subst p0; have p1 : v1 = _ := p1; subst p1; subst p2
    exact (show Dt.rd (α := q10) H _ x from ⟨A0, n0, c0, s0, rfl, h0⟩)⟩
  cq := @fun l x h => by
    change q698 l = some x at h; unfold q698 at h
    split at h
    · obtain ⟨v0, h0, h⟩ := bindS h
      obtain ⟨v1, h1, h⟩ := bindS h; obtain ⟨v2, h2, h⟩ := bindS h; cases h; exact ⟨_, _, rfl, xI_cq h0, _, _, rfl, xI_cq h1, _, _, rfl, xS_cq h2, rfl⟩
    · cases h
  eqc := fun d a b c1 c2 hd h1 h2 => by cases hd
def ofc24 : List (SV DD) → Option (DD 24)
 | [a0] => (xS 115 a0).bind fun v0 => some v0
 | _ => none
def ce24 : CE DD := ⟨24, fun x => [.fsl 115 (x)], ofc24, none⟩
theorem ceOk24 : ce24.Ok where
  rdi := @fun H ρ cs x => ⟨fun h => by
    obtain ⟨A0, n0, c0, s0, h, h0⟩ := (show Dt.rd (α := List q10) H cs x from h)
    subst h; exact ⟨_, _, rfl, ⟨A0, n0, c0, s0, rfl, h0⟩, rfl⟩, fun h => by
    obtain ⟨v0, r0, e0, ⟨A0, n0, c0, s0, p0, h0⟩, e⟩ := h; have e : r0 = [] := e; subst e; subst e0; subst p0
    exact (show Dt.rd (α := List q10) H _ x from ⟨A0, n0, c0, s0, rfl, h0⟩)⟩
  cq := @fun l x h => by
    change ofc24 l = some x at h; unfold ofc24 at h
    split at h
    · obtain ⟨v0, h0, h⟩ := bindS h
      cases h; exact ⟨_, _, rfl, xS_cq h0, rfl⟩
    · cases h
  eqc := fun d a b c1 c2 hd h1 h2 => by cases hd
def ofc27 : List (SV DD) → Option (DD 27)
 | [a0, a1, a2, a3] => (xS 92 a0).bind fun v0 => (xS 115 a1).bind fun v1 => (xS 115 a2).bind fun v2 => (xS 24 a3).bind fun v3 => some ⟨v0, v1, v2, v3⟩
 | _ => none
def ce27 : CE DD := ⟨27, fun x => [.fsl 92 (x.Common), .fsl 115 (x.Old), .fsl 115 (x.New), .fsl 24 (x.Rounds)], ofc27, none⟩
theorem ceOk27 : ce27.Ok where
  rdi := @fun H ρ cs x => ⟨fun h => by
    obtain ⟨A0, n0, c0, s0, A1, n1, c1, s1, A2, n2, c2, s2, A3, n3, c3, s3, h, h0, h1, h2, h3⟩ := (show Dt.rd (α := q14) H cs x from h)
    subst h; exact ⟨_, _, rfl, ⟨A0, n0, c0, s0, rfl, h0⟩, _, _, rfl, ⟨A1, n1, c1, s1, rfl, h1⟩, _, _, rfl, ⟨A2, n2, c2, s2, rfl, h2⟩, _, _, rfl, ⟨A3, n3, c3, s3, rfl, h3⟩, rfl⟩, fun h => by
    obtain ⟨v0, r0, e0, ⟨A0, n0, c0, s0, p0, h0⟩, v1, r1, e1, ⟨A1, n1, c1, s1, p1, h1⟩, v2, r2, e2, ⟨A2, n2, c2, s2, p2, h2⟩, v3, r3, e3, ⟨A3, n3, c3, s3, p3, h3⟩, e⟩ := h; have e : r3 = [] := e; subst e; subst e3; subst e2; subst e1; subst e0; subst p0; subst p1; subst p2; subst p3
    exact (show Dt.rd (α := q14) H _ x from ⟨A0, n0, c0, s0, A1, n1, c1, s1, A2, n2, c2, s2, A3, n3, c3, s3, rfl, h0, h1, h2, h3⟩)⟩
  cq := @fun l x h => by
    change ofc27 l = some x at h; unfold ofc27 at h
    split at h
    · obtain ⟨v0, h0, h⟩ := bindS h
      obtain ⟨v1, h1, h⟩ := bindS h; obtain ⟨v2, h2, h⟩ := bindS h; obtain ⟨v3, h3, h⟩ := bindS h; cases h; exact ⟨_, _, rfl, xS_cq h0, _, _, rfl, xS_cq h1, _, _, rfl, xS_cq h2, _, _, rfl, xS_cq h3, rfl⟩
    · cases h
  eqc := fun d a b c1 c2 hd h1 h2 => by cases hd
def ofc23 : List (SV DD) → Option (DD 23)
 | [a0] => (xS 92 a0).bind fun v0 => some v0
 | _ => none
def ce23 : CE DD := ⟨23, fun x => [.fsl 92 (x)], ofc23, none⟩
theorem ceOk23 : ce23.Ok where
  rdi := @fun H ρ cs x => ⟨fun h => by
    obtain ⟨A0, n0, c0, s0, h, h0⟩ := (show Dt.rd (α := List (List Sec)) H cs x from h)
    subst h; exact ⟨_, _, rfl, ⟨A0, n0, c0, s0, rfl, h0⟩, rfl⟩, fun h => by
    obtain ⟨v0, r0, e0, ⟨A0, n0, c0, s0, p0, h0⟩, e⟩ := h; have e : r0 = [] := e; subst e; subst e0; subst p0
    exact (show Dt.rd (α := List (List Sec)) H _ x from ⟨A0, n0, c0, s0, rfl, h0⟩)⟩
  cq := @fun l x h => by
    change ofc23 l = some x at h; unfold ofc23 at h
    split at h
    · obtain ⟨v0, h0, h⟩ := bindS h
      cases h; exact ⟨_, _, rfl, xS_cq h0, rfl⟩
    · cases h
  eqc := fun d a b c1 c2 hd h1 h2 => by cases hd
def ofc3 : List (SV DD) → Option (DD 3)
 | [a0] => (xI a0).bind fun v0 => some v0
 | _ => none
def ce3 : CE DD := ⟨3, fun x => [.i .i64 (x)], ofc3, some (inferInstanceAs (DecidableEq Int))⟩
theorem sc3 (a b : Int) : (([.i .i64 (a)] : List Sc) = [.i .i64 (b)]) ↔ a = b := ⟨(Dt.ksOk (α := Int) _ _ rfl).2.2 a b, fun h => by rw [h]⟩
theorem ceOk3 : ce3.Ok where
  rdi := @fun H ρ cs x => ⟨fun h => by
    obtain h := (show Dt.rd (α := Int) H cs x from h)
    subst h; exact ⟨_, _, rfl, rfl, rfl⟩, fun h => by
    obtain ⟨v0, r0, e0, p0, e⟩ := h; have e : r0 = [] := e; subst e; subst e0; have p0 : v0 = _ := p0; subst p0
    exact (show Dt.rd (α := Int) H _ x from rfl)⟩
  cq := @fun l x h => by
    change ofc3 l = some x at h; unfold ofc3 at h
    split at h
    · obtain ⟨v0, h0, h⟩ := bindS h
      cases h; exact ⟨_, _, rfl, xI_cq h0, rfl⟩
    · cases h
  eqc := fun d a b c1 c2 hd h1 h2 => by
    cases h1; cases h2; exact sc3 a b
def ofc42 : List (SV DD) → Option (DD 42)
 | [a0] => (xI a0).bind fun v0 => some v0
 | _ => none
def ce42 : CE DD := ⟨42, fun x => [.i .i64 (x)], ofc42, none⟩
theorem ceOk42 : ce42.Ok where
  rdi := @fun H ρ cs x => ⟨fun h => by
    obtain h := (show Dt.rd (α := Int) H cs x from h)
    subst h; exact ⟨_, _, rfl, rfl, rfl⟩, fun h => by
    obtain ⟨v0, r0, e0, p0, e⟩ := h; have e : r0 = [] := e; subst e; subst e0; have p0 : v0 = _ := p0; subst p0
    exact (show Dt.rd (α := Int) H _ x from rfl)⟩
  cq := @fun l x h => by
    change ofc42 l = some x at h; unfold ofc42 at h
    split at h
    · obtain ⟨v0, h0, h⟩ := bindS h
      cases h; exact ⟨_, _, rfl, xI_cq h0, rfl⟩
    · cases h
  eqc := fun d a b c1 c2 hd h1 h2 => by cases hd
def ofc33 : List (SV DD) → Option (DD 33)
 | [a0] => (xS 3 a0).bind fun v0 => some v0
 | _ => none
def ce33 : CE DD := ⟨33, fun x => [.fsl 3 (x)], ofc33, none⟩
theorem ceOk33 : ce33.Ok where
  rdi := @fun H ρ cs x => ⟨fun h => by
    obtain ⟨A0, n0, c0, s0, h, h0⟩ := (show Dt.rd (α := List Int) H cs x from h)
    subst h; exact ⟨_, _, rfl, ⟨A0, n0, c0, s0, rfl, h0⟩, rfl⟩, fun h => by
    obtain ⟨v0, r0, e0, ⟨A0, n0, c0, s0, p0, h0⟩, e⟩ := h; have e : r0 = [] := e; subst e; subst e0; subst p0
    exact (show Dt.rd (α := List Int) H _ x from ⟨A0, n0, c0, s0, rfl, h0⟩)⟩
  cq := @fun l x h => by
    change ofc33 l = some x at h; unfold ofc33 at h
    split at h
    · obtain ⟨v0, h0, h⟩ := bindS h
      cases h; exact ⟨_, _, rfl, xS_cq h0, rfl⟩
    · cases h
  eqc := fun d a b c1 c2 hd h1 h2 => by cases hd
def ofc22 : List (SV DD) → Option (DD 22)
 | [a0] => (xS 92 a0).bind fun v0 => some v0
 | _ => none
def ce22 : CE DD := ⟨22, fun x => [.fsl 92 (x)], ofc22, none⟩
theorem ceOk22 : ce22.Ok where
  rdi := @fun H ρ cs x => ⟨fun h => by
    obtain ⟨A0, n0, c0, s0, h, h0⟩ := (show Dt.rd (α := List (List Sec)) H cs x from h)
    subst h; exact ⟨_, _, rfl, ⟨A0, n0, c0, s0, rfl, h0⟩, rfl⟩, fun h => by
    obtain ⟨v0, r0, e0, ⟨A0, n0, c0, s0, p0, h0⟩, e⟩ := h; have e : r0 = [] := e; subst e; subst e0; subst p0
    exact (show Dt.rd (α := List (List Sec)) H _ x from ⟨A0, n0, c0, s0, rfl, h0⟩)⟩
  cq := @fun l x h => by
    change ofc22 l = some x at h; unfold ofc22 at h
    split at h
    · obtain ⟨v0, h0, h⟩ := bindS h
      cases h; exact ⟨_, _, rfl, xS_cq h0, rfl⟩
    · cases h
  eqc := fun d a b c1 c2 hd h1 h2 => by cases hd
def ofc74 : List (SV DD) → Option (DD 74)
 | [a0, a1, a2] => (xI a0).bind fun v0 => (xI a1).bind fun v1 => (xI a2).bind fun v2 => some ⟨v0, v1, v2⟩
 | _ => none
def ce74 : CE DD := ⟨74, fun x => [.i .i64 (x.Epoch), .i .i64 (x.From), .i .i64 (x.To)], ofc74, some (inferInstanceAs (DecidableEq q23))⟩
theorem sc74 (a b : q23) : (([.i .i64 (a.Epoch), .i .i64 (a.From), .i .i64 (a.To)] : List Sc) = [.i .i64 (b.Epoch), .i .i64 (b.From), .i .i64 (b.To)]) ↔ a = b := by
  cases a; cases b; simp
theorem ceOk74 : ce74.Ok where
  rdi := @fun H ρ cs x => ⟨fun h => by
    obtain h := (show Dt.rd (α := q23) H cs x from h)
    subst h; exact ⟨_, _, rfl, rfl, _, _, rfl, rfl, _, _, rfl, rfl, rfl⟩, fun h => by
    obtain ⟨v0, r0, e0, p0, v1, r1, e1, p1, v2, r2, e2, p2, e⟩ := h; have e : r2 = [] := e; subst e; subst e2; subst e1; subst e0; have p0 : v0 = _ := p0; subst p0; have p1 : v1 = _ := p1; subst p1; have p2 : v2 = _ := p2; subst p2
    exact (show Dt.rd (α := q23) H _ x from rfl)⟩
  cq := @fun l x h => by
    change ofc74 l = some x at h; unfold ofc74 at h
    split at h
    · obtain ⟨v0, h0, h⟩ := bindS h
      obtain ⟨v1, h1, h⟩ := bindS h; obtain ⟨v2, h2, h⟩ := bindS h; cases h; exact ⟨_, _, rfl, xI_cq h0, _, _, rfl, xI_cq h1, _, _, rfl, xI_cq h2, rfl⟩
    · cases h
  eqc := fun d a b c1 c2 hd h1 h2 => by
    cases h1; cases h2; exact sc74 a b
def q699 : List (SV DD) → Option (DD 197)
 | [a0] => (xW a0).bind fun v0 => some v0
 | _ => none
def ce197 : CE DD := ⟨197, fun x => [.w (x)], q699, none⟩
theorem ceOk197 : ce197.Ok where
  rdi := @fun H ρ cs x => ⟨fun h => by
    obtain h := (show Dt.rd (α := BitVec 64) H cs x from h)
    subst h; exact ⟨_, _, rfl, rfl, rfl⟩, fun h => by
    obtain ⟨v0, r0, e0, p0, e⟩ := h; have e : r0 = [] := e; subst e; subst e0; have p0 : v0 = _ := p0; subst p0
    exact (show Dt.rd (α := BitVec 64) H _ x from rfl)⟩
  cq := @fun l x h => by
    change q699 l = some x at h; unfold q699 at h
    split at h
    · obtain ⟨v0, h0, h⟩ := bindS h
      cases h; exact ⟨_, _, rfl, xW_cq h0, rfl⟩
    · cases h
  eqc := fun d a b c1 c2 hd h1 h2 => by cases hd
def q700 : List (SV DD) → Option (DD 166)
 | [a0, a1] => (xI a0).bind fun v0 => (xS 197 a1).bind fun v1 => some ⟨v0, v1⟩
 | _ => none
def ce166 : CE DD := ⟨166, fun x => [.i .i64 (x.Size), .fsl 197 (x.Words)], q700, none⟩
theorem ceOk166 : ce166.Ok where
  rdi := @fun H ρ cs x => ⟨fun h => by
    obtain ⟨A0, n0, c0, s0, h, h0⟩ := (show Dt.rd (α := q9) H cs x from h)
    subst h; exact ⟨_, _, rfl, rfl, _, _, rfl, ⟨A0, n0, c0, s0, rfl, h0⟩, rfl⟩, fun h => by
    obtain ⟨v0, r0, e0, p0, v1, r1, e1, ⟨A0, n0, c0, s0, p1, h0⟩, e⟩ := h; have e : r1 = [] := e; subst e; subst e1; subst e0; have p0 : v0 = _ := p0; subst p0; subst p1
    exact (show Dt.rd (α := q9) H _ x from ⟨A0, n0, c0, s0, rfl, h0⟩)⟩
  cq := @fun l x h => by
    change q700 l = some x at h; unfold q700 at h
    split at h
    · obtain ⟨v0, h0, h⟩ := bindS h
      obtain ⟨v1, h1, h⟩ := bindS h; cases h; exact ⟨_, _, rfl, xI_cq h0, _, _, rfl, xS_cq h1, rfl⟩
    · cases h
  eqc := fun d a b c1 c2 hd h1 h2 => by cases hd
def ofc32 : List (SV DD) → Option (DD 32)
 | [a0, a1, a2, a3] => (xI a0).bind fun v0 => (xS 74 a1).bind fun v1 => (xS 166 a2).bind fun v2 => (xS 92 a3).bind fun v3 => some ⟨v0, v1, v2, v3⟩
 | _ => none
def ce32 : CE DD := ⟨32, fun x => [.i .i64 (x.Site), .fsl 74 (x.Lineage), .fsl 166 (x.Dirty), .fsl 92 (x.Image)], ofc32, none⟩
theorem ceOk32 : ce32.Ok where
  rdi := @fun H ρ cs x => ⟨fun h => by
    obtain ⟨A0, n0, c0, s0, A1, n1, c1, s1, A2, n2, c2, s2, h, h0, h1, h2⟩ := (show Dt.rd (α := q16) H cs x from h)
    subst h; exact ⟨_, _, rfl, rfl, _, _, rfl, ⟨A0, n0, c0, s0, rfl, h0⟩, _, _, rfl, ⟨A1, n1, c1, s1, rfl, h1⟩, _, _, rfl, ⟨A2, n2, c2, s2, rfl, h2⟩, rfl⟩, fun h => by
    obtain ⟨v0, r0, e0, p0, v1, r1, e1, ⟨A0, n0, c0, s0, p1, h0⟩, v2, r2, e2, ⟨A1, n1, c1, s1, p2, h1⟩, v3, r3, e3, ⟨A2, n2, c2, s2, p3, h2⟩, e⟩ := h; have e : r3 = [] := e; subst e; subst e3; subst e2; subst e1; subst e0; have p0 : v0 = _ := p0; subst p0; subst p1; subst p2; subst p3
    exact (show Dt.rd (α := q16) H _ x from ⟨A0, n0, c0, s0, A1, n1, c1, s1, A2, n2, c2, s2, rfl, h0, h1, h2⟩)⟩
  cq := @fun l x h => by
    change ofc32 l = some x at h; unfold ofc32 at h
    split at h
    · obtain ⟨v0, h0, h⟩ := bindS h
      obtain ⟨v1, h1, h⟩ := bindS h; obtain ⟨v2, h2, h⟩ := bindS h; obtain ⟨v3, h3, h⟩ := bindS h; cases h; exact ⟨_, _, rfl, xI_cq h0, _, _, rfl, xS_cq h1, _, _, rfl, xS_cq h2, _, _, rfl, xS_cq h3, rfl⟩
    · cases h
  eqc := fun d a b c1 c2 hd h1 h2 => by cases hd
def q701 : List (SV DD) → Option (DD 154)
 | [a0, a1, a2] => (xI a0).bind fun v0 => (xI a1).bind fun v1 => (xS 166 a2).bind fun v2 => some ⟨v0, v1, v2⟩
 | _ => none
def ce154 : CE DD := ⟨154, fun x => [.i .i64 (x.Site), .i .i64 (x.Common), .fsl 166 (x.Dirty)], q701, none⟩
theorem ceOk154 : ce154.Ok where
  rdi := @fun H ρ cs x => ⟨fun h => by
    obtain ⟨A0, n0, c0, s0, h, h0⟩ := (show Dt.rd (α := q12) H cs x from h)
    subst h; exact ⟨_, _, rfl, rfl, _, _, rfl, rfl, _, _, rfl, ⟨A0, n0, c0, s0, rfl, h0⟩, rfl⟩, fun h => by
    obtain ⟨v0, r0, e0, p0, v1, r1, e1, p1, v2, r2, e2, ⟨A0, n0, c0, s0, p2, h0⟩, e⟩ := h; have e : r2 = [] := e; subst e; subst e2; subst e1; subst e0; have p0 : v0 = _ := p0; subst p0; have p1 : v1 = _ := p1; subst p1; subst p2
    exact (show Dt.rd (α := q12) H _ x from ⟨A0, n0, c0, s0, rfl, h0⟩)⟩
  cq := @fun l x h => by
    change q701 l = some x at h; unfold q701 at h
    split at h
    · obtain ⟨v0, h0, h⟩ := bindS h
      obtain ⟨v1, h1, h⟩ := bindS h; obtain ⟨v2, h2, h⟩ := bindS h; cases h; exact ⟨_, _, rfl, xI_cq h0, _, _, rfl, xI_cq h1, _, _, rfl, xS_cq h2, rfl⟩
    · cases h
  eqc := fun d a b c1 c2 hd h1 h2 => by cases hd
def ofc36 : List (SV DD) → Option (DD 36)
 | [a0, a1] => (xS 3 a0).bind fun v0 => (xS 154 a1).bind fun v1 => some ⟨v0, v1⟩
 | _ => none
def ce36 : CE DD := ⟨36, fun x => [.fsl 3 (x.Sizes), .fsl 154 (x.Peers)], ofc36, none⟩
theorem ceOk36 : ce36.Ok where
  rdi := @fun H ρ cs x => ⟨fun h => by
    obtain ⟨A0, n0, c0, s0, A1, n1, c1, s1, h, h0, h1⟩ := (show Dt.rd (α := q13) H cs x from h)
    subst h; exact ⟨_, _, rfl, ⟨A0, n0, c0, s0, rfl, h0⟩, _, _, rfl, ⟨A1, n1, c1, s1, rfl, h1⟩, rfl⟩, fun h => by
    obtain ⟨v0, r0, e0, ⟨A0, n0, c0, s0, p0, h0⟩, v1, r1, e1, ⟨A1, n1, c1, s1, p1, h1⟩, e⟩ := h; have e : r1 = [] := e; subst e; subst e1; subst e0; subst p0; subst p1
    exact (show Dt.rd (α := q13) H _ x from ⟨A0, n0, c0, s0, A1, n1, c1, s1, rfl, h0, h1⟩)⟩
  cq := @fun l x h => by
    change ofc36 l = some x at h; unfold ofc36 at h
    split at h
    · obtain ⟨v0, h0, h⟩ := bindS h
      obtain ⟨v1, h1, h⟩ := bindS h; cases h; exact ⟨_, _, rfl, xS_cq h0, _, _, rfl, xS_cq h1, rfl⟩
    · cases h
  eqc := fun d a b c1 c2 hd h1 h2 => by cases hd
def ofc30 : List (SV DD) → Option (DD 30)
 | [a0] => (xS 166 a0).bind fun v0 => some v0
 | _ => none
def ce30 : CE DD := ⟨30, fun x => [.fsl 166 (x)], ofc30, none⟩
theorem ceOk30 : ce30.Ok where
  rdi := @fun H ρ cs x => ⟨fun h => by
    obtain ⟨A0, n0, c0, s0, h, h0⟩ := (show Dt.rd (α := List q9) H cs x from h)
    subst h; exact ⟨_, _, rfl, ⟨A0, n0, c0, s0, rfl, h0⟩, rfl⟩, fun h => by
    obtain ⟨v0, r0, e0, ⟨A0, n0, c0, s0, p0, h0⟩, e⟩ := h; have e : r0 = [] := e; subst e; subst e0; subst p0
    exact (show Dt.rd (α := List q9) H _ x from ⟨A0, n0, c0, s0, rfl, h0⟩)⟩
  cq := @fun l x h => by
    change ofc30 l = some x at h; unfold ofc30 at h
    split at h
    · obtain ⟨v0, h0, h⟩ := bindS h
      cases h; exact ⟨_, _, rfl, xS_cq h0, rfl⟩
    · cases h
  eqc := fun d a b c1 c2 hd h1 h2 => by cases hd
def ofc34 : List (SV DD) → Option (DD 34)
 | [a0] => (xS 154 a0).bind fun v0 => some v0
 | _ => none
def ce34 : CE DD := ⟨34, fun x => [.fsl 154 (x)], ofc34, none⟩
theorem ceOk34 : ce34.Ok where
  rdi := @fun H ρ cs x => ⟨fun h => by
    obtain ⟨A0, n0, c0, s0, h, h0⟩ := (show Dt.rd (α := List q12) H cs x from h)
    subst h; exact ⟨_, _, rfl, ⟨A0, n0, c0, s0, rfl, h0⟩, rfl⟩, fun h => by
    obtain ⟨v0, r0, e0, ⟨A0, n0, c0, s0, p0, h0⟩, e⟩ := h; have e : r0 = [] := e; subst e; subst e0; subst p0
    exact (show Dt.rd (α := List q12) H _ x from ⟨A0, n0, c0, s0, rfl, h0⟩)⟩
  cq := @fun l x h => by
    change ofc34 l = some x at h; unfold ofc34 at h
    split at h
    · obtain ⟨v0, h0, h⟩ := bindS h
      cases h; exact ⟨_, _, rfl, xS_cq h0, rfl⟩
    · cases h
  eqc := fun d a b c1 c2 hd h1 h2 => by cases hd
def q702 : List (SV DD) → Option (DD 130)
 | [a0] => (xS 4 a0).bind fun v0 => some v0
 | _ => none
def ce130 : CE DD := ⟨130, fun x => [.fsl 4 (x)], q702, none⟩
theorem ceOk130 : ce130.Ok where
  rdi := @fun H ρ cs x => ⟨fun h => by
    obtain ⟨A0, n0, c0, s0, h, h0⟩ := (show Dt.rd (α := List Bool) H cs x from h)
    subst h; exact ⟨_, _, rfl, ⟨A0, n0, c0, s0, rfl, h0⟩, rfl⟩, fun h => by
    obtain ⟨v0, r0, e0, ⟨A0, n0, c0, s0, p0, h0⟩, e⟩ := h; have e : r0 = [] := e; subst e; subst e0; subst p0
    exact (show Dt.rd (α := List Bool) H _ x from ⟨A0, n0, c0, s0, rfl, h0⟩)⟩
  cq := @fun l x h => by
    change q702 l = some x at h; unfold q702 at h
    split at h
    · obtain ⟨v0, h0, h⟩ := bindS h
      cases h; exact ⟨_, _, rfl, xS_cq h0, rfl⟩
    · cases h
  eqc := fun d a b c1 c2 hd h1 h2 => by cases hd
def q703 : List (SV DD) → Option (DD 164)
 | [a0] => (xS 197 a0).bind fun v0 => some v0
 | _ => none
def ce164 : CE DD := ⟨164, fun x => [.fsl 197 (x)], q703, none⟩
theorem ceOk164 : ce164.Ok where
  rdi := @fun H ρ cs x => ⟨fun h => by
    obtain ⟨A0, n0, c0, s0, h, h0⟩ := (show Dt.rd (α := List (BitVec 64)) H cs x from h)
    subst h; exact ⟨_, _, rfl, ⟨A0, n0, c0, s0, rfl, h0⟩, rfl⟩, fun h => by
    obtain ⟨v0, r0, e0, ⟨A0, n0, c0, s0, p0, h0⟩, e⟩ := h; have e : r0 = [] := e; subst e; subst e0; subst p0
    exact (show Dt.rd (α := List (BitVec 64)) H _ x from ⟨A0, n0, c0, s0, rfl, h0⟩)⟩
  cq := @fun l x h => by
    change q703 l = some x at h; unfold q703 at h
    split at h
    · obtain ⟨v0, h0, h⟩ := bindS h
      cases h; exact ⟨_, _, rfl, xS_cq h0, rfl⟩
    · cases h
  eqc := fun d a b c1 c2 hd h1 h2 => by cases hd
def ofc97 : List (SV DD) → Option (DD 97)
 | [a0, a1] => (xI a0).bind fun v0 => (xI a1).bind fun v1 => some ⟨v0, v1⟩
 | _ => none
def ce97 : CE DD := ⟨97, fun x => [.i .i64 (x.Start), .i .i64 (x.Count)], ofc97, some (inferInstanceAs (DecidableEq q8))⟩
theorem sc97 (a b : q8) : (([.i .i64 (a.Start), .i .i64 (a.Count)] : List Sc) = [.i .i64 (b.Start), .i .i64 (b.Count)]) ↔ a = b := by
  cases a; cases b; simp
theorem ceOk97 : ce97.Ok where
  rdi := @fun H ρ cs x => ⟨fun h => by
    obtain h := (show Dt.rd (α := q8) H cs x from h)
    subst h; exact ⟨_, _, rfl, rfl, _, _, rfl, rfl, rfl⟩, fun h => by
    obtain ⟨v0, r0, e0, p0, v1, r1, e1, p1, e⟩ := h; have e : r1 = [] := e; subst e; subst e1; subst e0; have p0 : v0 = _ := p0; subst p0; have p1 : v1 = _ := p1; subst p1
    exact (show Dt.rd (α := q8) H _ x from rfl)⟩
  cq := @fun l x h => by
    change ofc97 l = some x at h; unfold ofc97 at h
    split at h
    · obtain ⟨v0, h0, h⟩ := bindS h
      obtain ⟨v1, h1, h⟩ := bindS h; cases h; exact ⟨_, _, rfl, xI_cq h0, _, _, rfl, xI_cq h1, rfl⟩
    · cases h
  eqc := fun d a b c1 c2 hd h1 h2 => by
    cases h1; cases h2; exact sc97 a b
def ofc29 : List (SV DD) → Option (DD 29)
 | [a0] => (xS 74 a0).bind fun v0 => some v0
 | _ => none
def ce29 : CE DD := ⟨29, fun x => [.fsl 74 (x)], ofc29, none⟩
theorem ceOk29 : ce29.Ok where
  rdi := @fun H ρ cs x => ⟨fun h => by
    obtain ⟨A0, n0, c0, s0, h, h0⟩ := (show Dt.rd (α := List q23) H cs x from h)
    subst h; exact ⟨_, _, rfl, ⟨A0, n0, c0, s0, rfl, h0⟩, rfl⟩, fun h => by
    obtain ⟨v0, r0, e0, ⟨A0, n0, c0, s0, p0, h0⟩, e⟩ := h; have e : r0 = [] := e; subst e; subst e0; subst p0
    exact (show Dt.rd (α := List q23) H _ x from ⟨A0, n0, c0, s0, rfl, h0⟩)⟩
  cq := @fun l x h => by
    change ofc29 l = some x at h; unfold ofc29 at h
    split at h
    · obtain ⟨v0, h0, h⟩ := bindS h
      cases h; exact ⟨_, _, rfl, xS_cq h0, rfl⟩
    · cases h
  eqc := fun d a b c1 c2 hd h1 h2 => by cases hd
def ofc40 : List (SV DD) → Option (DD 40)
 | [a0, a1, a2, a3, a4, a5, a6, a7] => (xI a0).bind fun v0 => (xI a1).bind fun v1 => (xI a2).bind fun v2 => (xI a3).bind fun v3 => (xI a4).bind fun v4 => (xI a5).bind fun v5 => (q298 a6).bind fun v6 => (q298 a7).bind fun v7 => some ⟨v0, v1, v2, v3, v4, v5, v6, v7⟩
 | _ => none
def ce40 : CE DD := ⟨40, fun x => [.i .i64 (x.Kind), .i .i64 (x.From), .i .i64 (x.To), .i .i64 (x.Step), .i .i64 (x.Epoch), .i .i64 (x.Cycle), .b (x.Done), .b (x.Failed)], ofc40, some (inferInstanceAs (DecidableEq q26))⟩
theorem sc40 (a b : q26) : (([.i .i64 (a.Kind), .i .i64 (a.From), .i .i64 (a.To), .i .i64 (a.Step), .i .i64 (a.Epoch), .i .i64 (a.Cycle), .b (a.Done), .b (a.Failed)] : List Sc) = [.i .i64 (b.Kind), .i .i64 (b.From), .i .i64 (b.To), .i .i64 (b.Step), .i .i64 (b.Epoch), .i .i64 (b.Cycle), .b (b.Done), .b (b.Failed)]) ↔ a = b := by
  cases a; cases b; simp
theorem ceOk40 : ce40.Ok where
  rdi := @fun H ρ cs x => ⟨fun h => by
    obtain h := (show Dt.rd (α := q26) H cs x from h)
    subst h; exact ⟨_, _, rfl, rfl, _, _, rfl, rfl, _, _, rfl, rfl, _, _, rfl, rfl, _, _, rfl, rfl, _, _, rfl, rfl, _, _, rfl, rfl, _, _, rfl, rfl, rfl⟩, fun h => by
    obtain ⟨v0, r0, e0, p0, v1, r1, e1, p1, v2, r2, e2, p2, v3, r3, e3, p3, v4, r4, e4, p4, v5, r5, e5, p5, v6, r6, e6, p6, v7, r7, e7, p7, e⟩ := h; have e : r7 = [] := e; subst e; subst e7; subst e6; subst e5; subst e4; subst e3; subst e2; subst e1; subst e0; have p0 : v0 = _ := p0; subst p0; have p1 : v1 = _ := p1; subst p1; have p2 : v2 = _ := p2; subst p2; have p3 : v3 = _ := p3; subst p3; have p4 : v4 = _ := p4; subst p4; have p5 : v5 = _ := p5; subst p5; have p6 : v6 = _ := p6; subst p6; have p7 : v7 = _ := p7; subst p7
    exact (show Dt.rd (α := q26) H _ x from rfl)⟩
  cq := @fun l x h => by
    change ofc40 l = some x at h; unfold ofc40 at h
    split at h
    · obtain ⟨v0, h0, h⟩ := bindS h
      obtain ⟨v1, h1, h⟩ := bindS h; obtain ⟨v2, h2, h⟩ := bindS h; obtain ⟨v3, h3, h⟩ := bindS h; obtain ⟨v4, h4, h⟩ := bindS h; obtain ⟨v5, h5, h⟩ := bindS h; obtain ⟨v6, h6, h⟩ := bindS h; obtain ⟨v7, h7, h⟩ := bindS h; cases h; exact ⟨_, _, rfl, xI_cq h0, _, _, rfl, xI_cq h1, _, _, rfl, xI_cq h2, _, _, rfl, xI_cq h3, _, _, rfl, xI_cq h4, _, _, rfl, xI_cq h5, _, _, rfl, xB_cq h6, _, _, rfl, xB_cq h7, rfl⟩
    · cases h
  eqc := fun d a b c1 c2 hd h1 h2 => by
    cases h1; cases h2; exact sc40 a b
def ofc55 : List (SV DD) → Option (DD 55)
 | [a0] => (xS 97 a0).bind fun v0 => some v0
 | _ => none
def ce55 : CE DD := ⟨55, fun x => [.fsl 97 (x)], ofc55, none⟩
theorem ceOk55 : ce55.Ok where
  rdi := @fun H ρ cs x => ⟨fun h => by
    obtain ⟨A0, n0, c0, s0, h, h0⟩ := (show Dt.rd (α := List q8) H cs x from h)
    subst h; exact ⟨_, _, rfl, ⟨A0, n0, c0, s0, rfl, h0⟩, rfl⟩, fun h => by
    obtain ⟨v0, r0, e0, ⟨A0, n0, c0, s0, p0, h0⟩, e⟩ := h; have e : r0 = [] := e; subst e; subst e0; subst p0
    exact (show Dt.rd (α := List q8) H _ x from ⟨A0, n0, c0, s0, rfl, h0⟩)⟩
  cq := @fun l x h => by
    change ofc55 l = some x at h; unfold ofc55 at h
    split at h
    · obtain ⟨v0, h0, h⟩ := bindS h
      cases h; exact ⟨_, _, rfl, xS_cq h0, rfl⟩
    · cases h
  eqc := fun d a b c1 c2 hd h1 h2 => by cases hd
def ofc41 : List (SV DD) → Option (DD 41)
 | [a0] => (xS 55 a0).bind fun v0 => some v0
 | _ => none
def ce41 : CE DD := ⟨41, fun x => [.fsl 55 (x)], ofc41, none⟩
theorem ceOk41 : ce41.Ok where
  rdi := @fun H ρ cs x => ⟨fun h => by
    obtain ⟨A0, n0, c0, s0, h, h0⟩ := (show Dt.rd (α := List (List q8)) H cs x from h)
    subst h; exact ⟨_, _, rfl, ⟨A0, n0, c0, s0, rfl, h0⟩, rfl⟩, fun h => by
    obtain ⟨v0, r0, e0, ⟨A0, n0, c0, s0, p0, h0⟩, e⟩ := h; have e : r0 = [] := e; subst e; subst e0; subst p0
    exact (show Dt.rd (α := List (List q8)) H _ x from ⟨A0, n0, c0, s0, rfl, h0⟩)⟩
  cq := @fun l x h => by
    change ofc41 l = some x at h; unfold ofc41 at h
    split at h
    · obtain ⟨v0, h0, h⟩ := bindS h
      cases h; exact ⟨_, _, rfl, xS_cq h0, rfl⟩
    · cases h
  eqc := fun d a b c1 c2 hd h1 h2 => by cases hd
def q704 : List (SV DD) → Option (DD 149)
 | [a0, a1, a2] => (xI a0).bind fun v0 => (xI a1).bind fun v1 => (xI a2).bind fun v2 => some ⟨v0, v1, v2⟩
 | _ => none
def ce149 : CE DD := ⟨149, fun x => [.i .i64 (x.at_), .i .i64 (x.list), .i .i64 (x.step)], q704, some (inferInstanceAs (DecidableEq q11))⟩
theorem sc149 (a b : q11) : (([.i .i64 (a.at_), .i .i64 (a.list), .i .i64 (a.step)] : List Sc) = [.i .i64 (b.at_), .i .i64 (b.list), .i .i64 (b.step)]) ↔ a = b := by
  cases a; cases b; simp
theorem ceOk149 : ce149.Ok where
  rdi := @fun H ρ cs x => ⟨fun h => by
    obtain h := (show Dt.rd (α := q11) H cs x from h)
    subst h; exact ⟨_, _, rfl, rfl, _, _, rfl, rfl, _, _, rfl, rfl, rfl⟩, fun h => by
    obtain ⟨v0, r0, e0, p0, v1, r1, e1, p1, v2, r2, e2, p2, e⟩ := h; have e : r2 = [] := e; subst e; subst e2; subst e1; subst e0; have p0 : v0 = _ := p0; subst p0; have p1 : v1 = _ := p1; subst p1; have p2 : v2 = _ := p2; subst p2
    exact (show Dt.rd (α := q11) H _ x from rfl)⟩
  cq := @fun l x h => by
    change q704 l = some x at h; unfold q704 at h
    split at h
    · obtain ⟨v0, h0, h⟩ := bindS h
      obtain ⟨v1, h1, h⟩ := bindS h; obtain ⟨v2, h2, h⟩ := bindS h; cases h; exact ⟨_, _, rfl, xI_cq h0, _, _, rfl, xI_cq h1, _, _, rfl, xI_cq h2, rfl⟩
    · cases h
  eqc := fun d a b c1 c2 hd h1 h2 => by
    cases h1; cases h2; exact sc149 a b
def q705 : List (SV DD) → Option (DD 145)
 | [a0] => (xS 149 a0).bind fun v0 => some v0
 | _ => none
def ce145 : CE DD := ⟨145, fun x => [.fsl 149 (x)], q705, none⟩
theorem ceOk145 : ce145.Ok where
  rdi := @fun H ρ cs x => ⟨fun h => by
    obtain ⟨A0, n0, c0, s0, h, h0⟩ := (show Dt.rd (α := List q11) H cs x from h)
    subst h; exact ⟨_, _, rfl, ⟨A0, n0, c0, s0, rfl, h0⟩, rfl⟩, fun h => by
    obtain ⟨v0, r0, e0, ⟨A0, n0, c0, s0, p0, h0⟩, e⟩ := h; have e : r0 = [] := e; subst e; subst e0; subst p0
    exact (show Dt.rd (α := List q11) H _ x from ⟨A0, n0, c0, s0, rfl, h0⟩)⟩
  cq := @fun l x h => by
    change q705 l = some x at h; unfold q705 at h
    split at h
    · obtain ⟨v0, h0, h⟩ := bindS h
      cases h; exact ⟨_, _, rfl, xS_cq h0, rfl⟩
    · cases h
  eqc := fun d a b c1 c2 hd h1 h2 => by cases hd
def ofc48 : List (SV DD) → Option (DD 48)
 | [a0, a1, a2, a3, a4] => (xI a0).bind fun v0 => (xI a1).bind fun v1 => (xI a2).bind fun v2 => (xS 3 a3).bind fun v3 => (xS 115 a4).bind fun v4 => some ⟨v0, v1, v2, v3, v4⟩
 | _ => none
def ce48 : CE DD := ⟨48, fun x => [.i .i64 (x.Base), .i .i64 (x.Number), .i .i64 (x.Time), .fsl 3 (x.Positions), .fsl 115 (x.Writes)], ofc48, none⟩
theorem ceOk48 : ce48.Ok where
  rdi := @fun H ρ cs x => ⟨fun h => by
    obtain ⟨A0, n0, c0, s0, A1, n1, c1, s1, h, h0, h1⟩ := (show Dt.rd (α := q21) H cs x from h)
    subst h; exact ⟨_, _, rfl, rfl, _, _, rfl, rfl, _, _, rfl, rfl, _, _, rfl, ⟨A0, n0, c0, s0, rfl, h0⟩, _, _, rfl, ⟨A1, n1, c1, s1, rfl, h1⟩, rfl⟩, fun h => by
    obtain ⟨v0, r0, e0, p0, v1, r1, e1, p1, v2, r2, e2, p2, v3, r3, e3, ⟨A0, n0, c0, s0, p3, h0⟩, v4, r4, e4, ⟨A1, n1, c1, s1, p4, h1⟩, e⟩ := h; have e : r4 = [] := e; subst e; subst e4; subst e3; subst e2; subst e1; subst e0; have p0 : v0 = _ := p0; subst p0; have p1 : v1 = _ := p1; subst p1; have p2 : v2 = _ := p2; subst p2; subst p3; subst p4
    exact (show Dt.rd (α := q21) H _ x from ⟨A0, n0, c0, s0, A1, n1, c1, s1, rfl, h0, h1⟩)⟩
  cq := @fun l x h => by
    change ofc48 l = some x at h; unfold ofc48 at h
    split at h
    · obtain ⟨v0, h0, h⟩ := bindS h
      obtain ⟨v1, h1, h⟩ := bindS h; obtain ⟨v2, h2, h⟩ := bindS h; obtain ⟨v3, h3, h⟩ := bindS h; obtain ⟨v4, h4, h⟩ := bindS h; cases h; exact ⟨_, _, rfl, xI_cq h0, _, _, rfl, xI_cq h1, _, _, rfl, xI_cq h2, _, _, rfl, xS_cq h3, _, _, rfl, xS_cq h4, rfl⟩
    · cases h
  eqc := fun d a b c1 c2 hd h1 h2 => by cases hd
def ofc61 : List (SV DD) → Option (DD 61)
 | [a0] => (xS 48 a0).bind fun v0 => some v0
 | _ => none
def ce61 : CE DD := ⟨61, fun x => [.fsl 48 (x)], ofc61, none⟩
theorem ceOk61 : ce61.Ok where
  rdi := @fun H ρ cs x => ⟨fun h => by
    obtain ⟨A0, n0, c0, s0, h, h0⟩ := (show Dt.rd (α := List q21) H cs x from h)
    subst h; exact ⟨_, _, rfl, ⟨A0, n0, c0, s0, rfl, h0⟩, rfl⟩, fun h => by
    obtain ⟨v0, r0, e0, ⟨A0, n0, c0, s0, p0, h0⟩, e⟩ := h; have e : r0 = [] := e; subst e; subst e0; subst p0
    exact (show Dt.rd (α := List q21) H _ x from ⟨A0, n0, c0, s0, rfl, h0⟩)⟩
  cq := @fun l x h => by
    change ofc61 l = some x at h; unfold ofc61 at h
    split at h
    · obtain ⟨v0, h0, h⟩ := bindS h
      cases h; exact ⟨_, _, rfl, xS_cq h0, rfl⟩
    · cases h
  eqc := fun d a b c1 c2 hd h1 h2 => by cases hd
def tab : Tb DD := [ce4, ce108, ce92, ce115, ce24, ce27, ce23, ce3, ce42, ce33, ce22, ce74, ce197, ce166, ce32, ce154, ce36, ce30, ce34, ce130, ce164, ce97, ce29, ce40, ce55, ce41, ce149, ce145, ce48, ce61]
theorem tabOk : TbOk tab := ⟨ceOk4, ceOk108, ceOk92, ceOk115, ceOk24, ceOk27, ceOk23, ceOk3, ceOk42, ceOk33, ceOk22, ceOk74, ceOk197, ceOk166, ceOk32, ceOk154, ceOk36, ceOk30, ceOk34, ceOk130, ceOk164, ceOk97, ceOk29, ceOk40, ceOk55, ceOk41, ceOk149, ceOk145, ceOk48, ceOk61, trivial⟩
theorem rd108 : q65 Tryz.prog 108 (Sec) := q65.sec Tryz.underlying108 Tryz.underlying5 (by kernel_rfl) (by kernel_rfl)
theorem rd92 : q65 Tryz.prog 92 (List Sec) := q65.slice Tryz.underlying92 (by kernel_rfl) rd108 (by decide)
theorem rd23 : q65 Tryz.prog 23 (List (List Sec)) := q65.slice Tryz.underlying23 (by kernel_rfl) rd92 (by decide)
theorem rd3 : q65 Tryz.prog 3 (Int) := q65.int Tryz.underlying3 (by kernel_rfl)
instance rg_api_Write : Rg q10 := ⟨fun x => Rg.rg x.Volume ∧ Rg.rg x.Start ∧ Rg.rg x.Data⟩
theorem rd115 : q65 Tryz.prog 115 (q10) := (@Reads.struct Tryz.prog 115 _ (Int × Int × List Sec × Unit) (@datProd _ _ (datD (Int)) (@datProd _ _ (datD (Int)) (@datProd _ _ (datD (List Sec)) datUnit))) Tryz.underlying115 (by kernel_rfl) (@q127.cons _ _ _ _ _ _ (datD (Int)) _ rfl rd3 (@q127.cons _ _ _ _ _ _ (datD (Int)) _ rfl rd3 (@q127.cons _ _ _ _ _ _ (datD (List Sec)) _ rfl rd92 (.nil _))))).map rfl fun {H cs a} h => by
  obtain ⟨a0, a1, a2, _⟩ := a; obtain ⟨_, _, rfl, ⟨rfl, r0⟩, _, _, rfl, ⟨rfl, r1⟩, _, _, rfl, ⟨⟨A3, n3, c3, s3, rfl, hF3⟩, r2⟩, hz⟩ := h; cases hz; exact ⟨⟨a0, a1, a2⟩, ⟨A3, n3, c3, s3, rfl, hF3⟩, r0, r1, r2⟩
theorem rd24 : q65 Tryz.prog 24 (List q10) := q65.slice Tryz.underlying24 (by kernel_rfl) rd115 (by decide)
theorem rd25 : q65 Tryz.prog 25 (List (List q10)) := q65.slice Tryz.underlying25 (by kernel_rfl) rd24 (by decide)
instance rg_standbytop_RunLoss : Rg q14 := ⟨fun x => Rg.rg x.Common ∧ Rg.rg x.Old ∧ Rg.rg x.New ∧ Rg.rg x.Rounds⟩
theorem rd27 : q65 Tryz.prog 27 (q14) := (@Reads.struct Tryz.prog 27 _ (List (List Sec) × List q10 × List q10 × List (List q10) × Unit) (@datProd _ _ (datD (List (List Sec))) (@datProd _ _ (datD (List q10)) (@datProd _ _ (datD (List q10)) (@datProd _ _ (datD (List (List q10))) datUnit)))) Tryz.underlying27 (by kernel_rfl) (@q127.cons _ _ _ _ _ _ (datD (List (List Sec))) _ rfl rd23 (@q127.cons _ _ _ _ _ _ (datD (List q10)) _ rfl rd24 (@q127.cons _ _ _ _ _ _ (datD (List q10)) _ rfl rd24 (@q127.cons _ _ _ _ _ _ (datD (List (List q10))) _ rfl rd25 (.nil _)))))).map rfl fun {H cs a} h => by
  obtain ⟨a0, a1, a2, a3, _⟩ := a; obtain ⟨_, _, rfl, ⟨⟨A5, n5, c5, s5, rfl, hF5⟩, r0⟩, _, _, rfl, ⟨⟨A7, n7, c7, s7, rfl, hF7⟩, r1⟩, _, _, rfl, ⟨⟨A9, n9, c9, s9, rfl, hF9⟩, r2⟩, _, _, rfl, ⟨⟨A11, n11, c11, s11, rfl, hF11⟩, r3⟩, hz⟩ := h; cases hz; exact ⟨⟨a0, a1, a2, a3⟩, ⟨A5, n5, c5, s5, A7, n7, c7, s7, A9, n9, c9, s9, A11, n11, c11, s11, rfl, hF5, hF7, hF9, hF11⟩, r0, r1, r2, r3⟩
end Go.Proofs.YtbcembjnddnneaaGreatDoor
namespace Go.Proofs.YtbcembjnddnneaaGreatDoor
open Go.RowKit Go.ChangeShapes Go.WideShapes Go.ChangeAt
theorem Tryz.own : ownKnob Tryz.prog.godebug = none := by kernel_rfl
theorem Tryz.laidOut : laidOutB Tryz.prog = true := by kernel_rfl
theorem Tryz.doorMet (os : Os) (args : Array Value) : laidMetH Tryz.prog [("math/bits.deBruijn64tab", Rows.laid_math_bits_deBruijn64tab)] ((World.doorLaid Tryz.prog 14 os).forCall (fun _ _ => 0) ⟨#[], args, []⟩).memory :=
  laidMetH_of_parts3 (fuel := 8) (laidMet_of_run' 8 (by kernel_rfl) (by kernel_rfl)) (by kernel_rfl) (by kernel_rfl)
theorem q770 {W : World} (h : laidMetH Tryz.prog [("math/bits.deBruijn64tab", Rows.laid_math_bits_deBruijn64tab)] W) : TabH (HW W) 0 :=
  q503 (t := 228) (e := 5) (by kernel_rfl) (by kernel_rfl) Tryz.underlying228 Tryz.underlying5 (by kernel_rfl) (by kernel_rfl) rfl h
theorem lawRes (y : TupD DD [4]) (hy : y.1 = true) {H : Hp} {v : Value} {L : List Ent} (hr : ResR Tryz.prog tab [4] [[false]] y H v L) : ∃ z, z = true ∧ v = .bool z ∧ L = [] := by
  obtain ⟨ρ, _, _, _, _, h1, h2⟩ := hr 0 (fun _ => none) (fun _ _ => rfl) _ _ _ (show resE Tryz.prog tab _ _ y 0 = some (.b y.1, [], 0) by kernel_rfl); exact ⟨y.1, hy, h1, h2⟩
theorem pkw27 (v : Value) (cs : List Value) : PkR Tryz.prog 27 v cs = (v = .agg cs.toArray) := by kernel_rfl
end Go.Proofs.YtbcembjnddnneaaGreatDoor
namespace Go.Proofs.YtbcembjnddnneaaGreatDoor
open Go.RowKit
def q471 (x0 : List (List Sec)) (Φ : Bool → Prop) : (Int) → ((Int) → Prop) → Prop
 | v1, rec1 =>
 (v1 < (x0.length : Int) →
 inX v1 x0.length ∧
 (24 < ((ix x0 v1).length : Int) →
 Φ false) ∧
 (¬ (24 < ((ix x0 v1).length : Int)) →
 inI (v1 + 1) ∧
 rec1 (v1 + 1))) ∧
 (¬ (v1 < (x0.length : Int)) →
 Φ true)
def q234 (x0 : List (List Sec)) (Φ : Bool → Prop) : Prop :=
 (9 < (x0.length : Int) →
 Φ false) ∧
 (¬ (9 < (x0.length : Int)) →
 LoopW (q471 x0 Φ) 0)
def Z0 (x0 : List Sec) (Φ : Int → Prop) : Prop :=
 Φ (x0.length : Int)
def Z1 (x0 : List (List Sec)) (Φ : List Int → Prop) : (Int × List Int) → ((Int × List Int) → Prop) → Prop
 | (v1, v2), rec1 =>
 (v1 < (x0.length : Int) →
 inX v1 x0.length ∧
 Z0 (ix x0 v1) fun v3 =>
 lenOk (v2 ++ ([v3] : List Int)).length 8 ∧
 inI (v1 + 1) ∧
 rec1 ((v1 + 1), (v2 ++ ([v3] : List Int)))) ∧
 (¬ (v1 < (x0.length : Int)) →
 Φ v2)
def q86 (x0 : List (List Sec)) (Φ : List Int → Prop) : Prop :=
 0 ≤ (x0.length : Int) ∧
 lenOk (x0.length : Int).toNat 8 ∧
 LoopW (Z1 x0 Φ) (0, ([] : List Int))
def Z2 (x0 : Int) (Φ : Bool → Prop) : Prop :=
 (x0 < 1 →
 Φ true) ∧
 (¬ (x0 < 1) →
 Φ (decide (4096 < x0)))
def Z3 (x0 : List Int) (Φ : Int → Prop) : (Int) → ((Int) → Prop) → Prop
 | v1, rec1 =>
 (v1 < (x0.length : Int) →
 inX v1 x0.length ∧
 Z2 (ix x0 v1) fun v2 =>
 (v2 = true →
 (0 ≤ v1 →
 Φ 2) ∧
 (¬ (0 ≤ v1) →
 Φ 0)) ∧
 (¬ (v2 = true) →
 inI (v1 + 1) ∧
 rec1 (v1 + 1))) ∧
 (¬ (v1 < (x0.length : Int)) →
 (0 ≤ ((-1) : Int) →
 Φ 2) ∧
 (¬ (0 ≤ ((-1) : Int)) →
 Φ 0))
def Z4 (x0 : List Int) (Φ : Int → Prop) : Prop :=
 ((x0.length : Int) < 1 →
 Φ 6) ∧
 (¬ ((x0.length : Int) < 1) →
 (8 < (x0.length : Int) →
 Φ 6) ∧
 (¬ (8 < (x0.length : Int)) →
 LoopW (Z3 x0 Φ) 0))
def q38 (x0 : List (List Sec)) (Φ : Int → Prop) : Prop :=
 q86 x0 fun v1 =>
 Z4 v1 fun v2 =>
 Φ v2
def Z5 (x0 : List Sec) (Φ : List Sec → Prop) : Prop :=
 (x0 = [] →
 Φ ([] : List Sec)) ∧
 (
 lenOk (([] : List Sec) ++ x0).length 8 ∧
 Φ (([] : List Sec) ++ x0))
def q106 (x0 : List (List Sec)) (x1 : q10) (Φ : Int → Prop) : Bool → Prop
 | v1 =>
 (v1 = true →
 Φ 7) ∧
 (¬ (v1 = true) →
 ((x1.Data.length : Int) = 0 →
 Φ 1) ∧
 (¬ ((x1.Data.length : Int) = 0) →
 (x1.Start < 0 →
 Φ 2) ∧
 (¬ (x1.Start < 0) →
 inX x1.Volume x0.length ∧
 inI (((ix x0 x1.Volume).length : Int) - (x1.Data.length : Int)) ∧
 ((((ix x0 x1.Volume).length : Int) - (x1.Data.length : Int)) < x1.Start →
 Φ 2) ∧
 (¬ ((((ix x0 x1.Volume).length : Int) - (x1.Data.length : Int)) < x1.Start) →
 Φ 0))))
def q81 (x0 : List (List Sec)) (x1 : q10) (Φ : Int → Prop) : Prop :=
 Join (q106 x0 x1 Φ) fun J1 =>
 (x1.Volume < 0 →
 J1 true) ∧
 (¬ (x1.Volume < 0) →
 J1 (decide ((x0.length : Int) ≤ x1.Volume)))
def Z6 (x0 : List (List Sec)) (Φ : List (List Sec) → Prop) : (List (List Sec) × Int) → ((List (List Sec) × Int) → Prop) → Prop
 | (v12, v20), rec1 =>
 (v20 < (x0.length : Int) →
 inX v20 x0.length ∧
 Z5 (ix x0 v20) fun v27 =>
 lenOk (v12 ++ [v27]).length 24 ∧
 inI (v20 + 1) ∧
 rec1 ((v12 ++ [v27]), v20 + 1)) ∧
 (¬ (v20 < (x0.length : Int)) →
 Φ v12)
def Z7 (x0 : List (List Sec)) (Φ : List (List Sec) → Prop) : Prop :=
 0 ≤ (x0.length : Int) ∧
 lenOk (x0.length : Int).toNat 24 ∧
 LoopW (Z6 x0 Φ) (([] : List (List Sec)), 0)
def Z8 (x0 : List (List Sec)) (Φ : List (List Sec) → Prop) : Prop :=
 Z7 x0 fun v2 =>
 Φ v2
def Z9 (x1 : List q10) (Φ : List (List Sec) × Int × Int → Prop) : (List (List Sec) × Int) → ((List (List Sec) × Int) → Prop) → Prop
 | (v16, v24), rec1 =>
 (v24 < (x1.length : Int) →
 inX v24 x1.length ∧
 q81 v16 (ix x1 v24) fun v38 =>
 (v38 ≠ 0 →
 Φ (([] : List (List Sec)), v24, v38)) ∧
 (¬ (v38 ≠ 0) →
 inX ((ix x1 v24).Volume) v16.length ∧
 inS ((ix x1 v24).Start) ((ix v16 ((ix x1 v24).Volume)).length : Int) (ix v16 ((ix x1 v24).Volume)).length ∧
 inI (v24 + 1) ∧
 rec1 ((put v16 ((ix x1 v24).Volume) (paste (ix v16 ((ix x1 v24).Volume)) ((ix x1 v24).Start) ((ix x1 v24).Data))), v24 + 1))) ∧
 (¬ (v24 < (x1.length : Int)) →
 Φ (v16, 0, 0))
def q39 (x0 : List (List Sec)) (x1 : List q10) (Φ : List (List Sec) × Int × Int → Prop) : Prop :=
 q38 x0 fun v3 =>
 (v3 ≠ 0 →
 Φ (([] : List (List Sec)), 0, v3)) ∧
 (¬ (v3 ≠ 0) →
 Z8 x0 fun v7 =>
 LoopW (Z9 x1 Φ) (v7, 0))
def q472 (x0 : List q10) (v1 : Int) (rec1 : (Int) → Prop) (Φ : Bool → Prop) : Bool → Prop
 | v2 =>
 (v2 = true →
 inX v1 x0.length ∧
 (24 < (((ix x0 v1).Data).length : Int) →
 Φ false) ∧
 (¬ (24 < (((ix x0 v1).Data).length : Int)) →
 inI (v1 + 1) ∧
 rec1 (v1 + 1))) ∧
 (¬ (v2 = true) →
 Φ (decide ((x0.length : Int) ≤ 40)))
def q473 (x0 : List q10) (Φ : Bool → Prop) : (Int) → ((Int) → Prop) → Prop
 | v1, rec1 =>
 Join (q472 x0 v1 rec1 Φ) fun J2 =>
 (v1 < (x0.length : Int) →
 J2 (decide (v1 < 60))) ∧
 (¬ (v1 < (x0.length : Int)) →
 J2 false)
def q158 (x0 : List q10) (Φ : Bool → Prop) : Prop :=
 LoopW (q473 x0 Φ) 0
def Z10 (x0 : q14) (Φ : Bool → Prop) : (Int) → ((Int) → Prop) → Prop
 | v2, rec1 =>
 (v2 < ((([x0.Old, x0.New] : List (List q10)) ++ x0.Rounds).length : Int) →
 inX v2 (([x0.Old, x0.New] : List (List q10)) ++ x0.Rounds).length ∧
 q39 x0.Common (ix (([x0.Old, x0.New] : List (List q10)) ++ x0.Rounds) v2) fun v3 =>
 q158 (ix (([x0.Old, x0.New] : List (List q10)) ++ x0.Rounds) v2) fun v4 =>
 (¬ (v4 = true) →
 Φ false) ∧
 (¬ (¬ (v4 = true)) →
 (v3.2.2 ≠ 0 →
 Φ false) ∧
 (¬ (v3.2.2 ≠ 0) →
 inI (v2 + 1) ∧
 rec1 (v2 + 1)))) ∧
 (¬ (v2 < ((([x0.Old, x0.New] : List (List q10)) ++ x0.Rounds).length : Int)) →
 Φ true)
def Z11 (x0 : q14) (Φ : Bool → Prop) : Prop :=
 q234 x0.Common fun v1 =>
 (¬ (v1 = true) →
 Φ false) ∧
 (¬ (¬ (v1 = true)) →
 (6 < (x0.Rounds.length : Int) →
 Φ false) ∧
 (¬ (6 < (x0.Rounds.length : Int)) →
 lenOk (([x0.Old, x0.New] : List (List q10)) ++ x0.Rounds).length 24 ∧
 LoopW (Z10 x0 Φ) 0))
def Z12 (x0 : List (List Sec)) (Φ : List Int → Prop) : (Int × List Int) → ((Int × List Int) → Prop) → Prop
 | (v1, v2), rec1 =>
 (v1 < (x0.length : Int) →
 inX v1 x0.length ∧
 lenOk (v2 ++ ([((ix x0 v1).length : Int)] : List Int)).length 8 ∧
 inI (v1 + 1) ∧
 rec1 ((v1 + 1), (v2 ++ ([((ix x0 v1).length : Int)] : List Int)))) ∧
 (¬ (v1 < (x0.length : Int)) →
 Φ v2)
def Z13 (x0 : List (List Sec)) (Φ : List Int → Prop) : Prop :=
 LoopW (Z12 x0 Φ) (0, ([] : List Int))
def q256 (x0 : Int) (Φ : List Sec → Prop) : Prop :=
 0 ≤ x0 ∧
 lenOk x0.toNat 8 ∧
 Φ (List.replicate x0.toNat (sec0 : Sec))
def q474 (x0 : List Int) (Φ : List (List Sec) × Int → Prop) : (Int × List (List Sec)) → ((Int × List (List Sec)) → Prop) → Prop
 | (v2, v3), rec1 =>
 (v2 < (x0.length : Int) →
 inX v2 x0.length ∧
 q256 (ix x0 v2) fun v4 =>
 lenOk (v3 ++ ([v4] : List (List Sec))).length 24 ∧
 inI (v2 + 1) ∧
 rec1 ((v2 + 1), (v3 ++ ([v4] : List (List Sec))))) ∧
 (¬ (v2 < (x0.length : Int)) →
 Φ (v3, 0))
def q77 (x0 : List Int) (Φ : List (List Sec) × Int → Prop) : Prop :=
 Z4 x0 fun v1 =>
 (v1 ≠ 0 →
 Φ (([] : List (List Sec)), v1)) ∧
 (¬ (v1 ≠ 0) →
 0 ≤ (x0.length : Int) ∧
 lenOk (x0.length : Int).toNat 24 ∧
 LoopW (q474 x0 Φ) (0, ([] : List (List Sec))))
def Z14 (x0 : Int) (x1 : Int) (x2 : Int) (Φ : Bool → Prop) : Prop :=
 (x1 ≤ x0 →
 Φ (decide (x0 ≤ x2))) ∧
 (¬ (x1 ≤ x0) →
 Φ false)
def Z15 (x0 : Int) (Φ : Bool → Prop) : Prop :=
 Z14 x0 0 3 fun v1 =>
 Φ v1
def Z16 (x0 : Int) (Φ : Int → Prop) : Prop :=
 inI (x0 + 64) ∧
 inI ((x0 + 64) - 1) ∧
 (0 ≤ ((x0 + 64) - 1) ∧ inI ((x0 + 64) - 1) ∧ (0 : Int) < 64) ∧
 Φ (((x0 + 64) - 1) / 64)
def q431 (x0 : Int) (Φ : q9 × Int → Prop) : Bool → Prop
 | v1 =>
 (v1 = true →
 Φ ((q9.mk 0 ([] : List (BitVec 64))), 2)) ∧
 (¬ (v1 = true) →
 Z16 x0 fun v2 =>
 0 ≤ v2 ∧
 lenOk v2.toNat 8 ∧
 Φ ((q9.mk x0 (List.replicate v2.toNat (0#64 : BitVec 64))), 0))
def q194 (x0 : Int) (Φ : q9 × Int → Prop) : Prop :=
 Join (q431 x0 Φ) fun J1 =>
 (x0 < 0 →
 J1 true) ∧
 (¬ (x0 < 0) →
 J1 (decide (4096 < x0)))
def Z17 (x0 : List Int) (Φ : List q9 × Int → Prop) : (Int × List q9) → ((Int × List q9) → Prop) → Prop
 | (v1, v2), rec1 =>
 (v1 < (x0.length : Int) →
 inX v1 x0.length ∧
 q194 (ix x0 v1) fun v3 =>
 (v3.2 ≠ 0 →
 Φ (([] : List q9), v3.2)) ∧
 (¬ (v3.2 ≠ 0) →
 lenOk (v2 ++ ([v3.1] : List q9)).length 32 ∧
 inI (v1 + 1) ∧
 rec1 ((v1 + 1), (v2 ++ ([v3.1] : List q9))))) ∧
 (¬ (v1 < (x0.length : Int)) →
 Φ (v2, 0))
def Z18 (x0 : List Int) (Φ : List q9 × Int → Prop) : Prop :=
 LoopW (Z17 x0 Φ) (0, ([] : List q9))
def Z19 (x0 : List Int) (Φ : List Int → Prop) : Prop :=
 (x0 = [] →
 Φ ([] : List Int)) ∧
 (
 lenOk (([] : List Int) ++ x0).length 8 ∧
 Φ (([] : List Int) ++ x0))
def Z20 (v5 : List (Int × q12)) (v8 : List Int) (Φ : q13 × Int → Prop) : (Int × List q12) → ((Int × List q12) → Prop) → Prop
 | (v9, v10), rec3 =>
 (v9 < ((sortZ (v5.map fun p => p.1)).length : Int) →
 inX v9 (sortZ (v5.map fun p => p.1)).length ∧
 lenOk (v10 ++ ([(mget v5 (ix (sortZ (v5.map fun p => p.1)) v9) (q12.mk 0 0 ([] : List q9)))] : List q12)).length 40 ∧
 inI (v9 + 1) ∧
 rec3 ((v9 + 1), (v10 ++ ([(mget v5 (ix (sortZ (v5.map fun p => p.1)) v9) (q12.mk 0 0 ([] : List q9)))] : List q12)))) ∧
 (¬ (v9 < ((sortZ (v5.map fun p => p.1)).length : Int)) →
 Φ ((q13.mk v8 v10), 0))
def Z21 (x0 : List Int) (x1 : List Int) (x2 : Int) (Φ : q13 × Int → Prop) : (Int × (List (Int × q12))) → ((Int × (List (Int × q12))) → Prop) → Prop
 | (v4, v5), rec2 =>
 (v4 < (x1.length : Int) →
 inX v4 x1.length ∧
 ((mhas v5 (ix x1 v4)) = true →
 Φ ((q13.mk ([] : List Int) ([] : List q12)), 8)) ∧
 (¬ ((mhas v5 (ix x1 v4)) = true) →
 Z18 x0 fun v6 =>
 (v6.2 ≠ 0 →
 Φ ((q13.mk ([] : List Int) ([] : List q12)), v6.2)) ∧
 (¬ (v6.2 ≠ 0) →
 inI (v4 + 1) ∧
 rec2 ((v4 + 1), (mput v5 (ix x1 v4) (q12.mk (ix x1 v4) x2 v6.1)))))) ∧
 (¬ (v4 < (x1.length : Int)) →
 Z14 x2 0 1073741824 fun v7 =>
 (¬ (v7 = true) →
 Φ ((q13.mk ([] : List Int) ([] : List q12)), 2)) ∧
 (¬ (¬ (v7 = true)) →
 Z19 x0 fun v8 =>
 (v5.map fun p => p.1).Nodup ∧
 (∀ p, p ∈ v5 → inI p.1) ∧
 lenOk v5.length 8 ∧
 LoopW (Z20 v5 v8 Φ) (0, ([] : List q12))))
def Z22 (x0 : List Int) (x1 : List Int) (x2 : Int) (Φ : q13 × Int → Prop) : (Int) → ((Int) → Prop) → Prop
 | v2, rec1 =>
 (v2 < (x1.length : Int) →
 inX v2 x1.length ∧
 Z15 (ix x1 v2) fun v3 =>
 (¬ (v3 = true) →
 Φ ((q13.mk ([] : List Int) ([] : List q12)), 2)) ∧
 (¬ (¬ (v3 = true)) →
 inI (v2 + 1) ∧
 rec1 (v2 + 1))) ∧
 (¬ (v2 < (x1.length : Int)) →
 LoopW (Z21 x0 x1 x2 Φ) (0, ([] : List (Int × q12))))
def q159 (x0 : List Int) (x1 : List Int) (x2 : Int) (Φ : q13 × Int → Prop) : Prop :=
 q77 x0 fun v1 =>
 (v1.2 ≠ 0 →
 Φ ((q13.mk ([] : List Int) ([] : List q12)), v1.2)) ∧
 (¬ (v1.2 ≠ 0) →
 (4 < (x1.length : Int) →
 Φ ((q13.mk ([] : List Int) ([] : List q12)), 6)) ∧
 (¬ (4 < (x1.length : Int)) →
 LoopW (Z22 x0 x1 x2 Φ) 0))
def Z23 (x0 : q9) (Φ : Int → Prop) : Prop :=
 (x0.Size < 0 →
 Φ 3) ∧
 (¬ (x0.Size < 0) →
 (4096 < x0.Size →
 Φ 3) ∧
 (¬ (4096 < x0.Size) →
 ∃ v1 : Int × Unit, Z16 x0.Size (fun z => (z, ()) = v1) ∧
 ((x0.Words.length : Int) ≠ v1.1 →
 Φ 3) ∧
 (¬ ((x0.Words.length : Int) ≠ v1.1) →
 (0 ≤ x0.Size ∧ 64 ≠ (0 : Int)) ∧
 (0 < (x0.Size % 64) →
 inI ((x0.Words.length : Int) - 1) ∧
 inX ((x0.Words.length : Int) - 1) x0.Words.length ∧
 0 ≤ (x0.Size % 64) ∧
 (((ix x0.Words ((x0.Words.length : Int) - 1)) >>> ((x0.Size % 64) : Int).toNat) ≠ (0#64) →
 Φ 3) ∧
 (¬ (((ix x0.Words ((x0.Words.length : Int) - 1)) >>> ((x0.Size % 64) : Int).toNat) ≠ (0#64)) →
 Φ 0)) ∧
 (¬ (0 < (x0.Size % 64)) →
 Φ 0))))
def Z24 (x0 : q9) (x1 : Int) (Φ : Bool × Int → Prop) : Prop :=
 Z23 x0 fun v1 =>
 (v1 ≠ 0 →
 Φ (false, v1)) ∧
 (¬ (v1 ≠ 0) →
 (x0.Size ≠ x1 →
 Φ (false, 22)) ∧
 (¬ (x0.Size ≠ x1) →
 Φ (true, 0)))
def Z25 (x0 : List q9) (x1 : List Int) (Φ : Int → Prop) : (Int × List Bool) → ((Int × List Bool) → Prop) → Prop
 | (v1, v2), rec1 =>
 (v1 < (x0.length : Int) →
 inX v1 x0.length ∧
 inX v1 x1.length ∧
 ∃ v3 : Bool × Int × Unit, Z24 (ix x0 v1) (ix x1 v1) (fun z => (z.1, z.2, ()) = v3) ∧
 (v3.2.1 ≠ 0 →
 Φ v3.2.1) ∧
 (¬ (v3.2.1 ≠ 0) →
 lenOk (v2 ++ ([v3.1] : List Bool)).length 1 ∧
 inI (v1 + 1) ∧
 rec1 ((v1 + 1), (v2 ++ ([v3.1] : List Bool))))) ∧
 (¬ (v1 < (x0.length : Int)) →
 Φ 0)
def Z26 (x0 : List q9) (x1 : List Int) (Φ : Int → Prop) : Prop :=
 ((x0.length : Int) ≠ (x1.length : Int) →
 Φ 6) ∧
 (¬ ((x0.length : Int) ≠ (x1.length : Int)) →
 LoopW (Z25 x0 x1 Φ) (0, ([] : List Bool)))
def Z27 (x0 : q13) (Φ : Int → Prop) : (Int × Int) → ((Int × Int) → Prop) → Prop
 | (v2, v3), rec1 =>
 (v3 < (x0.Peers.length : Int) →
 inX v3 x0.Peers.length ∧
 Z15 ((ix x0.Peers v3).Site) fun v4 =>
 (¬ (v4 = true) →
 Φ 2) ∧
 (¬ (¬ (v4 = true)) →
 (((ix x0.Peers v3).Site) ≤ v2 →
 Φ 8) ∧
 (¬ (((ix x0.Peers v3).Site) ≤ v2) →
 Z14 ((ix x0.Peers v3).Common) 0 1073741824 fun v5 =>
 (¬ (v5 = true) →
 Φ 2) ∧
 (¬ (¬ (v5 = true)) →
 Z26 ((ix x0.Peers v3).Dirty) x0.Sizes fun v6 =>
 (v6 ≠ 0 →
 Φ v6) ∧
 (¬ (v6 ≠ 0) →
 inI (v3 + 1) ∧
 rec1 ((ix x0.Peers v3).Site, (v3 + 1))))))) ∧
 (¬ (v3 < (x0.Peers.length : Int)) →
 Φ 0)
def Z28 (x0 : q13) (Φ : Int → Prop) : Prop :=
 q77 x0.Sizes fun v1 =>
 (v1.2 ≠ 0 →
 Φ v1.2) ∧
 (¬ (v1.2 ≠ 0) →
 (4 < (x0.Peers.length : Int) →
 Φ 6) ∧
 (¬ (4 < (x0.Peers.length : Int)) →
 LoopW (Z27 x0 Φ) ((-1), 0)))
def q132 (x0 : List (List Sec)) (x1 : q10) (Φ : Int → Prop) : Prop :=
 q38 x0 fun v1 =>
 (v1 ≠ 0 →
 Φ v1) ∧
 (¬ (v1 ≠ 0) →
 q81 x0 x1 fun v2 =>
 Φ v2)
def Z29 (x0 : List (BitVec 64)) (Φ : List (BitVec 64) → Prop) : Prop :=
 (x0 = [] →
 Φ ([] : List (BitVec 64))) ∧
 (
 lenOk (([] : List (BitVec 64)) ++ x0).length 8 ∧
 Φ (([] : List (BitVec 64)) ++ x0))
def q160 (x0 : q9) (Φ : q9 → Prop) : Prop :=
 ∃ v1 : List (BitVec 64) × Unit, Z29 x0.Words (fun z => (z, ()) = v1) ∧
 Φ (q9.mk x0.Size v1.1)
def Z30 (x0 : List q9) (Φ : List q9 → Prop) : (Int × List q9) → ((Int × List q9) → Prop) → Prop
 | (v1, v2), rec1 =>
 (v1 < (x0.length : Int) →
 inX v1 x0.length ∧
 q160 (ix x0 v1) fun v3 =>
 lenOk (v2 ++ ([v3] : List q9)).length 32 ∧
 inI (v1 + 1) ∧
 rec1 ((v1 + 1), (v2 ++ ([v3] : List q9)))) ∧
 (¬ (v1 < (x0.length : Int)) →
 Φ v2)
def Z31 (x0 : List q9) (Φ : List q9 → Prop) : Prop :=
 LoopW (Z30 x0 Φ) (0, ([] : List q9))
def q161 (x0 : q8) (x1 : Int) (Φ : Bool → Prop) : Prop :=
 (0 ≤ x0.Start →
 (0 ≤ x0.Count →
 (x0.Start ≤ x1 →
 inI (x1 - x0.Start) ∧
 Φ (decide (x0.Count ≤ (x1 - x0.Start)))) ∧
 (¬ (x0.Start ≤ x1) →
 Φ false)) ∧
 (¬ (0 ≤ x0.Count) →
 Φ false)) ∧
 (¬ (0 ≤ x0.Start) →
 Φ false)
def q107 (x0 : Int) (x1 : Int) (x2 : Int) (Φ : BitVec 64 → Prop) : Prop :=
 inI (x0 * 64) ∧
 inI (x1 - (x0 * 64)) ∧
 inI (x0 * 64) ∧
 inI (x2 - (x0 * 64)) ∧
 ((if 64 < (x2 - (x0 * 64)) then 64 else (x2 - (x0 * 64))) ≤ (if (x1 - (x0 * 64)) < 0 then 0 else (x1 - (x0 * 64))) →
 Φ (0#64)) ∧
 (¬ ((if 64 < (x2 - (x0 * 64)) then 64 else (x2 - (x0 * 64))) ≤ (if (x1 - (x0 * 64)) < 0 then 0 else (x1 - (x0 * 64)))) →
 inI ((if 64 < (x2 - (x0 * 64)) then 64 else (x2 - (x0 * 64))) - (if (x1 - (x0 * 64)) < 0 then 0 else (x1 - (x0 * 64)))) ∧
 inI (64 - ((if 64 < (x2 - (x0 * 64)) then 64 else (x2 - (x0 * 64))) - (if (x1 - (x0 * 64)) < 0 then 0 else (x1 - (x0 * 64))))) ∧
 0 ≤ (64 - ((if 64 < (x2 - (x0 * 64)) then 64 else (x2 - (x0 * 64))) - (if (x1 - (x0 * 64)) < 0 then 0 else (x1 - (x0 * 64))))) ∧
 0 ≤ (if (x1 - (x0 * 64)) < 0 then 0 else (x1 - (x0 * 64))) ∧
 Φ (((18446744073709551615#64) >>> ((64 - ((if 64 < (x2 - (x0 * 64)) then 64 else (x2 - (x0 * 64))) - (if (x1 - (x0 * 64)) < 0 then 0 else (x1 - (x0 * 64))))) : Int).toNat) <<< ((if (x1 - (x0 * 64)) < 0 then 0 else (x1 - (x0 * 64))) : Int).toNat))
def Z32 (x0 : BitVec 64) (x1 : BitVec 64) (Φ : BitVec 64 → Prop) : Prop :=
 Φ (x0 ||| x1)
def q432 (x0 : q9) (x1 : q8) (v3 : List (BitVec 64)) (Φ : q9 × Int → Prop) : (Int × List (BitVec 64)) → ((Int × List (BitVec 64)) → Prop) → Prop
 | (v4, v5), rec1 =>
 (v4 < (v3.length : Int) →
 inX v4 v5.length ∧
 inI (x1.Start + x1.Count) ∧
 ∃ v6 : BitVec 64 × Unit, q107 v4 x1.Start (x1.Start + x1.Count) (fun z => (z, ()) = v6) ∧
 ∃ v7 : BitVec 64 × Unit, Z32 (ix v5 v4) v6.1 (fun z => (z, ()) = v7) ∧
 inX v4 v5.length ∧
 inI (v4 + 1) ∧
 rec1 ((v4 + 1), (put v5 v4 v7.1))) ∧
 (¬ (v4 < (v3.length : Int)) →
 Φ ((q9.mk x0.Size v5), 0))
def q133 (x0 : q9) (x1 : q8) (Φ : q9 × Int → Prop) : Prop :=
 Z23 x0 fun v1 =>
 (v1 ≠ 0 →
 Φ ((q9.mk 0 ([] : List (BitVec 64))), v1)) ∧
 (¬ (v1 ≠ 0) →
 q161 x1 x0.Size fun v2 =>
 (¬ (v2 = true) →
 Φ ((q9.mk 0 ([] : List (BitVec 64))), 2)) ∧
 (¬ (¬ (v2 = true)) →
 Z29 x0.Words fun v3 =>
 LoopW (q432 x0 x1 v3 Φ) (0, v3)))
def Z33 (v8 : List ((Int × q12) × List q9)) (v10 : List Int) (Φ : q13 × Int → Prop) : (Int × List q12) → ((Int × List q12) → Prop) → Prop
 | (v11, v12), rec3 =>
 (v11 < ((sortZ ((v8.map fun p => (p.1.1, (q12.mk p.1.2.Site p.1.2.Common p.2))).map fun p => p.1)).length : Int) →
 inX v11 (sortZ ((v8.map fun p => (p.1.1, (q12.mk p.1.2.Site p.1.2.Common p.2))).map fun p => p.1)).length ∧
 lenOk (v12 ++ ([(mget (v8.map fun p => (p.1.1, (q12.mk p.1.2.Site p.1.2.Common p.2))) (ix (sortZ ((v8.map fun p => (p.1.1, (q12.mk p.1.2.Site p.1.2.Common p.2))).map fun p => p.1)) v11) (q12.mk 0 0 ([] : List q9)))] : List q12)).length 40 ∧
 inI (v11 + 1) ∧
 rec3 ((v11 + 1), (v12 ++ ([(mget (v8.map fun p => (p.1.1, (q12.mk p.1.2.Site p.1.2.Common p.2))) (ix (sortZ ((v8.map fun p => (p.1.1, (q12.mk p.1.2.Site p.1.2.Common p.2))).map fun p => p.1)) v11) (q12.mk 0 0 ([] : List q9)))] : List q12)))) ∧
 (¬ (v11 < ((sortZ ((v8.map fun p => (p.1.1, (q12.mk p.1.2.Site p.1.2.Common p.2))).map fun p => p.1)).length : Int)) →
 Φ ((q13.mk v10 v12), 0))
def Z34 (x1 : q10) (v7 : (Nat × List Nat)) (v8 : List ((Int × q12) × List q9)) (rec2 : (((Nat × List Nat)) × (List ((Int × q12) × List q9))) → Prop) (i9 : Nat) (Φ : q13 × Int → Prop) : (Int × List q9) → ((Int × List q9) → Prop) → Prop
 | (v13, v14), rec4 =>
 (v13 < (([x1] : List q10).length : Int) →
 inX v13 ([x1] : List q10).length ∧
 inX ((ix ([x1] : List q10) v13).Volume) v14.length ∧
 ∃ v15 : q9 × Int × Unit, q133 (ix v14 ((ix ([x1] : List q10) v13).Volume)) (q8.mk ((ix ([x1] : List q10) v13).Start) (((ix ([x1] : List q10) v13).Data).length : Int)) (fun z => (z.1, z.2, ()) = v15) ∧
 (v15.2.1 ≠ 0 →
 (v15.2.1 ≠ 0 →
 Φ ((q13.mk ([] : List Int) ([] : List q12)), v15.2.1)) ∧
 (¬ (v15.2.1 ≠ 0) →
 False)) ∧
 (¬ (v15.2.1 ≠ 0) →
 inX ((ix ([x1] : List q10) v13).Volume) v14.length ∧
 inI (v13 + 1) ∧
 rec4 ((v13 + 1), (put v14 ((ix ([x1] : List q10) v13).Volume) v15.1)))) ∧
 (¬ (v13 < (([x1] : List q10).length : Int)) →
 ((0 : Int) ≠ 0 →
 Φ ((q13.mk ([] : List Int) ([] : List q12)), 0)) ∧
 (¬ ((0 : Int) ≠ 0) →
 i9 < v8.length ∧
 (entD v8 i9).1.1 = ((entD v8 i9).1.1) ∧
 (∀ i, i < i9 → (entD v8 i).1.1 ≠ ((entD v8 i9).1.1)) ∧
 rec2 ((v7.1, (i9 :: v7.2)), (v8.set i9 ((((entD v8 i9).1.1), (q12.mk (((entD v8 i9).1.2).Site) (((entD v8 i9).1.2).Common) ([] : List q9))), v14)))))
def Z35 (x0 : q13) (x1 : q10) (Φ : q13 × Int → Prop) : (((Nat × List Nat)) × (List ((Int × q12) × List q9))) → ((((Nat × List Nat)) × (List ((Int × q12) × List q9))) → Prop) → Prop
 | (v7, v8), rec2 =>
 v8.length = v7.1 ∧ ((∀ i, i < v8.length → i ∈ v7.2) →
 Z19 x0.Sizes fun v10 =>
 (∀ p, p ∈ v8 → true = true) ∧
 ((v8.map fun p => (p.1.1, (q12.mk p.1.2.Site p.1.2.Common p.2))).map fun p => p.1).Nodup ∧
 (∀ p, p ∈ (v8.map fun p => (p.1.1, (q12.mk p.1.2.Site p.1.2.Common p.2))) → inI p.1) ∧
 lenOk (v8.map fun p => (p.1.1, (q12.mk p.1.2.Site p.1.2.Common p.2))).length 8 ∧
 LoopW (Z33 v8 v10 Φ) (0, ([] : List q12))) ∧
 ∀ i9, i9 < v8.length → i9 ∉ v7.2 →
 v8.length = v7.1 ∧
 i9 < v8.length ∧
 i9 = i9 ∧
 LoopW (Z34 x1 v7 v8 rec2 i9 Φ) (0, (entD v8 i9).2)
def Z36 (x0 : q13) (x1 : q10) (Φ : q13 × Int → Prop) : (Int × (List ((Int × q12) × List q9))) → ((Int × (List ((Int × q12) × List q9))) → Prop) → Prop
 | (v4, v5), rec1 =>
 (v4 < (x0.Peers.length : Int) →
 inX v4 x0.Peers.length ∧
 Z31 ((ix x0.Peers v4).Dirty) fun v6 =>
 mhas (v5.map fun p => p.1) ((ix x0.Peers v4).Site) = false ∧
 inI (v4 + 1) ∧
 rec1 ((v4 + 1), (v5 ++ [((((ix x0.Peers v4).Site), (q12.mk ((ix x0.Peers v4).Site) ((ix x0.Peers v4).Common) ([] : List q9))), v6)]))) ∧
 (¬ (v4 < (x0.Peers.length : Int)) →
 LoopW (Z35 x0 x1 Φ) ((v5.length, []), v5))
def Z37 (x0 : q13) (x1 : q10) (Φ : q13 × Int → Prop) : Prop :=
 Z28 x0 fun v1 =>
 (v1 ≠ 0 →
 Φ ((q13.mk ([] : List Int) ([] : List q12)), v1)) ∧
 (¬ (v1 ≠ 0) →
 q77 x0.Sizes fun v2 =>
 (v2.2 ≠ 0 →
 Φ ((q13.mk ([] : List Int) ([] : List q12)), v2.2)) ∧
 (¬ (v2.2 ≠ 0) →
 q132 v2.1 x1 fun v3 =>
 (v3 ≠ 0 →
 Φ ((q13.mk ([] : List Int) ([] : List q12)), v3)) ∧
 (¬ (v3 ≠ 0) →
 LoopW (Z36 x0 x1 Φ) (0, ([] : List ((Int × q12) × List q9))))))
def Z38 (x3 : List q10) (Φ : q13 × Bool → Prop) : (Int × Int × List Int × List q12) → ((Int × Int × List Int × List q12) → Prop) → Prop
 | (v2, v3, v4, v5), rec1 =>
 (v3 < (x3.length : Int) →
 inX v3 x3.length ∧
 (v2 = 0 →
 Z37 (q13.mk v4 v5) (ix x3 v3) fun v6 =>
 inI (v3 + 1) ∧
 rec1 (v6.2, (v3 + 1), v6.1.Sizes, v6.1.Peers)) ∧
 (¬ (v2 = 0) →
 inI (v3 + 1) ∧
 rec1 (v2, (v3 + 1), v4, v5))) ∧
 (¬ (v3 < (x3.length : Int)) →
 Φ ((q13.mk v4 v5), decide (v2 = 0)))
def Z39 (x0 : List Int) (x1 : Int) (x2 : Int) (x3 : List q10) (Φ : q13 × Bool → Prop) : Prop :=
 q159 x0 ([x1] : List Int) x2 fun v1 =>
 LoopW (Z38 x3 Φ) (v1.2, 0, v1.1.Sizes, v1.1.Peers)
def Z40 (x0 : q13) (x1 : Int) (Φ : List q9 × Int × Int → Prop) : (Int × (List (Int × q12))) → ((Int × (List (Int × q12))) → Prop) → Prop
 | (v2, v3), rec1 =>
 (v2 < (x0.Peers.length : Int) →
 inX v2 x0.Peers.length ∧
 Z31 ((ix x0.Peers v2).Dirty) fun v4 =>
 inI (v2 + 1) ∧
 rec1 ((v2 + 1), (mput v3 ((ix x0.Peers v2).Site) (q12.mk ((ix x0.Peers v2).Site) ((ix x0.Peers v2).Common) v4)))) ∧
 (¬ (v2 < (x0.Peers.length : Int)) →
 (¬ ((mhas v3 x1) = true) →
 Φ (([] : List q9), 0, 7)) ∧
 (¬ (¬ ((mhas v3 x1) = true)) →
 Φ ((mget v3 x1 (q12.mk 0 0 ([] : List q9))).Dirty, (mget v3 x1 (q12.mk 0 0 ([] : List q9))).Common, 0)))
def Z41 (x0 : q13) (x1 : Int) (Φ : List q9 × Int × Int → Prop) : Prop :=
 Z28 x0 fun v1 =>
 (v1 ≠ 0 →
 Φ (([] : List q9), 0, v1)) ∧
 (¬ (v1 ≠ 0) →
 LoopW (Z40 x0 x1 Φ) (0, ([] : List (Int × q12))))
def Z42 (x0 : Int) (x1 : List q23) (x2 : q13) (x3 : Int) (x4 : List (List Sec)) (Φ : q16 × Bool → Prop) : Prop :=
 Z41 x2 x3 fun v1 =>
 Φ ((q16.mk x0 x1 v1.1 x4), decide (v1.2.2 = 0))
def Z43 (x0 : q14) (Φ : q16 × q16 × q13 × Bool → Prop) : Prop :=
 Z13 x0.Common fun v1 =>
 q39 x0.Common x0.Old fun v2 =>
 q39 x0.Common x0.New fun v3 =>
 Z39 v1 1 5 x0.Old fun v4 =>
 Z39 v1 0 5 x0.New fun v5 =>
 Z42 0 ([(q23.mk 1 1 7)] : List q23) v4.1 1 v2.1 fun v6 =>
 Z42 1 ([(q23.mk 1 1 5), (q23.mk 2 6 9)] : List q23) v5.1 0 v3.1 fun v7 =>
 (v4.2 = true →
 (v5.2 = true →
 (v6.2 = true →
 (v7.2 = true →
 (v2.2.2 = 0 →
 Φ (v6.1, v7.1, v5.1, decide (v3.2.2 = 0))) ∧
 (¬ (v2.2.2 = 0) →
 Φ (v6.1, v7.1, v5.1, false))) ∧
 (¬ (v7.2 = true) →
 Φ (v6.1, v7.1, v5.1, false))) ∧
 (¬ (v6.2 = true) →
 Φ (v6.1, v7.1, v5.1, false))) ∧
 (¬ (v5.2 = true) →
 Φ (v6.1, v7.1, v5.1, false))) ∧
 (¬ (v4.2 = true) →
 Φ (v6.1, v7.1, v5.1, false))
def q211 (x0 : Int) (x1 : Int) (Φ : Bool → Prop) : Prop :=
 (x1 ≤ x0 →
 Φ (decide (x0 ≤ 1073741824))) ∧
 (¬ (x1 ≤ x0) →
 Φ false)
def Z44 (x0 : List q23) (Φ : Bool → Prop) : (Int × Int × Int × Int) → ((Int × Int × Int × Int) → Prop) → Prop
 | (v1, v2, _, v4), rec1 =>
 (v1 < (x0.length : Int) →
 inX v1 x0.length ∧
 inI (v4 + 1) ∧
 (((ix x0 v1).From) ≠ (v4 + 1) →
 Φ false) ∧
 (¬ (((ix x0 v1).From) ≠ (v4 + 1)) →
 (((ix x0 v1).To) < ((ix x0 v1).From) →
 Φ false) ∧
 (¬ (((ix x0 v1).To) < ((ix x0 v1).From)) →
 (1073741824 < ((ix x0 v1).To) →
 Φ false) ∧
 (¬ (1073741824 < ((ix x0 v1).To)) →
 q211 ((ix x0 v1).Epoch) 1 fun v5 =>
 (¬ (v5 = true) →
 Φ false) ∧
 (¬ (¬ (v5 = true)) →
 (((ix x0 v1).Epoch) ≤ v2 →
 Φ false) ∧
 (¬ (((ix x0 v1).Epoch) ≤ v2) →
 inI (v1 + 1) ∧
 rec1 ((v1 + 1), (ix x0 v1).Epoch, (ix x0 v1).From, (ix x0 v1).To))))))) ∧
 (¬ (v1 < (x0.length : Int)) →
 Φ true)
def Z45 (x0 : List q23) (Φ : Bool → Prop) : Prop :=
 LoopW (Z44 x0 Φ) (0, 0, 0, 0)
def Z46 (x0 : q16) (Φ : Int → Prop) : (Int) → ((Int) → Prop) → Prop
 | v4, rec1 =>
 (v4 < (x0.Dirty.length : Int) →
 inX v4 x0.Dirty.length ∧
 Z23 (ix x0.Dirty v4) fun v5 =>
 (v5 ≠ 0 →
 Φ v5) ∧
 (¬ (v5 ≠ 0) →
 inX v4 x0.Image.length ∧
 (((ix x0.Dirty v4).Size) ≠ ((ix x0.Image v4).length : Int) →
 Φ 22) ∧
 (¬ (((ix x0.Dirty v4).Size) ≠ ((ix x0.Image v4).length : Int)) →
 inI (v4 + 1) ∧
 rec1 (v4 + 1)))) ∧
 (¬ (v4 < (x0.Dirty.length : Int)) →
 Φ 0)
def q87 (x0 : q16) (Φ : Int → Prop) : Prop :=
 q211 x0.Site 0 fun v1 =>
 (¬ (v1 = true) →
 Φ 2) ∧
 (¬ (¬ (v1 = true)) →
 Z45 x0.Lineage fun v2 =>
 (¬ (v2 = true) →
 Φ 3) ∧
 (¬ (¬ (v2 = true)) →
 q38 x0.Image fun v3 =>
 (v3 ≠ 0 →
 Φ v3) ∧
 (¬ (v3 ≠ 0) →
 ((x0.Dirty.length : Int) ≠ (x0.Image.length : Int) →
 Φ 6) ∧
 (¬ ((x0.Dirty.length : Int) ≠ (x0.Image.length : Int)) →
 LoopW (Z46 x0 Φ) 0))))
def Z47 (x0 : List Sec) (x1 : List Sec) (Φ : Bool → Prop) : Prop :=
 Φ (decide ((x0.length : Int) = (x1.length : Int)))
def Z48 (x0 : List (List Sec)) (x1 : List (List Sec)) (Φ : Bool → Prop) : (Int) → ((Int) → Prop) → Prop
 | v1, rec1 =>
 (v1 < (x0.length : Int) →
 inX v1 x0.length ∧
 inX v1 x1.length ∧
 Z47 (ix x0 v1) (ix x1 v1) fun v2 =>
 (¬ (v2 = true) →
 Φ false) ∧
 (¬ (¬ (v2 = true)) →
 inI (v1 + 1) ∧
 rec1 (v1 + 1))) ∧
 (¬ (v1 < (x0.length : Int)) →
 Φ true)
def q162 (x0 : List (List Sec)) (x1 : List (List Sec)) (Φ : Bool → Prop) : Prop :=
 ((x0.length : Int) ≠ (x1.length : Int) →
 Φ false) ∧
 (¬ ((x0.length : Int) ≠ (x1.length : Int)) →
 LoopW (Z48 x0 x1 Φ) 0)
def q257 (x0 : BitVec 64) (x1 : BitVec 64) (Φ : BitVec 64 → Prop) : Prop :=
 Φ (x0 ||| x1)
def q475 (x0 : q9) (x1 : q9) (Φ : q9 × Int → Prop) : (Int × List (BitVec 64)) → ((Int × List (BitVec 64)) → Prop) → Prop
 | (v3, v4), rec1 =>
 (v3 < ((List.replicate (x0.Words.length : Int).toNat (0#64 : BitVec 64)).length : Int) →
 inX v3 x0.Words.length ∧
 inX v3 x1.Words.length ∧
 ∃ v5 : BitVec 64 × Unit, q257 (ix x0.Words v3) (ix x1.Words v3) (fun z => (z, ()) = v5) ∧
 inX v3 v4.length ∧
 inI (v3 + 1) ∧
 rec1 ((v3 + 1), (put v4 v3 v5.1))) ∧
 (¬ (v3 < ((List.replicate (x0.Words.length : Int).toNat (0#64 : BitVec 64)).length : Int)) →
 Φ ((q9.mk x0.Size v4), 0))
def q163 (x0 : q9) (x1 : q9) (Φ : q9 × Int → Prop) : Prop :=
 Z23 x0 fun v1 =>
 (v1 ≠ 0 →
 Φ ((q9.mk 0 ([] : List (BitVec 64))), v1)) ∧
 (¬ (v1 ≠ 0) →
 Z23 x1 fun v2 =>
 (v2 ≠ 0 →
 Φ ((q9.mk 0 ([] : List (BitVec 64))), v2)) ∧
 (¬ (v2 ≠ 0) →
 (x0.Size ≠ x1.Size →
 Φ ((q9.mk 0 ([] : List (BitVec 64))), 22)) ∧
 (¬ (x0.Size ≠ x1.Size) →
 0 ≤ (x0.Words.length : Int) ∧
 lenOk (x0.Words.length : Int).toNat 8 ∧
 LoopW (q475 x0 x1 Φ) (0, (List.replicate (x0.Words.length : Int).toNat (0#64 : BitVec 64))))))
def Z49 (x0 : BitVec 64) (Φ : Int → Prop) : Prop := x0 ≠ 0#64 ∧ Φ (Lib.ctz 64 x0.toNat : Int)
def Z50 (v2 : Int) (rec1 : (List (Int × Unit) × Int) → Prop) : (List (Int × Unit) × BitVec 64) → ((List (Int × Unit) × BitVec 64) → Prop) → Prop
 | (l2, v4), rec2 =>
 (v4 ≠ (0#64) →
 inI (v2 * 64) ∧
 ∃ v5 : Int × Unit, Z49 v4 (fun z => (z, ()) = v5) ∧
 inI ((v2 * 64) + v5.1) ∧
 Yl l2 fun v6 r7 => (((v2 * 64) + v5.1), ()) = v6 ∧ (
 rec2 (r7, (v4 &&& (v4 - (1#64))))) ∧ (
 True)) ∧
 (¬ (v4 ≠ (0#64)) →
 inI (v2 + 1) ∧
 rec1 (l2, (v2 + 1)))
def Z51 (x0 : q9) (x1 : Int) : (List (Int × Unit) × Int) → ((List (Int × Unit) × Int) → Prop) → Prop
 | (l1, v2), rec1 =>
 (v2 < (x0.Words.length : Int) →
 inX v2 x0.Words.length ∧
 ∃ v3 : BitVec 64 × Unit, q107 v2 x1 x0.Size (fun z => (z, ()) = v3) ∧
 LoopW (Z50 v2 rec1) (l1, ((ix x0.Words v2) &&& v3.1))) ∧
 (¬ (v2 < (x0.Words.length : Int)) →
 l1 = [])
def q78 (x0 : q9) (x1 : Int) (l : List (Int × Unit)) : Prop :=
 ∃ v1 : Int × Unit, Z23 x0 (fun z => (z, ()) = v1) ∧
 (v1.1 ≠ 0 →
 l = []) ∧
 (¬ (v1.1 ≠ 0) →
 LoopW (Z51 x0 x1) (l, 0))
def Z52 (Φ : List q8 → Prop) : (List (Int × Unit) × List q8) → ((List (Int × Unit) × List q8) → Prop) → Prop
 | (lst, v1), rec1 =>
 match lst with
 | [] =>
 Φ v1
 | v2 :: r3 =>
 (0 < (v1.length : Int) →
 inI ((v1.length : Int) - 1) ∧
 inX ((v1.length : Int) - 1) v1.length ∧
 inI ((v1.length : Int) - 1) ∧
 inX ((v1.length : Int) - 1) v1.length ∧
 inI (((ix v1 ((v1.length : Int) - 1)).Start) + ((ix v1 ((v1.length : Int) - 1)).Count)) ∧
 ((((ix v1 ((v1.length : Int) - 1)).Start) + ((ix v1 ((v1.length : Int) - 1)).Count)) = v2.1 →
 inI ((v1.length : Int) - 1) ∧
 inX ((v1.length : Int) - 1) v1.length ∧
 inI (((ix v1 ((v1.length : Int) - 1)).Count) + 1) ∧
 inX ((v1.length : Int) - 1) v1.length ∧
 rec1 (r3, (put v1 ((v1.length : Int) - 1) (q8.mk ((ix v1 ((v1.length : Int) - 1)).Start) (((ix v1 ((v1.length : Int) - 1)).Count) + 1))))) ∧
 (¬ ((((ix v1 ((v1.length : Int) - 1)).Start) + ((ix v1 ((v1.length : Int) - 1)).Count)) = v2.1) →
 lenOk (v1 ++ ([(q8.mk v2.1 1)] : List q8)).length 16 ∧
 rec1 (r3, (v1 ++ ([(q8.mk v2.1 1)] : List q8))))) ∧
 (¬ (0 < (v1.length : Int)) →
 lenOk (v1 ++ ([(q8.mk v2.1 1)] : List q8)).length 16 ∧
 rec1 (r3, (v1 ++ ([(q8.mk v2.1 1)] : List q8))))
def Z53 (x0 : q9) (Φ : List q8 → Prop) : Prop :=
 ∃ l4 : List (Int × Unit), q78 x0 0 l4 ∧
 LoopW (Z52 Φ) (l4, ([] : List q8))
def Z54 (x0 : q16) (x1 : q16) (Φ : List (List q8) → Prop) : (Int × List (List q8)) → ((Int × List (List q8)) → Prop) → Prop
 | (v1, v2), rec1 =>
 (v1 < ((List.replicate (x0.Dirty.length : Int).toNat (([] : List q8) : List q8)).length : Int) →
 inX v1 x0.Dirty.length ∧
 inX v1 x1.Dirty.length ∧
 ∃ v3 : q9 × Int × Unit, q163 (ix x0.Dirty v1) (ix x1.Dirty v1) (fun z => (z.1, z.2, ()) = v3) ∧
 Z53 v3.1 fun v4 =>
 inX v1 v2.length ∧
 inI (v1 + 1) ∧
 rec1 ((v1 + 1), (put v2 v1 v4))) ∧
 (¬ (v1 < ((List.replicate (x0.Dirty.length : Int).toNat (([] : List q8) : List q8)).length : Int)) →
 Φ v2)
def Z55 (x0 : q16) (x1 : q16) (Φ : List (List q8) → Prop) : Prop :=
 0 ≤ (x0.Dirty.length : Int) ∧
 lenOk (x0.Dirty.length : Int).toNat 24 ∧
 LoopW (Z54 x0 x1 Φ) (0, (List.replicate (x0.Dirty.length : Int).toNat (([] : List q8) : List q8)))
def Z56 (x0 : q16) (x1 : q16) (Φ : List (List q8) × Int → Prop) : (Int) → ((Int) → Prop) → Prop
 | v1, rec1 =>
 (v1 < (([x0, x1] : List q16).length : Int) →
 inX v1 ([x0, x1] : List q16).length ∧
 q87 (ix ([x0, x1] : List q16) v1) fun v2 =>
 (v2 ≠ 0 →
 Φ (([] : List (List q8)), v2)) ∧
 (¬ (v2 ≠ 0) →
 inI (v1 + 1) ∧
 rec1 (v1 + 1))) ∧
 (¬ (v1 < (([x0, x1] : List q16).length : Int)) →
 q162 x0.Image x1.Image fun v3 =>
 (¬ (v3 = true) →
 Φ (([] : List (List q8)), 22)) ∧
 (¬ (¬ (v3 = true)) →
 Z55 x0 x1 fun v4 =>
 Φ (v4, 0)))
def Z57 (x0 : q16) (x1 : q16) (Φ : List (List q8) × Int → Prop) : Prop :=
 LoopW (Z56 x0 x1 Φ) 0
def Z58 (x0 : Int) (Φ : Bool → Prop) : Prop :=
 (0 ≤ x0 →
 Φ (decide (x0 < 4))) ∧
 (¬ (0 ≤ x0) →
 Φ false)
def Z59 (x0 : List q23) (Φ : Int × Int → Prop) : Prop :=
 ((x0.length : Int) = 0 →
 Φ (0, 0)) ∧
 (¬ ((x0.length : Int) = 0) →
 inI ((x0.length : Int) - 1) ∧
 inX ((x0.length : Int) - 1) x0.length ∧
 Φ ((ix x0 ((x0.length : Int) - 1)).Epoch, (ix x0 ((x0.length : Int) - 1)).To))
def Z60 (x0 : List q23) (x1 : List q23) (v2 : Int) (v3 : Int) (v4 : Int) (rec2 : (Int × Int × Int) → Prop) (Φ : Int × Int → Prop) : Bool → Prop
 | v5 =>
 (v5 = true →
 inX v4 x0.length ∧
 inX v4 x1.length ∧
 inX v4 x0.length ∧
 inX v4 x0.length ∧
 inX v4 x1.length ∧
 (((ix x0 v4).To) ≠ ((ix x1 v4).To) →
 Φ ((if ((ix x1 v4).To) < ((ix x0 v4).To) then ((ix x1 v4).To) else ((ix x0 v4).To)), (ix x0 v4).Epoch)) ∧
 (¬ (((ix x0 v4).To) ≠ ((ix x1 v4).To)) →
 inI (v4 + 1) ∧
 rec2 ((if ((ix x1 v4).To) < ((ix x0 v4).To) then ((ix x1 v4).To) else ((ix x0 v4).To)), (ix x0 v4).Epoch, (v4 + 1)))) ∧
 (¬ (v5 = true) →
 Φ (v2, v3))
def Z61 (x0 : List q23) (x1 : List q23) (Φ : Int × Int → Prop) : (Int × Int × Int) → ((Int × Int × Int) → Prop) → Prop
 | (v2, v3, v4), rec2 =>
 Join (Z60 x0 x1 v2 v3 v4 rec2 Φ) fun J3 =>
 (v4 < (if (x1.length : Int) < (x0.length : Int) then (x1.length : Int) else (x0.length : Int)) →
 inX v4 x0.length ∧
 inX v4 x1.length ∧
 J3 (decide (((ix x0 v4).Epoch) = ((ix x1 v4).Epoch)))) ∧
 (¬ (v4 < (if (x1.length : Int) < (x0.length : Int) then (x1.length : Int) else (x0.length : Int))) →
 J3 false)
def Z62 (x0 : List q23) (x1 : List q23) (Φ : Int × Int → Prop) : Bool → Prop
 | v1 =>
 (v1 = true →
 Φ (0, 0)) ∧
 (¬ (v1 = true) →
 LoopW (Z61 x0 x1 Φ) (0, 0, 0))
def Z63 (x0 : List q23) (x1 : List q23) (Φ : Int × Int → Prop) : Prop :=
 Join (Z62 x0 x1 Φ) fun J1 =>
 Z45 x0 fun v6 =>
 (¬ (v6 = true) →
 J1 true) ∧
 (¬ (¬ (v6 = true)) →
 Z45 x1 fun v7 =>
 J1 (decide (¬ (v7 = true))))
def Z64 (x0 : q16) (x1 : q16) (x2 : Int) (Φ : q26 × List (List q8) × Int → Prop) : Prop :=
 Z57 x0 x1 fun v1 =>
 (¬ (v1.2 = 0) →
 False) ∧
 (¬ (¬ (v1.2 = 0)) →
 Z58 x0.Site fun v2 =>
 (v2 = true →
 Z58 x1.Site fun v3 =>
 (¬ (v3 = true) →
 False) ∧
 (¬ (¬ (v3 = true)) →
 (¬ (x0.Site ≠ x1.Site) →
 False) ∧
 (¬ (¬ (x0.Site ≠ x1.Site)) →
 Z59 x0.Lineage fun v4 =>
 Z59 x1.Lineage fun v5 =>
 (v4.1 < x2 →
 (¬ (v5.1 < x2) →
 False) ∧
 (¬ (¬ (v5.1 < x2)) →
 (¬ (x2 ≤ 1073741824) →
 False) ∧
 (¬ (¬ (x2 ≤ 1073741824)) →
 Z63 x0.Lineage x1.Lineage fun v6 =>
 ((0 : Int) ≠ 0 →
 Φ ((q26.mk 0 0 0 0 0 0 false false), ([] : List (List q8)), 0)) ∧
 (¬ ((0 : Int) ≠ 0) →
 Φ ((q26.mk 3 x1.Site x0.Site 0 x2 v6.1 false false), v1.1, 0))))) ∧
 (¬ (v4.1 < x2) →
 False)))) ∧
 (¬ (v2 = true) →
 False))
def Z65 (x0 : List Int) (x1 : List Int) (Φ : Bool → Prop) : (Int) → ((Int) → Prop) → Prop
 | v1, rec1 =>
 (v1 < (x0.length : Int) →
 inX v1 x0.length ∧
 inX v1 x1.length ∧
 ((ix x0 v1) ≠ (ix x1 v1) →
 Φ false) ∧
 (¬ ((ix x0 v1) ≠ (ix x1 v1)) →
 inI (v1 + 1) ∧
 rec1 (v1 + 1))) ∧
 (¬ (v1 < (x0.length : Int)) →
 Φ true)
def Z66 (x0 : List Int) (x1 : List Int) (Φ : Bool → Prop) : Prop :=
 ((x0.length : Int) ≠ (x1.length : Int) →
 Φ false) ∧
 (¬ ((x0.length : Int) ≠ (x1.length : Int)) →
 LoopW (Z65 x0 x1 Φ) 0)
def q433 (x0 : List (List Sec)) (x1 : List (List Sec)) (Φ : Int → Prop) : (Int) → ((Int) → Prop) → Prop
 | v1, rec1 =>
 (v1 < (([x0, x1] : List (List (List Sec))).length : Int) →
 inX v1 ([x0, x1] : List (List (List Sec))).length ∧
 q38 (ix ([x0, x1] : List (List (List Sec))) v1) fun v2 =>
 (v2 ≠ 0 →
 Φ v2) ∧
 (¬ (v2 ≠ 0) →
 inI (v1 + 1) ∧
 rec1 (v1 + 1))) ∧
 (¬ (v1 < (([x0, x1] : List (List (List Sec))).length : Int)) →
 q86 x0 fun v3 =>
 q86 x1 fun v4 =>
 Z66 v3 v4 fun v5 =>
 (¬ (v5 = true) →
 Φ 22) ∧
 (¬ (¬ (v5 = true)) →
 Φ 0))
def q195 (x0 : List (List Sec)) (x1 : List (List Sec)) (Φ : Int → Prop) : Prop :=
 LoopW (q433 x0 x1 Φ) 0
def Z67 (x0 : List Sec) (x1 : List Sec) (Φ : List q8 → Prop) : (Int × Int × List q8) → ((Int × Int × List q8) → Prop) → Prop
 | (v1, v2, v3), rec1 =>
 (v1 < (x0.length : Int) →
 inX v1 x0.length ∧
 inX v1 x1.length ∧
 ((ix x0 v1) ≠ (ix x1 v1) →
 (v1 = v2 →
 inI ((v3.length : Int) - 1) ∧
 inX ((v3.length : Int) - 1) v3.length ∧
 inI (((ix v3 ((v3.length : Int) - 1)).Count) + 1) ∧
 inX ((v3.length : Int) - 1) v3.length ∧
 inI (v1 + 1) ∧
 inI (v1 + 1) ∧
 rec1 ((v1 + 1), (v1 + 1), (put v3 ((v3.length : Int) - 1) (q8.mk ((ix v3 ((v3.length : Int) - 1)).Start) (((ix v3 ((v3.length : Int) - 1)).Count) + 1))))) ∧
 (¬ (v1 = v2) →
 lenOk (v3 ++ ([(q8.mk v1 1)] : List q8)).length 16 ∧
 inI (v1 + 1) ∧
 inI (v1 + 1) ∧
 rec1 ((v1 + 1), (v1 + 1), (v3 ++ ([(q8.mk v1 1)] : List q8))))) ∧
 (¬ ((ix x0 v1) ≠ (ix x1 v1)) →
 inI (v1 + 1) ∧
 rec1 ((v1 + 1), v2, v3))) ∧
 (¬ (v1 < (x0.length : Int)) →
 Φ v3)
def Z68 (x0 : List Sec) (x1 : List Sec) (Φ : List q8 → Prop) : Prop :=
 LoopW (Z67 x0 x1 Φ) (0, (-1), ([] : List q8))
def Z69 (x0 : List (List Sec)) (x1 : List (List Sec)) (Φ : List (List q8) × Int → Prop) : (Int × List (List q8)) → ((Int × List (List q8)) → Prop) → Prop
 | (v2, v3), rec1 =>
 (v2 < (x0.length : Int) →
 inX v2 x0.length ∧
 inX v2 x1.length ∧
 ∃ v4 : List q8 × Unit, Z68 (ix x0 v2) (ix x1 v2) (fun z => (z, ()) = v4) ∧
 lenOk (v3 ++ ([v4.1] : List (List q8))).length 24 ∧
 inI (v2 + 1) ∧
 rec1 ((v2 + 1), (v3 ++ ([v4.1] : List (List q8))))) ∧
 (¬ (v2 < (x0.length : Int)) →
 Φ (v3, 0))
def Z70 (x0 : List (List Sec)) (x1 : List (List Sec)) (Φ : List (List q8) × Int → Prop) : Prop :=
 q195 x0 x1 fun v1 =>
 (v1 ≠ 0 →
 Φ (([] : List (List q8)), v1)) ∧
 (¬ (v1 ≠ 0) →
 LoopW (Z69 x0 x1 Φ) (0, ([] : List (List q8))))
def Z71 (x0 : List q8) (v1 : Int) (v2 : Int) (rec1 : (Int × Int) → Prop) (Φ : Int → Prop) : Bool → Prop
 | v3 =>
 (v3 = true →
 Φ 2) ∧
 (¬ (v3 = true) →
 (((ix x0 v2).Start) < v1 →
 Φ 3) ∧
 (¬ (((ix x0 v2).Start) < v1) →
 inI (((ix x0 v2).Start) + ((ix x0 v2).Count)) ∧
 inI ((((ix x0 v2).Start) + ((ix x0 v2).Count)) + 1) ∧
 inI (v2 + 1) ∧
 rec1 (((((ix x0 v2).Start) + ((ix x0 v2).Count)) + 1), (v2 + 1))))
def Z72 (x0 : List q8) (x1 : Int) (Φ : Int → Prop) : (Int × Int) → ((Int × Int) → Prop) → Prop
 | (v1, v2), rec1 =>
 (v2 < (x0.length : Int) →
 inX v2 x0.length ∧
 (((ix x0 v2).Count) ≤ 0 →
 Φ 1) ∧
 (¬ (((ix x0 v2).Count) ≤ 0) →
 Join (Z71 x0 v1 v2 rec1 Φ) fun J2 =>
 (((ix x0 v2).Start) < 0 →
 J2 true) ∧
 (¬ (((ix x0 v2).Start) < 0) →
 inI (x1 - ((ix x0 v2).Start)) ∧
 J2 (decide ((x1 - ((ix x0 v2).Start)) < ((ix x0 v2).Count)))))) ∧
 (¬ (v2 < (x0.length : Int)) →
 Φ 0)
def Z73 (x0 : List q8) (x1 : Int) (Φ : Int → Prop) : Prop :=
 (x1 < 0 →
 Φ 2) ∧
 (¬ (x1 < 0) →
 (4096 < x1 →
 Φ 2) ∧
 (¬ (4096 < x1) →
 LoopW (Z72 x0 x1 Φ) (0, 0)))
def Z74 (x0 : List Bool) (x1 : Bool) (Φ : Int → Prop) : (Int) → ((Int) → Prop) → Prop
 | v1, rec1 =>
 (v1 < (x0.length : Int) →
 inX v1 x0.length ∧
 (x1 = (ix x0 v1) →
 Φ v1) ∧
 (¬ (x1 = (ix x0 v1)) →
 inI (v1 + 1) ∧
 rec1 (v1 + 1))) ∧
 (¬ (v1 < (x0.length : Int)) →
 Φ (-1))
def Z75 (x0 : List Bool) (x1 : Bool) (Φ : Int → Prop) : Prop :=
 LoopW (Z74 x0 x1 Φ) 0
def Z76 (x0 : List Bool) (x1 : Bool) (Φ : Bool → Prop) : Prop :=
 Z75 x0 x1 fun v1 =>
 Φ (decide (0 ≤ v1))
def Z77 (x0 : List (List Sec)) (x1 : List (List q8)) (Φ : Int → Prop) : (Int × List Bool) → ((Int × List Bool) → Prop) → Prop
 | (v1, v2), rec1 =>
 (v1 < (x1.length : Int) →
 inX v1 x1.length ∧
 inX v1 x0.length ∧
 Z73 (ix x1 v1) ((ix x0 v1).length : Int) fun v3 =>
 lenOk (v2 ++ ([decide (v3 = 0)] : List Bool)).length 1 ∧
 inI (v1 + 1) ∧
 rec1 ((v1 + 1), (v2 ++ ([decide (v3 = 0)] : List Bool)))) ∧
 (¬ (v1 < (x1.length : Int)) →
 Z76 v2 false fun v4 =>
 (v4 = true →
 Φ 3) ∧
 (¬ (v4 = true) →
 Φ 0))
def q108 (x0 : List (List Sec)) (x1 : List (List q8)) (Φ : Int → Prop) : Prop :=
 ((x1.length : Int) ≠ (x0.length : Int) →
 Φ 6) ∧
 (¬ ((x1.length : Int) ≠ (x0.length : Int)) →
 LoopW (Z77 x0 x1 Φ) (0, ([] : List Bool)))
def Z78 (x0 : q8) (Φ : Int × Int × Bool → Prop) : Int → Prop
 | v1 =>
 Φ ((if x0.Start < 0 then 0 else x0.Start), v1, decide ((if x0.Start < 0 then 0 else x0.Start) < v1))
def Z79 (x0 : q8) (Φ : Int × Int × Bool → Prop) : Bool → Prop
 | v2 =>
 (v2 = true →
 inI (x0.Start + x0.Count) ∧
 Z78 x0 Φ (if 4096 < (x0.Start + x0.Count) then 4096 else (x0.Start + x0.Count))) ∧
 (¬ (v2 = true) →
 Z78 x0 Φ 4096)
def Z80 (x0 : q8) (Φ : Int × Int × Bool → Prop) : Prop :=
 (x0.Count ≤ 0 →
 Φ (0, 0, false)) ∧
 (¬ (x0.Count ≤ 0) →
 Join (Z79 x0 Φ) fun J2 =>
 (x0.Start < 0 →
 J2 true) ∧
 (¬ (x0.Start < 0) →
 inI (4096 - x0.Start) ∧
 J2 (decide (x0.Count < (4096 - x0.Start)))))
def Z81 (x0 : Int) (Φ : Bool → Prop) : Prop :=
 Φ (decide (x0 ≠ x0))
def Z82 (x0 : Int) (x1 : Int) (Φ : Int → Prop) : Prop :=
 Z81 x0 fun v1 =>
 Z81 x1 fun v2 =>
 (v1 = true →
 (v2 = true →
 Φ 0) ∧
 (¬ (v2 = true) →
 Φ (-1))) ∧
 (¬ (v1 = true) →
 (v2 = true →
 Φ 1) ∧
 (¬ (v2 = true) →
 (x0 < x1 →
 Φ (-1)) ∧
 (¬ (x0 < x1) →
 (x1 < x0 →
 Φ 1) ∧
 (¬ (x1 < x0) →
 Φ 0))))
def Z83 (x0 : q11) (x1 : q11) (Φ : Int → Prop) : Prop :=
 Z82 x0.at_ x1.at_ fun v1 =>
 Φ v1
def Z84 (xs : List q11) (Φ : List q11 → Prop) : Prop := xs.length ≤ 1099511627776 ∧ ∀ ys : List q11, ys.Perm xs → ys.Pairwise (fun a b => a.at_ ≤ b.at_) → Φ ys
def Z85 (x0 : List (List q8)) (v1 : Int) (rec1 : (Int × List q11) → Prop) (_ : List q11 → Prop) : (Int × List q11) → ((Int × List q11) → Prop) → Prop
 | (v3, v4), rec2 =>
 (v3 < ((ix x0 v1).length : Int) →
 inX v3 (ix x0 v1).length ∧
 Z80 (ix (ix x0 v1) v3) fun v5 =>
 (v5.2.2 = true →
 lenOk (v4 ++ ([(q11.mk v5.1 v1 1), (q11.mk v5.2.1 v1 (-1))] : List q11)).length 24 ∧
 inI (v3 + 1) ∧
 rec2 ((v3 + 1), (v4 ++ ([(q11.mk v5.1 v1 1), (q11.mk v5.2.1 v1 (-1))] : List q11)))) ∧
 (¬ (v5.2.2 = true) →
 inI (v3 + 1) ∧
 rec2 ((v3 + 1), v4))) ∧
 (¬ (v3 < ((ix x0 v1).length : Int)) →
 inI (v1 + 1) ∧
 rec1 ((v1 + 1), v4))
def Z86 (x0 : List (List q8)) (Φ : List q11 → Prop) : (Int × List q11) → ((Int × List q11) → Prop) → Prop
 | (v1, v2), rec1 =>
 (v1 < (x0.length : Int) →
 inX v1 x0.length ∧
 LoopW (Z85 x0 v1 rec1 Φ) (0, v2)) ∧
 (¬ (v1 < (x0.length : Int)) →
 Z84 v2 fun v6 =>
 Φ v6)
def q63 (x0 : List (List q8)) (Φ : List q11 → Prop) : Prop :=
 LoopW (Z86 x0 Φ) (0, ([] : List q11))
def Z87 (x0 : Bool) (x1 : Bool) (Φ : Bool → Prop) : Prop :=
 (x0 = true →
 Φ x1) ∧
 (¬ (x0 = true) →
 Φ false)
def Z88 (v1 : List q11) (v3 : Bool) (v4 : Int) (v5 : Int) (v6 : Int) (v7 : List q8) (rec1 : (Int × Bool × Int × Int × Int × List q8) → Prop) (v9 : Bool) (_ : List q8 → Prop) : Int → Prop
 | v10 =>
 (¬ (v9 = true) →
 (v3 = true →
 inI (((ix v1 v4).at_) - v10) ∧
 lenOk (v7 ++ ([(q8.mk v10 (((ix v1 v4).at_) - v10))] : List q8)).length 16 ∧
 inI (v4 + 1) ∧
 rec1 (v10, v9, (v4 + 1), (v5 + ((ix v1 v4).step)), v6, (v7 ++ ([(q8.mk v10 (((ix v1 v4).at_) - v10))] : List q8)))) ∧
 (¬ (v3 = true) →
 inI (v4 + 1) ∧
 rec1 (v10, v9, (v4 + 1), (v5 + ((ix v1 v4).step)), v6, v7))) ∧
 (¬ (¬ (v9 = true)) →
 inI (v4 + 1) ∧
 rec1 (v10, v9, (v4 + 1), (v5 + ((ix v1 v4).step)), v6, v7))
def Z89 (v1 : List q11) (v2 : Int) (v3 : Bool) (v4 : Int) (v5 : Int) (v6 : Int) (v7 : List q8) (rec1 : (Int × Bool × Int × Int × Int × List q8) → Prop) (v9 : Bool) (Φ : List q8 → Prop) : Bool → Prop
 | v11 =>
 (v11 = true →
 Z88 v1 v3 v4 v5 v6 v7 rec1 v9 Φ ((ix v1 v4).at_)) ∧
 (¬ (v11 = true) →
 Z88 v1 v3 v4 v5 v6 v7 rec1 v9 Φ v2)
def Z90 (v1 : List q11) (v2 : Int) (v3 : Bool) (v4 : Int) (v5 : Int) (v6 : Int) (v7 : List q8) (rec1 : (Int × Bool × Int × Int × Int × List q8) → Prop) (Φ : List q8 → Prop) : Bool → Prop
 | v8 =>
 (v8 = true →
 inI (v4 + 1) ∧
 rec1 (v2, v3, (v4 + 1), (v5 + ((ix v1 v4).step)), v6, v7)) ∧
 (¬ (v8 = true) →
 ((0 : Int) ≤ 0 ∧ 0 < (2 : Int)) ∧
 ((0 : Int) ≤ 1 ∧ 1 < (2 : Int)) ∧
 Z87 (decide (0 < (v5 + ((ix v1 v4).step)))) (decide (0 < v6)) fun v9 =>
 Join (Z89 v1 v2 v3 v4 v5 v6 v7 rec1 v9 Φ) fun J4 =>
 (v9 = true →
 J4 (decide (¬ (v3 = true)))) ∧
 (¬ (v9 = true) →
 J4 false))
def Z91 (v1 : List q11) (v3 : Bool) (v4 : Int) (v5 : Int) (v7 : List q8) (rec1 : (Int × Bool × Int × Int × Int × List q8) → Prop) (v13 : Bool) (_ : List q8 → Prop) : Int → Prop
 | v14 =>
 (¬ (v13 = true) →
 (v3 = true →
 inI (((ix v1 v4).at_) - v14) ∧
 lenOk (v7 ++ ([(q8.mk v14 (((ix v1 v4).at_) - v14))] : List q8)).length 16 ∧
 inI (v4 + 1) ∧
 rec1 (v14, v13, (v4 + 1), v5, (v5 + ((ix v1 v4).step)), (v7 ++ ([(q8.mk v14 (((ix v1 v4).at_) - v14))] : List q8)))) ∧
 (¬ (v3 = true) →
 inI (v4 + 1) ∧
 rec1 (v14, v13, (v4 + 1), v5, (v5 + ((ix v1 v4).step)), v7))) ∧
 (¬ (¬ (v13 = true)) →
 inI (v4 + 1) ∧
 rec1 (v14, v13, (v4 + 1), v5, (v5 + ((ix v1 v4).step)), v7))
def Z92 (v1 : List q11) (v2 : Int) (v3 : Bool) (v4 : Int) (v5 : Int) (v7 : List q8) (rec1 : (Int × Bool × Int × Int × Int × List q8) → Prop) (v13 : Bool) (Φ : List q8 → Prop) : Bool → Prop
 | v15 =>
 (v15 = true →
 Z91 v1 v3 v4 v5 v7 rec1 v13 Φ ((ix v1 v4).at_)) ∧
 (¬ (v15 = true) →
 Z91 v1 v3 v4 v5 v7 rec1 v13 Φ v2)
def Z93 (v1 : List q11) (v2 : Int) (v3 : Bool) (v4 : Int) (v5 : Int) (v7 : List q8) (rec1 : (Int × Bool × Int × Int × Int × List q8) → Prop) (Φ : List q8 → Prop) : Bool → Prop
 | v12 =>
 (v12 = true →
 inI (v4 + 1) ∧
 rec1 (v2, v3, (v4 + 1), v5, (v5 + ((ix v1 v4).step)), v7)) ∧
 (¬ (v12 = true) →
 ((0 : Int) ≤ 0 ∧ 0 < (2 : Int)) ∧
 ((0 : Int) ≤ 1 ∧ 1 < (2 : Int)) ∧
 Z87 (decide (0 < v5)) (decide (0 < (v5 + ((ix v1 v4).step)))) fun v13 =>
 Join (Z92 v1 v2 v3 v4 v5 v7 rec1 v13 Φ) fun J7 =>
 (v13 = true →
 J7 (decide (¬ (v3 = true)))) ∧
 (¬ (v13 = true) →
 J7 false))
def Z94 (v1 : List q11) (v3 : Bool) (v4 : Int) (v6 : Int) (v7 : List q8) (rec1 : (Int × Bool × Int × Int × Int × List q8) → Prop) (v17 : Bool) (_ : List q8 → Prop) : Int → Prop
 | v18 =>
 (¬ (v17 = true) →
 (v3 = true →
 inI (((ix v1 v4).at_) - v18) ∧
 lenOk (v7 ++ ([(q8.mk v18 (((ix v1 v4).at_) - v18))] : List q8)).length 16 ∧
 inI (v4 + 1) ∧
 rec1 (v18, v17, (v4 + 1), (v6 + ((ix v1 v4).step)), v6, (v7 ++ ([(q8.mk v18 (((ix v1 v4).at_) - v18))] : List q8)))) ∧
 (¬ (v3 = true) →
 inI (v4 + 1) ∧
 rec1 (v18, v17, (v4 + 1), (v6 + ((ix v1 v4).step)), v6, v7))) ∧
 (¬ (¬ (v17 = true)) →
 inI (v4 + 1) ∧
 rec1 (v18, v17, (v4 + 1), (v6 + ((ix v1 v4).step)), v6, v7))
def Z95 (v1 : List q11) (v2 : Int) (v3 : Bool) (v4 : Int) (v6 : Int) (v7 : List q8) (rec1 : (Int × Bool × Int × Int × Int × List q8) → Prop) (v17 : Bool) (Φ : List q8 → Prop) : Bool → Prop
 | v19 =>
 (v19 = true →
 Z94 v1 v3 v4 v6 v7 rec1 v17 Φ ((ix v1 v4).at_)) ∧
 (¬ (v19 = true) →
 Z94 v1 v3 v4 v6 v7 rec1 v17 Φ v2)
def Z96 (v1 : List q11) (v2 : Int) (v3 : Bool) (v4 : Int) (v6 : Int) (v7 : List q8) (rec1 : (Int × Bool × Int × Int × Int × List q8) → Prop) (Φ : List q8 → Prop) : Bool → Prop
 | v16 =>
 (v16 = true →
 inI (v4 + 1) ∧
 rec1 (v2, v3, (v4 + 1), (v6 + ((ix v1 v4).step)), v6, v7)) ∧
 (¬ (v16 = true) →
 ((0 : Int) ≤ 0 ∧ 0 < (2 : Int)) ∧
 ((0 : Int) ≤ 1 ∧ 1 < (2 : Int)) ∧
 Z87 (decide (0 < (v6 + ((ix v1 v4).step)))) (decide (0 < v6)) fun v17 =>
 Join (Z95 v1 v2 v3 v4 v6 v7 rec1 v17 Φ) fun J10 =>
 (v17 = true →
 J10 (decide (¬ (v3 = true)))) ∧
 (¬ (v17 = true) →
 J10 false))
def Z97 (v1 : List q11) (v3 : Bool) (v4 : Int) (v5 : Int) (v6 : Int) (v7 : List q8) (rec1 : (Int × Bool × Int × Int × Int × List q8) → Prop) (v21 : Bool) (_ : List q8 → Prop) : Int → Prop
 | v22 =>
 (¬ (v21 = true) →
 (v3 = true →
 inI (((ix v1 v4).at_) - v22) ∧
 lenOk (v7 ++ ([(q8.mk v22 (((ix v1 v4).at_) - v22))] : List q8)).length 16 ∧
 inI (v4 + 1) ∧
 rec1 (v22, v21, (v4 + 1), v5, (v6 + ((ix v1 v4).step)), (v7 ++ ([(q8.mk v22 (((ix v1 v4).at_) - v22))] : List q8)))) ∧
 (¬ (v3 = true) →
 inI (v4 + 1) ∧
 rec1 (v22, v21, (v4 + 1), v5, (v6 + ((ix v1 v4).step)), v7))) ∧
 (¬ (¬ (v21 = true)) →
 inI (v4 + 1) ∧
 rec1 (v22, v21, (v4 + 1), v5, (v6 + ((ix v1 v4).step)), v7))
def Z98 (v1 : List q11) (v2 : Int) (v3 : Bool) (v4 : Int) (v5 : Int) (v6 : Int) (v7 : List q8) (rec1 : (Int × Bool × Int × Int × Int × List q8) → Prop) (v21 : Bool) (Φ : List q8 → Prop) : Bool → Prop
 | v23 =>
 (v23 = true →
 Z97 v1 v3 v4 v5 v6 v7 rec1 v21 Φ ((ix v1 v4).at_)) ∧
 (¬ (v23 = true) →
 Z97 v1 v3 v4 v5 v6 v7 rec1 v21 Φ v2)
def Z99 (v1 : List q11) (v2 : Int) (v3 : Bool) (v4 : Int) (v5 : Int) (v6 : Int) (v7 : List q8) (rec1 : (Int × Bool × Int × Int × Int × List q8) → Prop) (Φ : List q8 → Prop) : Bool → Prop
 | v20 =>
 (v20 = true →
 inI (v4 + 1) ∧
 rec1 (v2, v3, (v4 + 1), v5, (v6 + ((ix v1 v4).step)), v7)) ∧
 (¬ (v20 = true) →
 ((0 : Int) ≤ 0 ∧ 0 < (2 : Int)) ∧
 ((0 : Int) ≤ 1 ∧ 1 < (2 : Int)) ∧
 Z87 (decide (0 < v5)) (decide (0 < (v6 + ((ix v1 v4).step)))) fun v21 =>
 Join (Z98 v1 v2 v3 v4 v5 v6 v7 rec1 v21 Φ) fun J13 =>
 (v21 = true →
 J13 (decide (¬ (v3 = true)))) ∧
 (¬ (v21 = true) →
 J13 false))
def Z100 (v1 : List q11) (Φ : List q8 → Prop) : (Int × Bool × Int × Int × Int × List q8) → ((Int × Bool × Int × Int × Int × List q8) → Prop) → Prop
 | (v2, v3, v4, v5, v6, v7), rec1 =>
 (v4 < (v1.length : Int) →
 inX v4 v1.length ∧
 (0 ≤ ((ix v1 v4).list) ∧ ((ix v1 v4).list) < (2 : Int)) ∧
 (((ix v1 v4).list) = (0 : Int) →
 ((0 : Int) ≤ 0 ∧ 0 < (2 : Int)) ∧
 inI (v5 + ((ix v1 v4).step)) ∧
 (0 ≤ ((ix v1 v4).list) ∧ ((ix v1 v4).list) < (2 : Int)) ∧
 (((ix v1 v4).list) = (0 : Int) →
 ((0 : Int) ≤ 0 ∧ 0 < (2 : Int)) ∧
 Join (Z90 v1 v2 v3 v4 v5 v6 v7 rec1 Φ) fun J2 =>
 inI (v4 + 1) ∧
 ((v4 + 1) < (v1.length : Int) →
 inI (v4 + 1) ∧
 inX (v4 + 1) v1.length ∧
 J2 (decide (((ix v1 (v4 + 1)).at_) = ((ix v1 v4).at_)))) ∧
 (¬ ((v4 + 1) < (v1.length : Int)) →
 J2 false)) ∧
 (((ix v1 v4).list) = (1 : Int) →
 ((0 : Int) ≤ 1 ∧ 1 < (2 : Int)) ∧
 Join (Z93 v1 v2 v3 v4 v5 v7 rec1 Φ) fun J5 =>
 inI (v4 + 1) ∧
 ((v4 + 1) < (v1.length : Int) →
 inI (v4 + 1) ∧
 inX (v4 + 1) v1.length ∧
 J5 (decide (((ix v1 (v4 + 1)).at_) = ((ix v1 v4).at_)))) ∧
 (¬ ((v4 + 1) < (v1.length : Int)) →
 J5 false)) ∧
 True) ∧
 (((ix v1 v4).list) = (1 : Int) →
 ((0 : Int) ≤ 1 ∧ 1 < (2 : Int)) ∧
 inI (v6 + ((ix v1 v4).step)) ∧
 (0 ≤ ((ix v1 v4).list) ∧ ((ix v1 v4).list) < (2 : Int)) ∧
 (((ix v1 v4).list) = (0 : Int) →
 ((0 : Int) ≤ 0 ∧ 0 < (2 : Int)) ∧
 Join (Z96 v1 v2 v3 v4 v6 v7 rec1 Φ) fun J8 =>
 inI (v4 + 1) ∧
 ((v4 + 1) < (v1.length : Int) →
 inI (v4 + 1) ∧
 inX (v4 + 1) v1.length ∧
 J8 (decide (((ix v1 (v4 + 1)).at_) = ((ix v1 v4).at_)))) ∧
 (¬ ((v4 + 1) < (v1.length : Int)) →
 J8 false)) ∧
 (((ix v1 v4).list) = (1 : Int) →
 ((0 : Int) ≤ 1 ∧ 1 < (2 : Int)) ∧
 Join (Z99 v1 v2 v3 v4 v5 v6 v7 rec1 Φ) fun J11 =>
 inI (v4 + 1) ∧
 ((v4 + 1) < (v1.length : Int) →
 inI (v4 + 1) ∧
 inX (v4 + 1) v1.length ∧
 J11 (decide (((ix v1 (v4 + 1)).at_) = ((ix v1 v4).at_)))) ∧
 (¬ ((v4 + 1) < (v1.length : Int)) →
 J11 false)) ∧
 True) ∧
 True) ∧
 (¬ (v4 < (v1.length : Int)) →
 Φ v7)
def Z101 (x0 : List q8) (x1 : List q8) (Φ : List q8 → Prop) : Prop :=
 q63 ([x0, x1] : List (List q8)) fun v1 =>
 LoopW (Z100 v1 Φ) (0, false, 0, 0, 0, ([] : List q8))
def Z102 (x2 : List (List q8)) (v1 : List (List q8) × Int) (Φ : List (List q8) × Int → Prop) : (Int × List (List q8)) → ((Int × List (List q8)) → Prop) → Prop
 | (v3, v4), rec1 =>
 (v3 < (v1.1.length : Int) →
 inX v3 v1.1.length ∧
 inX v3 x2.length ∧
 Z101 (ix v1.1 v3) (ix x2 v3) fun v5 =>
 lenOk (v4 ++ ([v5] : List (List q8))).length 24 ∧
 inI (v3 + 1) ∧
 rec1 ((v3 + 1), (v4 ++ ([v5] : List (List q8))))) ∧
 (¬ (v3 < (v1.1.length : Int)) →
 Φ (v4, 0))
def Z103 (x0 : List (List Sec)) (x1 : List (List Sec)) (x2 : List (List q8)) (Φ : List (List q8) × Int → Prop) : Prop :=
 Z70 x0 x1 fun v1 =>
 (v1.2 ≠ 0 →
 Φ (([] : List (List q8)), v1.2)) ∧
 (¬ (v1.2 ≠ 0) →
 q108 x0 x2 fun v2 =>
 (v2 ≠ 0 →
 Φ (([] : List (List q8)), v2)) ∧
 (¬ (v2 ≠ 0) →
 LoopW (Z102 x2 v1 Φ) (0, ([] : List (List q8)))))
def Z104 (x0 : List (List q8)) (v1 : Int) (rec1 : (List (Int × q8 × Unit) × Int) → Prop) : (List (Int × q8 × Unit) × Int) → ((List (Int × q8 × Unit) × Int) → Prop) → Prop
 | (l2, v2), rec2 =>
 (v2 < ((ix x0 v1).length : Int) →
 inX v2 (ix x0 v1).length ∧
 Yl l2 fun v3 r4 => (v1, (ix (ix x0 v1) v2), ()) = v3 ∧ (
 inI (v2 + 1) ∧
 rec2 (r4, (v2 + 1))) ∧ (
 True)) ∧
 (¬ (v2 < ((ix x0 v1).length : Int)) →
 inI (v1 + 1) ∧
 rec1 (l2, (v1 + 1)))
def Z105 (x0 : List (List q8)) : (List (Int × q8 × Unit) × Int) → ((List (Int × q8 × Unit) × Int) → Prop) → Prop
 | (l1, v1), rec1 =>
 (v1 < (x0.length : Int) →
 inX v1 x0.length ∧
 LoopW (Z104 x0 v1 rec1) (l1, 0)) ∧
 (¬ (v1 < (x0.length : Int)) →
 l1 = [])
def q56 (x0 : List (List q8)) (l : List (Int × q8 × Unit)) : Prop :=
 LoopW (Z105 x0) (l, 0)
def Z106 (x0 : List (List Sec)) (Φ : List q10 × Int → Prop) : (List (Int × q8 × Unit) × List q10) → ((List (Int × q8 × Unit) × List q10) → Prop) → Prop
 | (lst, v3), rec1 =>
 match lst with
 | [] =>
 Φ (v3, 0)
 | v4 :: r5 =>
 inX v4.1 x0.length ∧
 inI (v4.2.1.Start + v4.2.1.Count) ∧
 inS v4.2.1.Start (v4.2.1.Start + v4.2.1.Count) (ix x0 v4.1).length ∧
 ∃ v6 : List Sec × Unit, Z5 (sub (ix x0 v4.1) v4.2.1.Start (v4.2.1.Start + v4.2.1.Count)) (fun z => (z, ()) = v6) ∧
 lenOk (v3 ++ ([(q10.mk v4.1 v4.2.1.Start v6.1)] : List q10)).length 40 ∧
 rec1 (r5, (v3 ++ ([(q10.mk v4.1 v4.2.1.Start v6.1)] : List q10)))
def Z107 (x0 : List (List Sec)) (x1 : List (List q8)) (Φ : List q10 × Int → Prop) : Prop :=
 q38 x0 fun v1 =>
 (v1 ≠ 0 →
 Φ (([] : List q10), v1)) ∧
 (¬ (v1 ≠ 0) →
 q108 x0 x1 fun v2 =>
 (v2 ≠ 0 →
 Φ (([] : List q10), v2)) ∧
 (¬ (v2 ≠ 0) →
 ∃ l7 : List (Int × q8 × Unit), q56 x1 l7 ∧
 LoopW (Z106 x0 Φ) (l7, ([] : List q10))))
def Z108 (_ : Int) (x1 : List Sec) (Φ : Int → Prop) : Prop :=
 Φ (x1.length : Int)
def q143 (x0 : Int) (x1 : Int) (x2 : Int) (Φ : Bool → Prop) : Prop :=
 (x1 ≤ x0 →
 Φ (decide (x0 ≤ x2))) ∧
 (¬ (x1 ≤ x0) →
 Φ false)
def Z109 (x0 : Int) (Φ : Bool → Prop) : Prop :=
 q143 x0 0 1073741824 fun v1 =>
 Φ (decide (¬ (v1 = true)))
def Z110 (x0 : List Int) (Φ : Int → Prop) : (Int) → ((Int) → Prop) → Prop
 | v2, rec1 =>
 (v2 < (x0.length : Int) →
 inX v2 x0.length ∧
 Z109 (ix x0 v2) fun v3 =>
 (v3 = true →
 (0 ≤ v2 →
 Φ 2) ∧
 (¬ (0 ≤ v2) →
 Φ 0)) ∧
 (¬ (v3 = true) →
 inI (v2 + 1) ∧
 rec1 (v2 + 1))) ∧
 (¬ (v2 < (x0.length : Int)) →
 (0 ≤ ((-1) : Int) →
 Φ 2) ∧
 (¬ (0 ≤ ((-1) : Int)) →
 Φ 0))
def Z111 (x0 : List Int) (x1 : Int) (Φ : Int → Prop) : Prop :=
 q143 (x0.length : Int) x1 8 fun v1 =>
 (¬ (v1 = true) →
 Φ 6) ∧
 (¬ (¬ (v1 = true)) →
 LoopW (Z110 x0 Φ) 0)
def Z112 (x0 : List q10) (v1 : List (List Sec) × Int) (Φ : Int → Prop) : (Int) → ((Int) → Prop) → Prop
 | v2, rec1 =>
 (v2 < (x0.length : Int) →
 inX v2 x0.length ∧
 q132 v1.1 (ix x0 v2) fun v3 =>
 (v3 ≠ 0 →
 Φ v3) ∧
 (¬ (v3 ≠ 0) →
 (v2 = 0 →
 inI (v2 + 1) ∧
 rec1 (v2 + 1)) ∧
 (¬ (v2 = 0) →
 inI (v2 - 1) ∧
 inX (v2 - 1) x0.length ∧
 (((ix x0 v2).Volume) < ((ix x0 (v2 - 1)).Volume) →
 Φ 3) ∧
 (¬ (((ix x0 v2).Volume) < ((ix x0 (v2 - 1)).Volume)) →
 (((ix x0 v2).Volume) = ((ix x0 (v2 - 1)).Volume) →
 inI (((ix x0 (v2 - 1)).Start) + (((ix x0 (v2 - 1)).Data).length : Int)) ∧
 (((ix x0 v2).Start) ≤ (((ix x0 (v2 - 1)).Start) + (((ix x0 (v2 - 1)).Data).length : Int)) →
 Φ 3) ∧
 (¬ (((ix x0 v2).Start) ≤ (((ix x0 (v2 - 1)).Start) + (((ix x0 (v2 - 1)).Data).length : Int))) →
 inI (v2 + 1) ∧
 rec1 (v2 + 1))) ∧
 (¬ (((ix x0 v2).Volume) = ((ix x0 (v2 - 1)).Volume)) →
 inI (v2 + 1) ∧
 rec1 (v2 + 1)))))) ∧
 (¬ (v2 < (x0.length : Int)) →
 Φ 0)
def Z113 (x0 : List q10) (x1 : List Int) (Φ : Int → Prop) : Prop :=
 q77 x1 fun v1 =>
 (v1.2 ≠ 0 →
 Φ v1.2) ∧
 (¬ (v1.2 ≠ 0) →
 LoopW (Z112 x0 v1 Φ) 0)
def Z114 (x0 : q21) (x1 : List Int) (Φ : Int → Prop) : Bool → Prop
 | v2 =>
 (v2 = true →
 Φ 2) ∧
 (¬ (v2 = true) →
 q143 x0.Time 0 1073741824 fun v3 =>
 (¬ (v3 = true) →
 Φ 24) ∧
 (¬ (¬ (v3 = true)) →
 Z111 x0.Positions 0 fun v4 =>
 (v4 ≠ 0 →
 Φ v4) ∧
 (¬ (v4 ≠ 0) →
 Z113 x0.Writes x1 fun v5 =>
 Φ v5)))
def q109 (x0 : q21) (x1 : List Int) (Φ : Int → Prop) : Prop :=
 q77 x1 fun v1 =>
 (v1.2 ≠ 0 →
 Φ v1.2) ∧
 (¬ (v1.2 ≠ 0) →
 Join (Z114 x0 x1 Φ) fun J1 =>
 (x0.Base < 0 →
 J1 true) ∧
 (¬ (x0.Base < 0) →
 (x0.Number ≤ x0.Base →
 J1 true) ∧
 (¬ (x0.Number ≤ x0.Base) →
 J1 (decide (1073741824 < x0.Number)))))
def Z115 (x0 : List (List Sec)) (x2 : Int) (x3 : Int) (x4 : Int) (v1 : List q10 × Int) (v2 : List Int) (Φ : q21 × Int → Prop) : (Int × List Int) → ((Int × List Int) → Prop) → Prop
 | (v3, v4), rec1 =>
 (v3 < (x0.length : Int) →
 inX v3 x0.length ∧
 Z108 v3 (ix x0 v3) fun v5 =>
 lenOk (v4 ++ ([v5] : List Int)).length 8 ∧
 inI (v3 + 1) ∧
 rec1 ((v3 + 1), (v4 ++ ([v5] : List Int)))) ∧
 (¬ (v3 < (x0.length : Int)) →
 q109 (q21.mk x2 x3 x4 v2 v1.1) v4 fun v6 =>
 (v6 ≠ 0 →
 Φ ((q21.mk 0 0 0 ([] : List Int) ([] : List q10)), v6)) ∧
 (¬ (v6 ≠ 0) →
 Φ ((q21.mk x2 x3 x4 v2 v1.1), 0)))
def Z116 (x0 : List (List Sec)) (x1 : List (List q8)) (x2 : Int) (x3 : Int) (x4 : Int) (x5 : List Int) (Φ : q21 × Int → Prop) : Prop :=
 Z107 x0 x1 fun v1 =>
 (v1.2 ≠ 0 →
 Φ ((q21.mk 0 0 0 ([] : List Int) ([] : List q10)), v1.2)) ∧
 (¬ (v1.2 ≠ 0) →
 Z19 x5 fun v2 =>
 LoopW (Z115 x0 x2 x3 x4 v1 v2 Φ) (0, ([] : List Int)))
def Z117 (x0 : List (List Sec)) (x1 : q21) (Φ : List (List Sec) × Int → Prop) : (Int × List Int) → ((Int × List Int) → Prop) → Prop
 | (v2, v3), rec1 =>
 (v2 < (x0.length : Int) →
 inX v2 x0.length ∧
 lenOk (v3 ++ ([((ix x0 v2).length : Int)] : List Int)).length 8 ∧
 inI (v2 + 1) ∧
 rec1 ((v2 + 1), (v3 ++ ([((ix x0 v2).length : Int)] : List Int)))) ∧
 (¬ (v2 < (x0.length : Int)) →
 q109 x1 v3 fun v4 =>
 (v4 ≠ 0 →
 Φ (([] : List (List Sec)), v4)) ∧
 (¬ (v4 ≠ 0) →
 q39 x0 x1.Writes fun v5 =>
 Φ (v5.1, v5.2.2)))
def q164 (x0 : List (List Sec)) (x1 : q21) (Φ : List (List Sec) × Int → Prop) : Prop :=
 q38 x0 fun v1 =>
 (v1 ≠ 0 →
 Φ (([] : List (List Sec)), v1)) ∧
 (¬ (v1 ≠ 0) →
 LoopW (Z117 x0 x1 Φ) (0, ([] : List Int)))
def Z118 (v1 : List (List q8) × Int) (v3 : Int) (rec1 : (Int × Int) → Prop) (_ : Int × Int → Prop) : (Int × Int) → ((Int × Int) → Prop) → Prop
 | (v4, v5), rec2 =>
 (v5 < ((ix v1.1 v3).length : Int) →
 inX v5 (ix v1.1 v3).length ∧
 inI (v4 + ((ix (ix v1.1 v3) v5).Count)) ∧
 inI (v5 + 1) ∧
 rec2 ((v4 + ((ix (ix v1.1 v3) v5).Count)), (v5 + 1))) ∧
 (¬ (v5 < ((ix v1.1 v3).length : Int)) →
 inI (v3 + 1) ∧
 rec1 (v4, (v3 + 1)))
def Z119 (v1 : List (List q8) × Int) (Φ : Int × Int → Prop) : (Int × Int) → ((Int × Int) → Prop) → Prop
 | (v2, v3), rec1 =>
 (v3 < (v1.1.length : Int) →
 inX v3 v1.1.length ∧
 LoopW (Z118 v1 v3 rec1 Φ) (v2, 0)) ∧
 (¬ (v3 < (v1.1.length : Int)) →
 Φ (v2, 0))
def Z120 (x0 : List (List Sec)) (x1 : List (List Sec)) (Φ : Int × Int → Prop) : Prop :=
 Z70 x0 x1 fun v1 =>
 (v1.2 ≠ 0 →
 Φ (0, v1.2)) ∧
 (¬ (v1.2 ≠ 0) →
 LoopW (Z119 v1 Φ) (0, 0))
def Z121 (x0 : Bool) (x1 : Bool) (Φ : Bool → Prop) : Prop :=
 (x0 = true →
 Φ (decide (¬ (x1 = true)))) ∧
 (¬ (x0 = true) →
 Φ false)
def Z122 (v1 : List q11) (v3 : Bool) (v4 : Int) (v5 : Int) (v6 : Int) (v7 : List q8) (rec1 : (Int × Bool × Int × Int × Int × List q8) → Prop) (v9 : Bool) (_ : List q8 → Prop) : Int → Prop
 | v10 =>
 (¬ (v9 = true) →
 (v3 = true →
 inI (((ix v1 v4).at_) - v10) ∧
 lenOk (v7 ++ ([(q8.mk v10 (((ix v1 v4).at_) - v10))] : List q8)).length 16 ∧
 inI (v4 + 1) ∧
 rec1 (v10, v9, (v4 + 1), (v5 + ((ix v1 v4).step)), v6, (v7 ++ ([(q8.mk v10 (((ix v1 v4).at_) - v10))] : List q8)))) ∧
 (¬ (v3 = true) →
 inI (v4 + 1) ∧
 rec1 (v10, v9, (v4 + 1), (v5 + ((ix v1 v4).step)), v6, v7))) ∧
 (¬ (¬ (v9 = true)) →
 inI (v4 + 1) ∧
 rec1 (v10, v9, (v4 + 1), (v5 + ((ix v1 v4).step)), v6, v7))
def Z123 (v1 : List q11) (v2 : Int) (v3 : Bool) (v4 : Int) (v5 : Int) (v6 : Int) (v7 : List q8) (rec1 : (Int × Bool × Int × Int × Int × List q8) → Prop) (v9 : Bool) (Φ : List q8 → Prop) : Bool → Prop
 | v11 =>
 (v11 = true →
 Z122 v1 v3 v4 v5 v6 v7 rec1 v9 Φ ((ix v1 v4).at_)) ∧
 (¬ (v11 = true) →
 Z122 v1 v3 v4 v5 v6 v7 rec1 v9 Φ v2)
def Z124 (v1 : List q11) (v2 : Int) (v3 : Bool) (v4 : Int) (v5 : Int) (v6 : Int) (v7 : List q8) (rec1 : (Int × Bool × Int × Int × Int × List q8) → Prop) (Φ : List q8 → Prop) : Bool → Prop
 | v8 =>
 (v8 = true →
 inI (v4 + 1) ∧
 rec1 (v2, v3, (v4 + 1), (v5 + ((ix v1 v4).step)), v6, v7)) ∧
 (¬ (v8 = true) →
 ((0 : Int) ≤ 0 ∧ 0 < (2 : Int)) ∧
 ((0 : Int) ≤ 1 ∧ 1 < (2 : Int)) ∧
 Z121 (decide (0 < (v5 + ((ix v1 v4).step)))) (decide (0 < v6)) fun v9 =>
 Join (Z123 v1 v2 v3 v4 v5 v6 v7 rec1 v9 Φ) fun J4 =>
 (v9 = true →
 J4 (decide (¬ (v3 = true)))) ∧
 (¬ (v9 = true) →
 J4 false))
def Z125 (v1 : List q11) (v3 : Bool) (v4 : Int) (v5 : Int) (v7 : List q8) (rec1 : (Int × Bool × Int × Int × Int × List q8) → Prop) (v13 : Bool) (_ : List q8 → Prop) : Int → Prop
 | v14 =>
 (¬ (v13 = true) →
 (v3 = true →
 inI (((ix v1 v4).at_) - v14) ∧
 lenOk (v7 ++ ([(q8.mk v14 (((ix v1 v4).at_) - v14))] : List q8)).length 16 ∧
 inI (v4 + 1) ∧
 rec1 (v14, v13, (v4 + 1), v5, (v5 + ((ix v1 v4).step)), (v7 ++ ([(q8.mk v14 (((ix v1 v4).at_) - v14))] : List q8)))) ∧
 (¬ (v3 = true) →
 inI (v4 + 1) ∧
 rec1 (v14, v13, (v4 + 1), v5, (v5 + ((ix v1 v4).step)), v7))) ∧
 (¬ (¬ (v13 = true)) →
 inI (v4 + 1) ∧
 rec1 (v14, v13, (v4 + 1), v5, (v5 + ((ix v1 v4).step)), v7))
def Z126 (v1 : List q11) (v2 : Int) (v3 : Bool) (v4 : Int) (v5 : Int) (v7 : List q8) (rec1 : (Int × Bool × Int × Int × Int × List q8) → Prop) (v13 : Bool) (Φ : List q8 → Prop) : Bool → Prop
 | v15 =>
 (v15 = true →
 Z125 v1 v3 v4 v5 v7 rec1 v13 Φ ((ix v1 v4).at_)) ∧
 (¬ (v15 = true) →
 Z125 v1 v3 v4 v5 v7 rec1 v13 Φ v2)
def Z127 (v1 : List q11) (v2 : Int) (v3 : Bool) (v4 : Int) (v5 : Int) (v7 : List q8) (rec1 : (Int × Bool × Int × Int × Int × List q8) → Prop) (Φ : List q8 → Prop) : Bool → Prop
 | v12 =>
 (v12 = true →
 inI (v4 + 1) ∧
 rec1 (v2, v3, (v4 + 1), v5, (v5 + ((ix v1 v4).step)), v7)) ∧
 (¬ (v12 = true) →
 ((0 : Int) ≤ 0 ∧ 0 < (2 : Int)) ∧
 ((0 : Int) ≤ 1 ∧ 1 < (2 : Int)) ∧
 Z121 (decide (0 < v5)) (decide (0 < (v5 + ((ix v1 v4).step)))) fun v13 =>
 Join (Z126 v1 v2 v3 v4 v5 v7 rec1 v13 Φ) fun J7 =>
 (v13 = true →
 J7 (decide (¬ (v3 = true)))) ∧
 (¬ (v13 = true) →
 J7 false))
def Z128 (v1 : List q11) (v3 : Bool) (v4 : Int) (v6 : Int) (v7 : List q8) (rec1 : (Int × Bool × Int × Int × Int × List q8) → Prop) (v17 : Bool) (_ : List q8 → Prop) : Int → Prop
 | v18 =>
 (¬ (v17 = true) →
 (v3 = true →
 inI (((ix v1 v4).at_) - v18) ∧
 lenOk (v7 ++ ([(q8.mk v18 (((ix v1 v4).at_) - v18))] : List q8)).length 16 ∧
 inI (v4 + 1) ∧
 rec1 (v18, v17, (v4 + 1), (v6 + ((ix v1 v4).step)), v6, (v7 ++ ([(q8.mk v18 (((ix v1 v4).at_) - v18))] : List q8)))) ∧
 (¬ (v3 = true) →
 inI (v4 + 1) ∧
 rec1 (v18, v17, (v4 + 1), (v6 + ((ix v1 v4).step)), v6, v7))) ∧
 (¬ (¬ (v17 = true)) →
 inI (v4 + 1) ∧
 rec1 (v18, v17, (v4 + 1), (v6 + ((ix v1 v4).step)), v6, v7))
def Z129 (v1 : List q11) (v2 : Int) (v3 : Bool) (v4 : Int) (v6 : Int) (v7 : List q8) (rec1 : (Int × Bool × Int × Int × Int × List q8) → Prop) (v17 : Bool) (Φ : List q8 → Prop) : Bool → Prop
 | v19 =>
 (v19 = true →
 Z128 v1 v3 v4 v6 v7 rec1 v17 Φ ((ix v1 v4).at_)) ∧
 (¬ (v19 = true) →
 Z128 v1 v3 v4 v6 v7 rec1 v17 Φ v2)
def Z130 (v1 : List q11) (v2 : Int) (v3 : Bool) (v4 : Int) (v6 : Int) (v7 : List q8) (rec1 : (Int × Bool × Int × Int × Int × List q8) → Prop) (Φ : List q8 → Prop) : Bool → Prop
 | v16 =>
 (v16 = true →
 inI (v4 + 1) ∧
 rec1 (v2, v3, (v4 + 1), (v6 + ((ix v1 v4).step)), v6, v7)) ∧
 (¬ (v16 = true) →
 ((0 : Int) ≤ 0 ∧ 0 < (2 : Int)) ∧
 ((0 : Int) ≤ 1 ∧ 1 < (2 : Int)) ∧
 Z121 (decide (0 < (v6 + ((ix v1 v4).step)))) (decide (0 < v6)) fun v17 =>
 Join (Z129 v1 v2 v3 v4 v6 v7 rec1 v17 Φ) fun J10 =>
 (v17 = true →
 J10 (decide (¬ (v3 = true)))) ∧
 (¬ (v17 = true) →
 J10 false))
def Z131 (v1 : List q11) (v3 : Bool) (v4 : Int) (v5 : Int) (v6 : Int) (v7 : List q8) (rec1 : (Int × Bool × Int × Int × Int × List q8) → Prop) (v21 : Bool) (_ : List q8 → Prop) : Int → Prop
 | v22 =>
 (¬ (v21 = true) →
 (v3 = true →
 inI (((ix v1 v4).at_) - v22) ∧
 lenOk (v7 ++ ([(q8.mk v22 (((ix v1 v4).at_) - v22))] : List q8)).length 16 ∧
 inI (v4 + 1) ∧
 rec1 (v22, v21, (v4 + 1), v5, (v6 + ((ix v1 v4).step)), (v7 ++ ([(q8.mk v22 (((ix v1 v4).at_) - v22))] : List q8)))) ∧
 (¬ (v3 = true) →
 inI (v4 + 1) ∧
 rec1 (v22, v21, (v4 + 1), v5, (v6 + ((ix v1 v4).step)), v7))) ∧
 (¬ (¬ (v21 = true)) →
 inI (v4 + 1) ∧
 rec1 (v22, v21, (v4 + 1), v5, (v6 + ((ix v1 v4).step)), v7))
def Z132 (v1 : List q11) (v2 : Int) (v3 : Bool) (v4 : Int) (v5 : Int) (v6 : Int) (v7 : List q8) (rec1 : (Int × Bool × Int × Int × Int × List q8) → Prop) (v21 : Bool) (Φ : List q8 → Prop) : Bool → Prop
 | v23 =>
 (v23 = true →
 Z131 v1 v3 v4 v5 v6 v7 rec1 v21 Φ ((ix v1 v4).at_)) ∧
 (¬ (v23 = true) →
 Z131 v1 v3 v4 v5 v6 v7 rec1 v21 Φ v2)
def Z133 (v1 : List q11) (v2 : Int) (v3 : Bool) (v4 : Int) (v5 : Int) (v6 : Int) (v7 : List q8) (rec1 : (Int × Bool × Int × Int × Int × List q8) → Prop) (Φ : List q8 → Prop) : Bool → Prop
 | v20 =>
 (v20 = true →
 inI (v4 + 1) ∧
 rec1 (v2, v3, (v4 + 1), v5, (v6 + ((ix v1 v4).step)), v7)) ∧
 (¬ (v20 = true) →
 ((0 : Int) ≤ 0 ∧ 0 < (2 : Int)) ∧
 ((0 : Int) ≤ 1 ∧ 1 < (2 : Int)) ∧
 Z121 (decide (0 < v5)) (decide (0 < (v6 + ((ix v1 v4).step)))) fun v21 =>
 Join (Z132 v1 v2 v3 v4 v5 v6 v7 rec1 v21 Φ) fun J13 =>
 (v21 = true →
 J13 (decide (¬ (v3 = true)))) ∧
 (¬ (v21 = true) →
 J13 false))
def Z134 (v1 : List q11) (Φ : List q8 → Prop) : (Int × Bool × Int × Int × Int × List q8) → ((Int × Bool × Int × Int × Int × List q8) → Prop) → Prop
 | (v2, v3, v4, v5, v6, v7), rec1 =>
 (v4 < (v1.length : Int) →
 inX v4 v1.length ∧
 (0 ≤ ((ix v1 v4).list) ∧ ((ix v1 v4).list) < (2 : Int)) ∧
 (((ix v1 v4).list) = (0 : Int) →
 ((0 : Int) ≤ 0 ∧ 0 < (2 : Int)) ∧
 inI (v5 + ((ix v1 v4).step)) ∧
 (0 ≤ ((ix v1 v4).list) ∧ ((ix v1 v4).list) < (2 : Int)) ∧
 (((ix v1 v4).list) = (0 : Int) →
 ((0 : Int) ≤ 0 ∧ 0 < (2 : Int)) ∧
 Join (Z124 v1 v2 v3 v4 v5 v6 v7 rec1 Φ) fun J2 =>
 inI (v4 + 1) ∧
 ((v4 + 1) < (v1.length : Int) →
 inI (v4 + 1) ∧
 inX (v4 + 1) v1.length ∧
 J2 (decide (((ix v1 (v4 + 1)).at_) = ((ix v1 v4).at_)))) ∧
 (¬ ((v4 + 1) < (v1.length : Int)) →
 J2 false)) ∧
 (((ix v1 v4).list) = (1 : Int) →
 ((0 : Int) ≤ 1 ∧ 1 < (2 : Int)) ∧
 Join (Z127 v1 v2 v3 v4 v5 v7 rec1 Φ) fun J5 =>
 inI (v4 + 1) ∧
 ((v4 + 1) < (v1.length : Int) →
 inI (v4 + 1) ∧
 inX (v4 + 1) v1.length ∧
 J5 (decide (((ix v1 (v4 + 1)).at_) = ((ix v1 v4).at_)))) ∧
 (¬ ((v4 + 1) < (v1.length : Int)) →
 J5 false)) ∧
 True) ∧
 (((ix v1 v4).list) = (1 : Int) →
 ((0 : Int) ≤ 1 ∧ 1 < (2 : Int)) ∧
 inI (v6 + ((ix v1 v4).step)) ∧
 (0 ≤ ((ix v1 v4).list) ∧ ((ix v1 v4).list) < (2 : Int)) ∧
 (((ix v1 v4).list) = (0 : Int) →
 ((0 : Int) ≤ 0 ∧ 0 < (2 : Int)) ∧
 Join (Z130 v1 v2 v3 v4 v6 v7 rec1 Φ) fun J8 =>
 inI (v4 + 1) ∧
 ((v4 + 1) < (v1.length : Int) →
 inI (v4 + 1) ∧
 inX (v4 + 1) v1.length ∧
 J8 (decide (((ix v1 (v4 + 1)).at_) = ((ix v1 v4).at_)))) ∧
 (¬ ((v4 + 1) < (v1.length : Int)) →
 J8 false)) ∧
 (((ix v1 v4).list) = (1 : Int) →
 ((0 : Int) ≤ 1 ∧ 1 < (2 : Int)) ∧
 Join (Z133 v1 v2 v3 v4 v5 v6 v7 rec1 Φ) fun J11 =>
 inI (v4 + 1) ∧
 ((v4 + 1) < (v1.length : Int) →
 inI (v4 + 1) ∧
 inX (v4 + 1) v1.length ∧
 J11 (decide (((ix v1 (v4 + 1)).at_) = ((ix v1 v4).at_)))) ∧
 (¬ ((v4 + 1) < (v1.length : Int)) →
 J11 false)) ∧
 True) ∧
 True) ∧
 (¬ (v4 < (v1.length : Int)) →
 Φ v7)
def Z135 (x0 : List q8) (x1 : List q8) (Φ : List q8 → Prop) : Prop :=
 q63 ([x0, x1] : List (List q8)) fun v1 =>
 LoopW (Z134 v1 Φ) (0, false, 0, 0, 0, ([] : List q8))
def Z136 (x0 : List q8) (x1 : List q8) (Φ : Bool → Prop) : (Int) → ((Int) → Prop) → Prop
 | v1, rec1 =>
 (v1 < (x0.length : Int) →
 inX v1 x0.length ∧
 inX v1 x1.length ∧
 ((ix x0 v1) ≠ (ix x1 v1) →
 Φ false) ∧
 (¬ ((ix x0 v1) ≠ (ix x1 v1)) →
 inI (v1 + 1) ∧
 rec1 (v1 + 1))) ∧
 (¬ (v1 < (x0.length : Int)) →
 Φ true)
def Z137 (x0 : List q8) (x1 : List q8) (Φ : Bool → Prop) : Prop :=
 ((x0.length : Int) ≠ (x1.length : Int) →
 Φ false) ∧
 (¬ ((x0.length : Int) ≠ (x1.length : Int)) →
 LoopW (Z136 x0 x1 Φ) 0)
def Z138 (x0 : List q8) (x1 : List q8) (Φ : Bool → Prop) : Prop :=
 Z137 x0 x1 fun v1 =>
 Φ v1
def Z139 (x2 : List (List q8)) (v2 : List (List q8) × Int) (Φ : Bool × Int → Prop) : (Int) → ((Int) → Prop) → Prop
 | v3, rec1 =>
 (v3 < (v2.1.length : Int) →
 inX v3 v2.1.length ∧
 inX v3 x2.length ∧
 Z138 (ix v2.1 v3) (ix x2 v3) fun v4 =>
 (¬ (v4 = true) →
 Φ (false, 0)) ∧
 (¬ (¬ (v4 = true)) →
 inI (v3 + 1) ∧
 rec1 (v3 + 1))) ∧
 (¬ (v3 < (v2.1.length : Int)) →
 Φ (true, 0))
def Z140 (x0 : List (List Sec)) (x1 : List (List Sec)) (x2 : List (List q8)) (Φ : Bool × Int → Prop) : Prop :=
 Z103 x0 x1 x2 fun v1 =>
 (v1.2 ≠ 0 →
 Φ (false, v1.2)) ∧
 (¬ (v1.2 ≠ 0) →
 Z70 x0 x1 fun v2 =>
 (v2.2 ≠ 0 →
 Φ (false, v2.2)) ∧
 (¬ (v2.2 ≠ 0) →
 ((v2.1.length : Int) ≠ (x2.length : Int) →
 Φ (false, 0)) ∧
 (¬ ((v2.1.length : Int) ≠ (x2.length : Int)) →
 LoopW (Z139 x2 v2 Φ) 0)))
def Z141 (x0 : List Sec) (x1 : List Sec) (Φ : Bool → Prop) : (Int) → ((Int) → Prop) → Prop
 | v1, rec1 =>
 (v1 < (x0.length : Int) →
 inX v1 x0.length ∧
 inX v1 x1.length ∧
 ((ix x0 v1) ≠ (ix x1 v1) →
 Φ false) ∧
 (¬ ((ix x0 v1) ≠ (ix x1 v1)) →
 inI (v1 + 1) ∧
 rec1 (v1 + 1))) ∧
 (¬ (v1 < (x0.length : Int)) →
 Φ true)
def Z142 (x0 : List Sec) (x1 : List Sec) (Φ : Bool → Prop) : Prop :=
 ((x0.length : Int) ≠ (x1.length : Int) →
 Φ false) ∧
 (¬ ((x0.length : Int) ≠ (x1.length : Int)) →
 LoopW (Z141 x0 x1 Φ) 0)
def q434 (x0 : List (List Sec)) (x1 : List (List Sec)) (Φ : Bool → Prop) : (Int) → ((Int) → Prop) → Prop
 | v1, rec1 =>
 (v1 < (x0.length : Int) →
 inX v1 x0.length ∧
 inX v1 x1.length ∧
 Z142 (ix x0 v1) (ix x1 v1) fun v2 =>
 (¬ (v2 = true) →
 Φ false) ∧
 (¬ (¬ (v2 = true)) →
 inI (v1 + 1) ∧
 rec1 (v1 + 1))) ∧
 (¬ (v1 < (x0.length : Int)) →
 Φ true)
def q134 (x0 : List (List Sec)) (x1 : List (List Sec)) (Φ : Bool → Prop) : Prop :=
 ((x0.length : Int) ≠ (x1.length : Int) →
 Φ false) ∧
 (¬ ((x0.length : Int) ≠ (x1.length : Int)) →
 LoopW (q434 x0 x1 Φ) 0)
def Z143 (x0 : List q10) (Φ : Int → Prop) : (Int × Int) → ((Int × Int) → Prop) → Prop
 | (v1, v2), rec1 =>
 (v2 < (x0.length : Int) →
 inX v2 x0.length ∧
 inI (v1 + (((ix x0 v2).Data).length : Int)) ∧
 inI (v2 + 1) ∧
 rec1 ((v1 + (((ix x0 v2).Data).length : Int)), (v2 + 1))) ∧
 (¬ (v2 < (x0.length : Int)) →
 Φ v1)
def Z144 (x0 : List q10) (Φ : Int → Prop) : Prop :=
 LoopW (Z143 x0 Φ) (0, 0)
def Z145 (x0 : List q21) (Φ : Int → Prop) : (Int × Int) → ((Int × Int) → Prop) → Prop
 | (v1, v2), rec1 =>
 (v2 < (x0.length : Int) →
 inX v2 x0.length ∧
 Z144 ((ix x0 v2).Writes) fun v3 =>
 inI (v1 + v3) ∧
 inI (v2 + 1) ∧
 rec1 ((v1 + v3), (v2 + 1))) ∧
 (¬ (v2 < (x0.length : Int)) →
 Φ v1)
def Z146 (x0 : List q21) (Φ : Int → Prop) : Prop :=
 LoopW (Z145 x0 Φ) (0, 0)
def Z147 (x0 : Bool) (x1 : Bool) (Φ : Bool → Prop) : Prop :=
 (x0 = true →
 Φ true) ∧
 (¬ (x0 = true) →
 Φ x1)
def Z148 (v1 : List q11) (v3 : Bool) (v4 : Int) (v5 : Int) (v6 : Int) (v7 : List q8) (rec1 : (Int × Bool × Int × Int × Int × List q8) → Prop) (v9 : Bool) (_ : List q8 → Prop) : Int → Prop
 | v10 =>
 (¬ (v9 = true) →
 (v3 = true →
 inI (((ix v1 v4).at_) - v10) ∧
 lenOk (v7 ++ ([(q8.mk v10 (((ix v1 v4).at_) - v10))] : List q8)).length 16 ∧
 inI (v4 + 1) ∧
 rec1 (v10, v9, (v4 + 1), (v5 + ((ix v1 v4).step)), v6, (v7 ++ ([(q8.mk v10 (((ix v1 v4).at_) - v10))] : List q8)))) ∧
 (¬ (v3 = true) →
 inI (v4 + 1) ∧
 rec1 (v10, v9, (v4 + 1), (v5 + ((ix v1 v4).step)), v6, v7))) ∧
 (¬ (¬ (v9 = true)) →
 inI (v4 + 1) ∧
 rec1 (v10, v9, (v4 + 1), (v5 + ((ix v1 v4).step)), v6, v7))
def Z149 (v1 : List q11) (v2 : Int) (v3 : Bool) (v4 : Int) (v5 : Int) (v6 : Int) (v7 : List q8) (rec1 : (Int × Bool × Int × Int × Int × List q8) → Prop) (v9 : Bool) (Φ : List q8 → Prop) : Bool → Prop
 | v11 =>
 (v11 = true →
 Z148 v1 v3 v4 v5 v6 v7 rec1 v9 Φ ((ix v1 v4).at_)) ∧
 (¬ (v11 = true) →
 Z148 v1 v3 v4 v5 v6 v7 rec1 v9 Φ v2)
def Z150 (v1 : List q11) (v2 : Int) (v3 : Bool) (v4 : Int) (v5 : Int) (v6 : Int) (v7 : List q8) (rec1 : (Int × Bool × Int × Int × Int × List q8) → Prop) (Φ : List q8 → Prop) : Bool → Prop
 | v8 =>
 (v8 = true →
 inI (v4 + 1) ∧
 rec1 (v2, v3, (v4 + 1), (v5 + ((ix v1 v4).step)), v6, v7)) ∧
 (¬ (v8 = true) →
 ((0 : Int) ≤ 0 ∧ 0 < (2 : Int)) ∧
 ((0 : Int) ≤ 1 ∧ 1 < (2 : Int)) ∧
 Z147 (decide (0 < (v5 + ((ix v1 v4).step)))) (decide (0 < v6)) fun v9 =>
 Join (Z149 v1 v2 v3 v4 v5 v6 v7 rec1 v9 Φ) fun J4 =>
 (v9 = true →
 J4 (decide (¬ (v3 = true)))) ∧
 (¬ (v9 = true) →
 J4 false))
def Z151 (v1 : List q11) (v3 : Bool) (v4 : Int) (v5 : Int) (v7 : List q8) (rec1 : (Int × Bool × Int × Int × Int × List q8) → Prop) (v13 : Bool) (_ : List q8 → Prop) : Int → Prop
 | v14 =>
 (¬ (v13 = true) →
 (v3 = true →
 inI (((ix v1 v4).at_) - v14) ∧
 lenOk (v7 ++ ([(q8.mk v14 (((ix v1 v4).at_) - v14))] : List q8)).length 16 ∧
 inI (v4 + 1) ∧
 rec1 (v14, v13, (v4 + 1), v5, (v5 + ((ix v1 v4).step)), (v7 ++ ([(q8.mk v14 (((ix v1 v4).at_) - v14))] : List q8)))) ∧
 (¬ (v3 = true) →
 inI (v4 + 1) ∧
 rec1 (v14, v13, (v4 + 1), v5, (v5 + ((ix v1 v4).step)), v7))) ∧
 (¬ (¬ (v13 = true)) →
 inI (v4 + 1) ∧
 rec1 (v14, v13, (v4 + 1), v5, (v5 + ((ix v1 v4).step)), v7))
def Z152 (v1 : List q11) (v2 : Int) (v3 : Bool) (v4 : Int) (v5 : Int) (v7 : List q8) (rec1 : (Int × Bool × Int × Int × Int × List q8) → Prop) (v13 : Bool) (Φ : List q8 → Prop) : Bool → Prop
 | v15 =>
 (v15 = true →
 Z151 v1 v3 v4 v5 v7 rec1 v13 Φ ((ix v1 v4).at_)) ∧
 (¬ (v15 = true) →
 Z151 v1 v3 v4 v5 v7 rec1 v13 Φ v2)
def Z153 (v1 : List q11) (v2 : Int) (v3 : Bool) (v4 : Int) (v5 : Int) (v7 : List q8) (rec1 : (Int × Bool × Int × Int × Int × List q8) → Prop) (Φ : List q8 → Prop) : Bool → Prop
 | v12 =>
 (v12 = true →
 inI (v4 + 1) ∧
 rec1 (v2, v3, (v4 + 1), v5, (v5 + ((ix v1 v4).step)), v7)) ∧
 (¬ (v12 = true) →
 ((0 : Int) ≤ 0 ∧ 0 < (2 : Int)) ∧
 ((0 : Int) ≤ 1 ∧ 1 < (2 : Int)) ∧
 Z147 (decide (0 < v5)) (decide (0 < (v5 + ((ix v1 v4).step)))) fun v13 =>
 Join (Z152 v1 v2 v3 v4 v5 v7 rec1 v13 Φ) fun J7 =>
 (v13 = true →
 J7 (decide (¬ (v3 = true)))) ∧
 (¬ (v13 = true) →
 J7 false))
def Z154 (v1 : List q11) (v3 : Bool) (v4 : Int) (v6 : Int) (v7 : List q8) (rec1 : (Int × Bool × Int × Int × Int × List q8) → Prop) (v17 : Bool) (_ : List q8 → Prop) : Int → Prop
 | v18 =>
 (¬ (v17 = true) →
 (v3 = true →
 inI (((ix v1 v4).at_) - v18) ∧
 lenOk (v7 ++ ([(q8.mk v18 (((ix v1 v4).at_) - v18))] : List q8)).length 16 ∧
 inI (v4 + 1) ∧
 rec1 (v18, v17, (v4 + 1), (v6 + ((ix v1 v4).step)), v6, (v7 ++ ([(q8.mk v18 (((ix v1 v4).at_) - v18))] : List q8)))) ∧
 (¬ (v3 = true) →
 inI (v4 + 1) ∧
 rec1 (v18, v17, (v4 + 1), (v6 + ((ix v1 v4).step)), v6, v7))) ∧
 (¬ (¬ (v17 = true)) →
 inI (v4 + 1) ∧
 rec1 (v18, v17, (v4 + 1), (v6 + ((ix v1 v4).step)), v6, v7))
def Z155 (v1 : List q11) (v2 : Int) (v3 : Bool) (v4 : Int) (v6 : Int) (v7 : List q8) (rec1 : (Int × Bool × Int × Int × Int × List q8) → Prop) (v17 : Bool) (Φ : List q8 → Prop) : Bool → Prop
 | v19 =>
 (v19 = true →
 Z154 v1 v3 v4 v6 v7 rec1 v17 Φ ((ix v1 v4).at_)) ∧
 (¬ (v19 = true) →
 Z154 v1 v3 v4 v6 v7 rec1 v17 Φ v2)
def Z156 (v1 : List q11) (v2 : Int) (v3 : Bool) (v4 : Int) (v6 : Int) (v7 : List q8) (rec1 : (Int × Bool × Int × Int × Int × List q8) → Prop) (Φ : List q8 → Prop) : Bool → Prop
 | v16 =>
 (v16 = true →
 inI (v4 + 1) ∧
 rec1 (v2, v3, (v4 + 1), (v6 + ((ix v1 v4).step)), v6, v7)) ∧
 (¬ (v16 = true) →
 ((0 : Int) ≤ 0 ∧ 0 < (2 : Int)) ∧
 ((0 : Int) ≤ 1 ∧ 1 < (2 : Int)) ∧
 Z147 (decide (0 < (v6 + ((ix v1 v4).step)))) (decide (0 < v6)) fun v17 =>
 Join (Z155 v1 v2 v3 v4 v6 v7 rec1 v17 Φ) fun J10 =>
 (v17 = true →
 J10 (decide (¬ (v3 = true)))) ∧
 (¬ (v17 = true) →
 J10 false))
def Z157 (v1 : List q11) (v3 : Bool) (v4 : Int) (v5 : Int) (v6 : Int) (v7 : List q8) (rec1 : (Int × Bool × Int × Int × Int × List q8) → Prop) (v21 : Bool) (_ : List q8 → Prop) : Int → Prop
 | v22 =>
 (¬ (v21 = true) →
 (v3 = true →
 inI (((ix v1 v4).at_) - v22) ∧
 lenOk (v7 ++ ([(q8.mk v22 (((ix v1 v4).at_) - v22))] : List q8)).length 16 ∧
 inI (v4 + 1) ∧
 rec1 (v22, v21, (v4 + 1), v5, (v6 + ((ix v1 v4).step)), (v7 ++ ([(q8.mk v22 (((ix v1 v4).at_) - v22))] : List q8)))) ∧
 (¬ (v3 = true) →
 inI (v4 + 1) ∧
 rec1 (v22, v21, (v4 + 1), v5, (v6 + ((ix v1 v4).step)), v7))) ∧
 (¬ (¬ (v21 = true)) →
 inI (v4 + 1) ∧
 rec1 (v22, v21, (v4 + 1), v5, (v6 + ((ix v1 v4).step)), v7))
def Z158 (v1 : List q11) (v2 : Int) (v3 : Bool) (v4 : Int) (v5 : Int) (v6 : Int) (v7 : List q8) (rec1 : (Int × Bool × Int × Int × Int × List q8) → Prop) (v21 : Bool) (Φ : List q8 → Prop) : Bool → Prop
 | v23 =>
 (v23 = true →
 Z157 v1 v3 v4 v5 v6 v7 rec1 v21 Φ ((ix v1 v4).at_)) ∧
 (¬ (v23 = true) →
 Z157 v1 v3 v4 v5 v6 v7 rec1 v21 Φ v2)
def Z159 (v1 : List q11) (v2 : Int) (v3 : Bool) (v4 : Int) (v5 : Int) (v6 : Int) (v7 : List q8) (rec1 : (Int × Bool × Int × Int × Int × List q8) → Prop) (Φ : List q8 → Prop) : Bool → Prop
 | v20 =>
 (v20 = true →
 inI (v4 + 1) ∧
 rec1 (v2, v3, (v4 + 1), v5, (v6 + ((ix v1 v4).step)), v7)) ∧
 (¬ (v20 = true) →
 ((0 : Int) ≤ 0 ∧ 0 < (2 : Int)) ∧
 ((0 : Int) ≤ 1 ∧ 1 < (2 : Int)) ∧
 Z147 (decide (0 < v5)) (decide (0 < (v6 + ((ix v1 v4).step)))) fun v21 =>
 Join (Z158 v1 v2 v3 v4 v5 v6 v7 rec1 v21 Φ) fun J13 =>
 (v21 = true →
 J13 (decide (¬ (v3 = true)))) ∧
 (¬ (v21 = true) →
 J13 false))
def Z160 (v1 : List q11) (Φ : List q8 → Prop) : (Int × Bool × Int × Int × Int × List q8) → ((Int × Bool × Int × Int × Int × List q8) → Prop) → Prop
 | (v2, v3, v4, v5, v6, v7), rec1 =>
 (v4 < (v1.length : Int) →
 inX v4 v1.length ∧
 (0 ≤ ((ix v1 v4).list) ∧ ((ix v1 v4).list) < (2 : Int)) ∧
 (((ix v1 v4).list) = (0 : Int) →
 ((0 : Int) ≤ 0 ∧ 0 < (2 : Int)) ∧
 inI (v5 + ((ix v1 v4).step)) ∧
 (0 ≤ ((ix v1 v4).list) ∧ ((ix v1 v4).list) < (2 : Int)) ∧
 (((ix v1 v4).list) = (0 : Int) →
 ((0 : Int) ≤ 0 ∧ 0 < (2 : Int)) ∧
 Join (Z150 v1 v2 v3 v4 v5 v6 v7 rec1 Φ) fun J2 =>
 inI (v4 + 1) ∧
 ((v4 + 1) < (v1.length : Int) →
 inI (v4 + 1) ∧
 inX (v4 + 1) v1.length ∧
 J2 (decide (((ix v1 (v4 + 1)).at_) = ((ix v1 v4).at_)))) ∧
 (¬ ((v4 + 1) < (v1.length : Int)) →
 J2 false)) ∧
 (((ix v1 v4).list) = (1 : Int) →
 ((0 : Int) ≤ 1 ∧ 1 < (2 : Int)) ∧
 Join (Z153 v1 v2 v3 v4 v5 v7 rec1 Φ) fun J5 =>
 inI (v4 + 1) ∧
 ((v4 + 1) < (v1.length : Int) →
 inI (v4 + 1) ∧
 inX (v4 + 1) v1.length ∧
 J5 (decide (((ix v1 (v4 + 1)).at_) = ((ix v1 v4).at_)))) ∧
 (¬ ((v4 + 1) < (v1.length : Int)) →
 J5 false)) ∧
 True) ∧
 (((ix v1 v4).list) = (1 : Int) →
 ((0 : Int) ≤ 1 ∧ 1 < (2 : Int)) ∧
 inI (v6 + ((ix v1 v4).step)) ∧
 (0 ≤ ((ix v1 v4).list) ∧ ((ix v1 v4).list) < (2 : Int)) ∧
 (((ix v1 v4).list) = (0 : Int) →
 ((0 : Int) ≤ 0 ∧ 0 < (2 : Int)) ∧
 Join (Z156 v1 v2 v3 v4 v6 v7 rec1 Φ) fun J8 =>
 inI (v4 + 1) ∧
 ((v4 + 1) < (v1.length : Int) →
 inI (v4 + 1) ∧
 inX (v4 + 1) v1.length ∧
 J8 (decide (((ix v1 (v4 + 1)).at_) = ((ix v1 v4).at_)))) ∧
 (¬ ((v4 + 1) < (v1.length : Int)) →
 J8 false)) ∧
 (((ix v1 v4).list) = (1 : Int) →
 ((0 : Int) ≤ 1 ∧ 1 < (2 : Int)) ∧
 Join (Z159 v1 v2 v3 v4 v5 v6 v7 rec1 Φ) fun J11 =>
 inI (v4 + 1) ∧
 ((v4 + 1) < (v1.length : Int) →
 inI (v4 + 1) ∧
 inX (v4 + 1) v1.length ∧
 J11 (decide (((ix v1 (v4 + 1)).at_) = ((ix v1 v4).at_)))) ∧
 (¬ ((v4 + 1) < (v1.length : Int)) →
 J11 false)) ∧
 True) ∧
 True) ∧
 (¬ (v4 < (v1.length : Int)) →
 Φ v7)
def Z161 (x0 : List q8) (x1 : List q8) (Φ : List q8 → Prop) : Prop :=
 q63 ([x0, x1] : List (List q8)) fun v1 =>
 LoopW (Z160 v1 Φ) (0, false, 0, 0, 0, ([] : List q8))
def Z162 (v1 : List q8) (Φ : Int → Prop) : (Int × Int) → ((Int × Int) → Prop) → Prop
 | (v2, v3), rec1 =>
 (v3 < (v1.length : Int) →
 inX v3 v1.length ∧
 inI (v2 + ((ix v1 v3).Count)) ∧
 inI (v3 + 1) ∧
 rec1 ((v2 + ((ix v1 v3).Count)), (v3 + 1))) ∧
 (¬ (v3 < (v1.length : Int)) →
 Φ v2)
def Z163 (x0 : List q8) (Φ : Int → Prop) : Prop :=
 Z161 x0 ([] : List q8) fun v1 =>
 LoopW (Z162 v1 Φ) (0, 0)
def Z164 (_ : Int) (x1 : List q8) (Φ : Int → Prop) : Prop :=
 Z163 x1 fun v1 =>
 Φ v1
def Z165 (v2 : List Int) (Φ : Int → Prop) : (Int × Int) → ((Int × Int) → Prop) → Prop
 | (v4, v5), rec2 =>
 (v5 < (v2.length : Int) →
 inX v5 v2.length ∧
 inI (v4 + (ix v2 v5)) ∧
 inI (v5 + 1) ∧
 rec2 ((v4 + (ix v2 v5)), (v5 + 1))) ∧
 (¬ (v5 < (v2.length : Int)) →
 Φ v4)
def Z166 (x0 : List (List q8)) (Φ : Int → Prop) : (Int × List Int) → ((Int × List Int) → Prop) → Prop
 | (v1, v2), rec1 =>
 (v1 < (x0.length : Int) →
 inX v1 x0.length ∧
 Z164 v1 (ix x0 v1) fun v3 =>
 lenOk (v2 ++ ([v3] : List Int)).length 8 ∧
 inI (v1 + 1) ∧
 rec1 ((v1 + 1), (v2 ++ ([v3] : List Int)))) ∧
 (¬ (v1 < (x0.length : Int)) →
 LoopW (Z165 v2 Φ) (0, 0))
def q165 (x0 : List (List q8)) (Φ : Int → Prop) : Prop :=
 LoopW (Z166 x0 Φ) (0, ([] : List Int))
def Z167 (v2 : q16 × q16 × q13 × Bool) (v3 : q26 × List (List q8) × Int) (v4 : List (List q8) × Int) (v5 : q21 × Int) (v6 : List (List Sec) × Int) (v7 : Int × Int) (Φ : Bool → Prop) : (Int) → ((Int) → Prop) → Prop
 | v8, rec1 =>
 (v8 < (v4.1.length : Int) →
 inX v8 v4.1.length ∧
 inX v8 v3.2.1.length ∧
 ∃ v9 : List q8 × Unit, Z135 (ix v4.1 v8) (ix v3.2.1 v8) (fun z => (z, ()) = v9) ∧
 (0 < (v9.1.length : Int) →
 Φ false) ∧
 (¬ (0 < (v9.1.length : Int)) →
 inI (v8 + 1) ∧
 rec1 (v8 + 1))) ∧
 (¬ (v8 < (v4.1.length : Int)) →
 Z140 v2.2.1.Image v2.1.Image v4.1 fun v10 =>
 q134 v6.1 v2.2.1.Image fun v11 =>
 (v11 = true →
 Z146 ([v5.1] : List q21) fun v12 =>
 (v12 = v7.1 →
 q165 v4.1 fun v13 =>
 (v13 = v7.1 →
 (v10.2 = 0 →
 Φ v10.1) ∧
 (¬ (v10.2 = 0) →
 Φ false)) ∧
 (¬ (v13 = v7.1) →
 Φ false)) ∧
 (¬ (v12 = v7.1) →
 Φ false)) ∧
 (¬ (v11 = true) →
 Φ false))
def Z168 (x0 : q14) (Φ : Bool → Prop) : Prop :=
 Z11 x0 fun v1 =>
 (¬ (v1 = true) →
 Φ true) ∧
 (¬ (¬ (v1 = true)) →
 Z43 x0 fun v2 =>
 Z64 v2.1 v2.2.1 3 fun v3 =>
 Z103 v2.2.1.Image v2.1.Image v3.2.1 fun v4 =>
 Z116 v2.2.1.Image v4.1 5 10 0 ([] : List Int) fun v5 =>
 q164 v2.1.Image v5.1 fun v6 =>
 Z120 v2.1.Image v2.2.1.Image fun v7 =>
 (¬ (v2.2.2.2 = true) →
 Φ false) ∧
 (¬ (¬ (v2.2.2.2 = true)) →
 (v3.2.2 ≠ 0 →
 Φ false) ∧
 (¬ (v3.2.2 ≠ 0) →
 (v4.2 ≠ 0 →
 Φ false) ∧
 (¬ (v4.2 ≠ 0) →
 (v5.2 ≠ 0 →
 Φ false) ∧
 (¬ (v5.2 ≠ 0) →
 (v6.2 ≠ 0 →
 Φ false) ∧
 (¬ (v6.2 ≠ 0) →
 (v7.2 ≠ 0 →
 Φ false) ∧
 (¬ (v7.2 ≠ 0) →
 ((v4.1.length : Int) ≠ (v3.2.1.length : Int) →
 Φ false) ∧
 (¬ ((v4.1.length : Int) ≠ (v3.2.1.length : Int)) →
 LoopW (Z167 v2 v3 v4 v5 v6 v7 Φ) 0))))))))
def ghT : Hp → Prop := fun _ => True
def gh : Hp → Prop := fun H => TabH H 0
theorem ghUp : GUp gh := fun _ _ h hle => h.mono hle
def ct16 : Ct DD := ⟨16, [23], [4], [[false]], true, fun x Φ => q234 x.1 fun y => Φ (y, ())⟩
def pl16 : List PE := [⟨[4, 1, 0, 1, 1], [], [], ⟨[.int], [(0, .kp 0), (3, .v .int)], [], [], []⟩, false⟩]
def ct108 : Ct DD := ⟨108, [92], [3], [[false]], true, fun x Φ => Z0 x.1 fun y => Φ (y, ())⟩
def pl108 : List PE := []
def ct76 : Ct DD := ⟨76, [23], [33], [[true]], false, fun x Φ => q86 x.1 fun y => Φ (y, ())⟩
def pl76 : List PE := [⟨[4, 1, 0, 1, 1, 11, 0, 1], [], [], ⟨[.int, .lst 3], [(1, .kp 2), (5, .own 0), (11, .kp 8), (12, .kp 9), (13, .v .int)], [], [3], []⟩, false⟩]
def ct106 : Ct DD := ⟨106, [3], [4], [[false]], true, fun x Φ => Z2 x.1 fun y => Φ (y, ())⟩
def pl106 : List PE := []
def ct75 : Ct DD := ⟨75, [33], [42], [[false]], true, fun x Φ => Z4 x.1 fun y => Φ (y, ())⟩
def pl75 : List PE := [⟨[4, 1, 0, 1, 12, 0, 1, 11, 0, 0, 1, 1], [], [], ⟨[.int], [(0, .kp 0), (1, .kp 1), (7, .kp 4), (8, .v .int)], [], [], []⟩, false⟩]
def ct40 : Ct DD := ⟨40, [23], [42], [[false]], true, fun x Φ => q38 x.1 fun y => Φ (y, ())⟩
def pl40 : List PE := []
def ct70 : Ct DD := ⟨70, [92], [92], [[true]], false, fun x Φ => Z5 x.1 fun y => Φ (y, ())⟩
def pl70 : List PE := []
def ct54 : Ct DD := ⟨54, [23, 115], [42], [[false]], true, fun x Φ => q81 x.1 x.2.1 fun y => Φ (y, ())⟩
def pl54 : List PE := [⟨[4, 0, 1], [], [0], ⟨[.bool], [(0, .kp 1), (3, .kp 3), (5, .v .bool)], [], [], []⟩, true⟩]
def ct17 : Ct DD := ⟨17, [23, 24], [23, 3, 42], [[true], [false], [false]], false, fun x Φ => q39 x.1 x.2.1 fun y => Φ (y.1, y.2.1, y.2.2, ())⟩
def ct18 : Ct DD := ⟨18, [24], [4], [[false]], true, fun x Φ => q158 x.1 fun y => Φ (y, ())⟩
def pl18 : List PE := [⟨[4, 1, 0, 1], [], [], ⟨[.int], [(0, .kp 0), (3, .v .int)], [], [], []⟩, false⟩, ⟨[0, 5, 4, 1, 0, 1], [], [], ⟨[.bool], [(0, .kp 0), (3, .kp 3), (11, .v .bool)], [], [], []⟩, true⟩]
def ct4 : Ct DD := ⟨4, [27], [4], [[false]], true, fun x Φ => Z11 x.1 fun y => Φ (y, ())⟩
def pl4 : List PE := [⟨[4, 1, 0, 1, 1], [], [2, 0], ⟨[.int], [(1, .kp 4), (25, .kp 23), (26, .kp 24), (27, .v .int)], [], [], []⟩, false⟩]
def ct19 : Ct DD := ⟨19, [23], [33], [[true]], false, fun x Φ => Z13 x.1 fun y => Φ (y, ())⟩
def pl19 : List PE := [⟨[4, 1, 0, 1, 1], [], [], ⟨[.int, .lst 3], [(3, .own 0), (6, .kp 3), (7, .kp 4), (8, .v .int)], [], [3], []⟩, false⟩]
def ct101 : Ct DD := ⟨101, [3], [92], [[true]], false, fun x Φ => q256 x.1 fun y => Φ (y, ())⟩
def pl101 : List PE := []
def ct71 : Ct DD := ⟨71, [33], [23, 42], [[true], [false]], false, fun x Φ => q77 x.1 fun y => Φ (y.1, y.2, ())⟩
def pl71 : List PE := [⟨[4, 1, 0, 1, 1, 11, 0, 1, 1], [], [], ⟨[.int, .lst 92], [(1, .kp 2), (5, .own 0), (11, .kp 8), (12, .kp 9), (13, .v .int)], [], [92], []⟩, false⟩]
def ct84 : Ct DD := ⟨84, [3, 3, 3], [4], [[false]], true, fun x Φ => Z14 x.1 x.2.1 x.2.2.1 fun y => Φ (y, ())⟩
def pl84 : List PE := []
def ct82 : Ct DD := ⟨82, [3], [4], [[false]], true, fun x Φ => Z15 x.1 fun y => Φ (y, ())⟩
def pl82 : List PE := []
def ct120 : Ct DD := ⟨120, [3], [3], [[false]], true, fun x Φ => Z16 x.1 fun y => Φ (y, ())⟩
def pl120 : List PE := []
def ct114 : Ct DD := ⟨114, [3], [166, 42], [[false, true], [false]], false, fun x Φ => q194 x.1 fun y => Φ (y.1, y.2, ())⟩
def pl114 : List PE := [⟨[0, 1], [], [0], ⟨[.bool], [(0, .kp 1), (2, .kp 2), (9, .v .bool)], [], [], []⟩, true⟩]
def ct83 : Ct DD := ⟨83, [33], [30, 42], [[true], [false]], false, fun x Φ => Z18 x.1 fun y => Φ (y.1, y.2, ())⟩
def pl83 : List PE := [⟨[4, 1, 0, 1, 1], [], [], ⟨[.int, .lst 166], [(4, .own 0), (9, .kp 4), (10, .kp 5), (11, .v .int)], [], [166], []⟩, false⟩]
def ct36 : Ct DD := ⟨36, [33], [33], [[true]], false, fun x Φ => Z19 x.1 fun y => Φ (y, ())⟩
def pl36 : List PE := []
def sk115 : Sk DD := ⟨115, 131, 3, 154, true, inI, sortZ⟩
def ct55 : Ct DD := ⟨55, [33, 33, 3], [36, 42], [[true, true], [false]], false, fun x Φ => q159 x.1 x.2.1 x.2.2.1 fun y => Φ (y.1, y.2, ())⟩
def pl55 : List PE := [⟨[4, 1, 0, 1, 1, 1], [], [1], ⟨[.int], [(0, .kp 2), (1, .kp 3), (2, .kp 4), (6, .kp 5), (32, .kp 19), (33, .kp 20), (34, .v .int)], [(0, 36, [.kp 22,.kp 23])], [], []⟩, false⟩, ⟨[4, 1, 0, 1, 1, 1, 1, 1], [], [1], ⟨[.int, .mp 3 154], [(0, .kp 2), (2, .kp 4), (6, .kp 5), (12, .kp 28), (44, .kp 3), (45, .kp 29), (46, .v .int)], [(0, 36, [.kp 22,.kp 23])], [], [(24, .map 3 154 false true)]⟩, false⟩, ⟨[4, 1, 0, 1, 1, 13, 0, 1, 1, 1, 1, 1, 1, 1], [], [33, 32, 31, 0, 24, 1], ⟨[.int, .lst 154], [(0, .kp 28), (3, .own 0), (8, .kp 37), (9, .kp 38), (10, .v .int)], [], [154], []⟩, false⟩]
def ct92 : Ct DD := ⟨92, [166], [42], [[false]], true, fun x Φ => Z23 x.1 fun y => Φ (y, ())⟩
def pl92 : List PE := []
def ct133 : Ct DD := ⟨133, [166, 3], [4, 42], [[false], [false]], true, fun x Φ => Z24 x.1 x.2.1 fun y => Φ (y.1, y.2, ())⟩
def pl133 : List PE := []
def ct117 : Ct DD := ⟨117, [30, 33], [42], [[false]], true, fun x Φ => Z26 x.1 x.2.1 fun y => Φ (y, ())⟩
def pl117 : List PE := [⟨[4, 1, 0, 1, 1, 12, 0, 1, 1], [], [], ⟨[.int, .lst 4], [(0, .kp 0), (1, .kp 1), (2, .kp 2), (8, .own 0), (13, .kp 7), (14, .v .int)], [], [4], []⟩, false⟩]
def ct86 : Ct DD := ⟨86, [36], [42], [[false]], true, fun x Φ => Z28 x.1 fun y => Φ (y, ())⟩
def pl86 : List PE := [⟨[4, 1, 0, 1, 1, 1, 1], [], [1, 0], ⟨[.int, .int], [(1, .kp 3), (5, .v .int), (23, .kp 21), (24, .kp 22), (25, .v .int)], [], [], []⟩, false⟩]
def ct87 : Ct DD := ⟨87, [23, 115], [42], [[false]], true, fun x Φ => q132 x.1 x.2.1 fun y => Φ (y, ())⟩
def pl87 : List PE := []
def ct152 : Ct DD := ⟨152, [164], [164], [[true]], false, fun x Φ => Z29 x.1 fun y => Φ (y, ())⟩
def pl152 : List PE := []
def ct134 : Ct DD := ⟨134, [166], [166], [[false, true]], false, fun x Φ => q160 x.1 fun y => Φ (y, ())⟩
def pl134 : List PE := []
def ct118 : Ct DD := ⟨118, [30], [30], [[true]], false, fun x Φ => Z31 x.1 fun y => Φ (y, ())⟩
def pl118 : List PE := [⟨[4, 1, 0, 1, 1], [], [], ⟨[.int, .lst 166], [(3, .own 0), (6, .kp 3), (7, .kp 4), (8, .v .int)], [], [166], []⟩, false⟩]
def ct153 : Ct DD := ⟨153, [97, 3], [4], [[false]], true, fun x Φ => q161 x.1 x.2.1 fun y => Φ (y, ())⟩
def pl153 : List PE := []
def ct138 : Ct DD := ⟨138, [3, 3, 3], [197], [[false]], true, fun x Φ => q107 x.1 x.2.1 x.2.2.1 fun y => Φ (y, ())⟩
def pl138 : List PE := []
def ct135 : Ct DD := ⟨135, [197, 197], [197], [[false]], true, fun x Φ => Z32 x.1 x.2.1 fun y => Φ (y, ())⟩
def pl135 : List PE := []
def ct119 : Ct DD := ⟨119, [166, 97], [166, 42], [[false, true], [false]], false, fun x Φ => q133 x.1 x.2.1 fun y => Φ (y.1, y.2, ())⟩
def pl119 : List PE := [⟨[4, 1, 0, 1, 1, 1, 1, 13, 0, 1], [], [6, 5, 4, 3, 2, 1, 0], ⟨[.int, .lst 197], [(3, .kp 11), (4, .kp 12), (5, .kp 13), (6, .kp 14), (9, .own 0), (27, .kp 31), (28, .v .int)], [], [197], []⟩, false⟩]
def ct56 : Ct DD := ⟨56, [36, 115], [36, 42], [[true, true], [false]], false, fun x Φ => Z37 x.1 x.2.1 fun y => Φ (y.1, y.2, ())⟩
def pl56 : List PE := [⟨[4, 1, 0, 1, 1, 11, 0, 1, 1, 1, 1, 1], [], [4, 3, 2, 1, 0], ⟨[.int, .dm 3 154 166], [(3, .kp 10), (8, .kp 12), (9, .kp 13), (10, .v .int)], [], [], [(5, .dmp 3 154 false true 2 166)]⟩, false⟩, ⟨[4, 1, 0, 1, 1, 1, 1, 1, 1], [], [4, 3, 1, 0], ⟨[.itr, .dm 3 154 166], [(2, .kp 27), (3, .kp 28), (4, .kp 29), (10, .kp 10), (39, .kp 53)], [(2, 36, [.kp 17,.kp 18])], [], [(24, .itr 5), (5, .dmp 3 154 false true 2 166)]⟩, false⟩, ⟨[4, 1, 0, 1, 1, 14, 0, 1, 12, 0, 1, 1, 1, 1, 1, 1, 1], [], [58, 57, 5, 56, 55, 54, 2, 24, 4, 3, 1, 0], ⟨[.int, .lst 154], [(0, .kp 10), (3, .own 0), (8, .kp 62), (9, .kp 63), (10, .v .int)], [], [154], []⟩, false⟩, ⟨[4, 1, 0, 1, 14, 0, 0, 1, 4, 1, 1, 5, 4, 1, 0, 1, 1, 1, 1, 1, 1], [], [56, 55, 24, 5, 2], ⟨[.int, .lst 166], [(0, .kp 57), (10, .kp 61), (11, .kp 62), (12, .v .int)], [], [], [(54, .row 166)]⟩, false⟩]
def ct20 : Ct DD := ⟨20, [33, 3, 3, 24], [36, 4], [[false, false], [false]], false, fun x Φ => Z39 x.1 x.2.1 x.2.2.1 x.2.2.2.1 fun y => Φ (y.1, y.2, ())⟩
def pl20 : List PE := [⟨[4, 1, 0, 1, 1], [2, 3], [2, 3, 1, 0], ⟨[.int, .int, .lst 3, .lst 154], [(8, .kp 9), (10, .kp 19), (11, .v .int), (22, .kp 21), (23, .kp 22), (24, .v .int)], [(4, 36, [.v (.lst 3),.v (.lst 154)])], [], []⟩, false⟩]
def ct57 : Ct DD := ⟨57, [36, 3], [30, 3, 42], [[false], [false], [false]], false, fun x Φ => Z41 x.1 x.2.1 fun y => Φ (y.1, y.2.1, y.2.2, ())⟩
def pl57 : List PE := [⟨[4, 1, 0, 1, 1, 11, 0, 1, 1], [], [1, 0], ⟨[.int, .mp 3 154], [(3, .kp 7), (8, .kp 9), (9, .kp 10), (10, .v .int)], [], [], [(2, .map 3 154 false true)]⟩, false⟩]
def ct21 : Ct DD := ⟨21, [3, 29, 36, 3, 23], [32, 4], [[false, false, false, false], [false]], false, fun x Φ => Z42 x.1 x.2.1 x.2.2.1 x.2.2.2.1 x.2.2.2.2.1 fun y => Φ (y.1, y.2, ())⟩
def pl21 : List PE := []
def ct5 : Ct DD := ⟨5, [27], [32, 32, 36, 4], [[false, false, false, false], [false, false, false, false], [false, false], [false]], false, fun x Φ => Z43 x.1 fun y => Φ (y.1, y.2.1, y.2.2.1, y.2.2.2, ())⟩
def pl5 : List PE := []
def ct91 : Ct DD := ⟨91, [3, 3], [4], [[false]], true, fun x Φ => q211 x.1 x.2.1 fun y => Φ (y, ())⟩
def pl91 : List PE := []
def ct61 : Ct DD := ⟨61, [29], [4], [[false]], true, fun x Φ => Z45 x.1 fun y => Φ (y, ())⟩
def pl61 : List PE := [⟨[4, 1, 0, 1, 1], [], [], ⟨[.int, .int, .int, .int], [(3, .kp 4), (7, .kp 5), (8, .kp 6), (9, .v .int)], [(0, 74, [.v .int,.v .int,.v .int])], [], []⟩, false⟩]
def ct58 : Ct DD := ⟨58, [32], [42], [[false]], true, fun x Φ => q87 x.1 fun y => Φ (y, ())⟩
def pl58 : List PE := [⟨[4, 1, 0, 1, 1, 1, 1], [], [0], ⟨[.int], [(1, .kp 2), (31, .kp 28), (32, .kp 29), (33, .v .int)], [], [], []⟩, false⟩]
def ct93 : Ct DD := ⟨93, [92, 92], [4], [[false]], true, fun x Φ => Z47 x.1 x.2.1 fun y => Φ (y, ())⟩
def pl93 : List PE := []
def ct59 : Ct DD := ⟨59, [23, 23], [4], [[false]], true, fun x Φ => q162 x.1 x.2.1 fun y => Φ (y, ())⟩
def pl59 : List PE := [⟨[4, 1, 0, 1, 1, 12, 0, 1], [], [], ⟨[.int], [(1, .kp 1), (2, .kp 2), (15, .kp 9), (16, .kp 10), (17, .v .int)], [], [], []⟩, false⟩]
def ct122 : Ct DD := ⟨122, [197, 197], [197], [[false]], true, fun x Φ => q257 x.1 x.2.1 fun y => Φ (y, ())⟩
def pl122 : List PE := []
def ct94 : Ct DD := ⟨94, [166, 166], [166, 42], [[false, true], [false]], false, fun x Φ => q163 x.1 x.2.1 fun y => Φ (y.1, y.2, ())⟩
def pl94 : List PE := [⟨[4, 1, 0, 1, 1, 1, 1, 1, 12, 0, 1], [], [5, 4, 3, 2, 1, 0], ⟨[.int, .lst 197], [(2, .kp 9), (3, .kp 10), (4, .kp 11), (6, .kp 12), (10, .own 0), (35, .kp 35), (36, .v .int)], [], [197], []⟩, false⟩]
def ct139 : Ct DD := ⟨139, [197], [3], [[false]], true, fun x Φ => Z49 x.1 fun y => Φ (y, ())⟩
def it137 : It DD := ⟨137, [166, 3], [3], fun x l => q78 x.1 x.2.1 l⟩
def pl137 : List PE := [⟨[4, 1, 1], [], [], ⟨[.int], [(0, .kp 0), (1, .kp 3), (2, .kp 4), (10, .kp 9), (11, .kp 10), (12, .v .int)], [], [], []⟩, false⟩, ⟨[4, 1, 1, 4, 0, 1, 1, 5, 4, 1, 1], [], [], ⟨[.word], [(0, .kp 0), (1, .kp 3), (2, .kp 4), (4, .kp 17), (5, .v .word), (10, .kp 9), (11, .kp 10), (12, .kp 12)], [], [], []⟩, false⟩]
def ct95 : Ct DD := ⟨95, [166], [55], [[true]], false, fun x Φ => Z53 x.1 fun y => Φ (y, ())⟩
def pl95 : List PE := [⟨[4, 1, 0, 1, 1], [2, 3], [3, 2, 0], ⟨[.lst 97], [], [(1, 55, [.own 0])], [97], []⟩, false⟩]
def ct60 : Ct DD := ⟨60, [32, 32], [41], [[true]], false, fun x Φ => Z55 x.1 x.2.1 fun y => Φ (y, ())⟩
def pl60 : List PE := [⟨[4, 1, 0, 1, 1], [], [1, 0], ⟨[.int, .lst 55], [(2, .kp 5), (3, .kp 6), (5, .own 0), (14, .kp 14), (15, .v .int)], [], [55], []⟩, false⟩]
def ct24 : Ct DD := ⟨24, [32, 32], [41, 42], [[true], [false]], false, fun x Φ => Z57 x.1 x.2.1 fun y => Φ (y.1, y.2, ())⟩
def pl24 : List PE := [⟨[4, 1, 0, 1], [], [2, 1, 0], ⟨[.int], [(2, .kp 5), (3, .kp 6), (11, .kp 11), (12, .kp 12), (13, .v .int)], [], [], []⟩, false⟩]
def ct27 : Ct DD := ⟨27, [3], [4], [[false]], true, fun x Φ => Z58 x.1 fun y => Φ (y, ())⟩
def pl27 : List PE := []
def ct28 : Ct DD := ⟨28, [29], [3, 3], [[false], [false]], true, fun x Φ => Z59 x.1 fun y => Φ (y.1, y.2, ())⟩
def pl28 : List PE := []
def ct29 : Ct DD := ⟨29, [29, 29], [3, 3], [[false], [false]], true, fun x Φ => Z63 x.1 x.2.1 fun y => Φ (y.1, y.2, ())⟩
def pl29 : List PE := [⟨[4, 1, 0, 1, 1, 1], [], [], ⟨[.int, .int, .int], [(0, .kp 0), (1, .kp 1), (6, .v .int), (7, .v .int), (8, .v .int)], [], [], []⟩, false⟩, ⟨[0, 5, 4, 1, 0, 1, 1, 1], [], [], ⟨[.bool], [(0, .kp 0), (1, .kp 1), (6, .kp 8), (7, .kp 9), (8, .kp 10), (36, .v .bool)], [], [], []⟩, true⟩, ⟨[0, 1], [], [], ⟨[.bool], [(0, .kp 0), (1, .kp 1), (16, .v .bool)], [], [], []⟩, true⟩]
def ct6 : Ct DD := ⟨6, [32, 32, 3], [40, 41, 42], [[false, false, false, false, false, false, false, false], [true], [false]], false, fun x Φ => Z64 x.1 x.2.1 x.2.2.1 fun y => Φ (y.1, y.2.1, y.2.2, ())⟩
def pl6 : List PE := []
def ct96 : Ct DD := ⟨96, [33, 33], [4], [[false]], true, fun x Φ => Z66 x.1 x.2.1 fun y => Φ (y, ())⟩
def pl96 : List PE := [⟨[4, 1, 0, 1, 1], [], [], ⟨[.int], [(0, .kp 0), (1, .kp 1), (12, .kp 9), (13, .v .int)], [], [], []⟩, false⟩]
def ct62 : Ct DD := ⟨62, [23, 23], [42], [[false]], true, fun x Φ => q195 x.1 x.2.1 fun y => Φ (y, ())⟩
def pl62 : List PE := [⟨[4, 1, 0, 1], [], [0], ⟨[.int], [(0, .kp 1), (1, .kp 2), (10, .kp 6), (11, .kp 7), (12, .v .int)], [], [], []⟩, false⟩]
def ct63 : Ct DD := ⟨63, [92, 92], [55], [[true]], false, fun x Φ => Z68 x.1 x.2.1 fun y => Φ (y, ())⟩
def pl63 : List PE := [⟨[4, 1, 9, 4, 1, 0, 1, 1, 1], [], [3, 2], ⟨[.int, .int, .lst 97], [(0, .kp 4), (1, .kp 6), (2, .kp 7), (6, .kp 9), (7, .v .int)], [(1, 3, [.v .int]), (0, 55, [.own 0])], [97], [(5, .jmp)]⟩, false⟩, ⟨[0, 1, 4, 0, 1, 1, 5, 4, 1, 9, 4, 1, 0, 1, 1, 1], [], [], ⟨[], [], [], [12], []⟩, false⟩]
def ct30 : Ct DD := ⟨30, [23, 23], [41, 42], [[true], [false]], false, fun x Φ => Z70 x.1 x.2.1 fun y => Φ (y.1, y.2, ())⟩
def pl30 : List PE := [⟨[4, 1, 0, 1, 1, 1], [], [], ⟨[.int, .lst 55], [(0, .kp 0), (1, .kp 1), (7, .own 0), (16, .kp 12), (17, .v .int)], [], [55], []⟩, false⟩]
def ct66 : Ct DD := ⟨66, [55, 3], [42], [[false]], true, fun x Φ => Z73 x.1 x.2.1 fun y => Φ (y, ())⟩
def pl66 : List PE := [⟨[4, 1, 0, 1, 1, 1], [], [], ⟨[.int, .int], [(1, .kp 1), (5, .v .int), (14, .kp 10), (15, .kp 11), (16, .v .int)], [], [], []⟩, false⟩, ⟨[3, 1, 4, 0, 1, 4, 0, 1, 1, 5, 4, 1, 0, 1, 1, 1], [], [13], ⟨[.bool], [(1, .kp 1), (5, .kp 14), (7, .kp 19), (14, .kp 10), (15, .kp 11), (16, .kp 15), (24, .v .bool)], [], [], []⟩, true⟩]
def ct98 : Ct DD := ⟨98, [130, 4], [3], [[false]], true, fun x Φ => Z75 x.1 x.2.1 fun y => Φ (y, ())⟩
def pl98 : List PE := [⟨[4, 1, 0, 1], [], [], ⟨[.int], [(0, .kp 0), (1, .kp 1), (7, .kp 4), (8, .v .int)], [], [], []⟩, false⟩]
def ct67 : Ct DD := ⟨67, [130, 4], [4], [[false]], true, fun x Φ => Z76 x.1 x.2.1 fun y => Φ (y, ())⟩
def pl67 : List PE := []
def ct31 : Ct DD := ⟨31, [23, 41], [42], [[false]], true, fun x Φ => q108 x.1 x.2.1 fun y => Φ (y, ())⟩
def pl31 : List PE := [⟨[4, 1, 0, 1, 1, 12, 0, 1, 1], [], [0], ⟨[.int, .lst 4], [(1, .kp 2), (5, .own 0), (8, .kp 5), (9, .kp 6), (10, .v .int)], [], [4], []⟩, false⟩]
def ct109 : Ct DD := ⟨109, [97], [3, 3, 4], [[false], [false], [false]], true, fun x Φ => Z80 x.1 fun y => Φ (y.1, y.2.1, y.2.2, ())⟩
def pl109 : List PE := [⟨[1, 1, 1], [], [0], ⟨[.int], [(5, .kp 12), (6, .v .int)], [], [], []⟩, true⟩, ⟨[0, 1, 1, 1], [], [], ⟨[.bool], [(1, .kp 2), (5, .kp 12), (6, .kp 13), (23, .v .bool)], [], [], []⟩, true⟩]
def ct128 : Ct DD := ⟨128, [3], [4], [[false]], true, fun x Φ => Z81 x.1 fun y => Φ (y, ())⟩
def pl128 : List PE := []
def ct112 : Ct DD := ⟨112, [3, 3], [3], [[false]], true, fun x Φ => Z82 x.1 x.2.1 fun y => Φ (y, ())⟩
def pl112 : List PE := []
def ct111 : Ct DD := ⟨111, [149, 149], [3], [[false]], true, fun x Φ => Z83 x.1 x.2.1 fun y => Φ (y, ())⟩
def pl111 : List PE := []
def tn110 : Tn DD := ⟨110, 149, [111], fun xs Φ => Z84 xs Φ⟩
def ct79 : Ct DD := ⟨79, [41], [145], [[true]], false, fun x Φ => q63 x.1 fun y => Φ (y, ())⟩
def pl79 : List PE := [⟨[4, 1, 0, 1, 1], [], [], ⟨[.int, .lst 149], [(3, .own 0), (11, .kp 3), (12, .kp 4), (13, .v .int)], [], [149], []⟩, false⟩, ⟨[4, 1, 1, 4, 0, 1, 1, 5, 4, 1, 0, 1, 1], [], [], ⟨[.int, .lst 149], [(3, .own 0), (4, .kp 13), (11, .kp 3), (12, .kp 4), (13, .kp 8), (18, .kp 15), (19, .kp 16), (20, .v .int)], [], [149], []⟩, false⟩]
def ct68 : Ct DD := ⟨68, [4, 4], [4], [[false]], true, fun x Φ => Z87 x.1 x.2.1 fun y => Φ (y, ())⟩
def pl68 : List PE := []
def ct34 : Ct DD := ⟨34, [55, 55], [55], [[true]], false, fun x Φ => Z101 x.1 x.2.1 fun y => Φ (y, ())⟩
def pl34 : List PE := [⟨[4, 1, 1, 1, 1, 9, 4, 1, 0, 1, 11, 0, 1, 13, 0, 1], [], [7, 6, 2, 1, 0], ⟨[.int, .bool, .int, .int, .int, .lst 97], [(0, .kp 4), (3, .kp 11), (5, .kp 16), (6, .kp 17), (7, .v .int), (8, .v .bool), (16, .kp 20), (17, .kp 21), (18, .v .int)], [(8, 147, [.v .int,.v .int]), (3, 55, [.own 0])], [97], [(5, .jmp)]⟩, false⟩, ⟨[1, 1, 1, 1, 4, 0, 1, 1, 5, 4, 1, 1, 1, 1, 9, 4, 1, 0, 1, 11, 0, 1, 13, 0, 1], [], [8, 30, 3, 5, 29], ⟨[.int], [(0, .kp 4), (3, .kp 11), (5, .kp 16), (6, .kp 17), (7, .v .int), (8, .kp 32), (10, .kp 38), (11, .kp 60), (16, .kp 20), (17, .kp 21), (18, .kp 33)], [], [], []⟩, true⟩, ⟨[0, 1, 1, 1, 1, 4, 0, 1, 1, 5, 4, 1, 1, 1, 1, 9, 4, 1, 0, 1, 11, 0, 1, 13, 0, 1], [], [], ⟨[.bool], [(0, .kp 4), (3, .kp 11), (5, .kp 16), (6, .kp 17), (7, .kp 31), (8, .kp 32), (10, .kp 38), (11, .kp 60), (16, .kp 20), (17, .kp 21), (18, .kp 33), (59, .v .bool)], [], [], []⟩, true⟩, ⟨[0, 1, 1, 4, 0, 1, 1, 5, 4, 1, 1, 1, 1, 9, 4, 1, 0, 1, 11, 0, 1, 13, 0, 1], [], [8, 30, 3, 5, 29], ⟨[.bool], [(0, .kp 4), (3, .kp 11), (5, .kp 16), (6, .kp 17), (7, .kp 31), (8, .kp 32), (10, .kp 38), (16, .kp 20), (17, .kp 21), (18, .kp 33), (46, .v .bool)], [], [], []⟩, true⟩, ⟨[1, 1, 1, 1, 4, 0, 1, 1, 5, 4, 1, 1, 1, 1, 9, 4, 1, 0, 1, 11, 0, 1, 13, 0, 1], [], [8, 30, 3, 5, 29], ⟨[.int], [(0, .kp 4), (3, .kp 11), (5, .kp 16), (6, .kp 17), (7, .v .int), (8, .kp 32), (10, .kp 38), (11, .kp 60), (16, .kp 20), (17, .kp 21), (18, .kp 33)], [], [], []⟩, true⟩, ⟨[0, 1, 1, 1, 1, 4, 0, 1, 1, 5, 4, 1, 1, 1, 1, 9, 4, 1, 0, 1, 11, 0, 1, 13, 0, 1], [], [], ⟨[.bool], [(0, .kp 4), (3, .kp 11), (5, .kp 16), (6, .kp 17), (7, .kp 31), (8, .kp 32), (10, .kp 38), (11, .kp 60), (16, .kp 20), (17, .kp 21), (18, .kp 33), (59, .v .bool)], [], [], []⟩, true⟩, ⟨[0, 1, 1, 4, 0, 1, 1, 5, 4, 1, 1, 1, 1, 9, 4, 1, 0, 1, 11, 0, 1, 13, 0, 1], [], [8, 30, 3, 5, 29], ⟨[.bool], [(0, .kp 4), (3, .kp 11), (5, .kp 16), (6, .kp 17), (7, .kp 31), (8, .kp 32), (10, .kp 38), (16, .kp 20), (17, .kp 21), (18, .kp 33), (46, .v .bool)], [], [], []⟩, true⟩, ⟨[1, 1, 1, 1, 4, 0, 1, 1, 5, 4, 1, 1, 1, 1, 9, 4, 1, 0, 1, 11, 0, 1, 13, 0, 1], [], [8, 30, 3, 5, 29], ⟨[.int], [(0, .kp 4), (3, .kp 11), (5, .kp 16), (6, .kp 17), (7, .v .int), (8, .kp 32), (10, .kp 38), (11, .kp 60), (16, .kp 20), (17, .kp 21), (18, .kp 33)], [], [], []⟩, true⟩, ⟨[0, 1, 1, 1, 1, 4, 0, 1, 1, 5, 4, 1, 1, 1, 1, 9, 4, 1, 0, 1, 11, 0, 1, 13, 0, 1], [], [], ⟨[.bool], [(0, .kp 4), (3, .kp 11), (5, .kp 16), (6, .kp 17), (7, .kp 31), (8, .kp 32), (10, .kp 38), (11, .kp 60), (16, .kp 20), (17, .kp 21), (18, .kp 33), (59, .v .bool)], [], [], []⟩, true⟩, ⟨[0, 1, 1, 4, 0, 1, 1, 5, 4, 1, 1, 1, 1, 9, 4, 1, 0, 1, 11, 0, 1, 13, 0, 1], [], [8, 30, 3, 5, 29], ⟨[.bool], [(0, .kp 4), (3, .kp 11), (5, .kp 16), (6, .kp 17), (7, .kp 31), (8, .kp 32), (10, .kp 38), (16, .kp 20), (17, .kp 21), (18, .kp 33), (46, .v .bool)], [], [], []⟩, true⟩, ⟨[1, 1, 1, 1, 4, 0, 1, 1, 5, 4, 1, 1, 1, 1, 9, 4, 1, 0, 1, 11, 0, 1, 13, 0, 1], [], [8, 30, 3, 5, 29], ⟨[.int], [(0, .kp 4), (3, .kp 11), (5, .kp 16), (6, .kp 17), (7, .v .int), (8, .kp 32), (10, .kp 38), (11, .kp 60), (16, .kp 20), (17, .kp 21), (18, .kp 33)], [], [], []⟩, true⟩, ⟨[0, 1, 1, 1, 1, 4, 0, 1, 1, 5, 4, 1, 1, 1, 1, 9, 4, 1, 0, 1, 11, 0, 1, 13, 0, 1], [], [], ⟨[.bool], [(0, .kp 4), (3, .kp 11), (5, .kp 16), (6, .kp 17), (7, .kp 31), (8, .kp 32), (10, .kp 38), (11, .kp 60), (16, .kp 20), (17, .kp 21), (18, .kp 33), (59, .v .bool)], [], [], []⟩, true⟩, ⟨[0, 1, 1, 4, 0, 1, 1, 5, 4, 1, 1, 1, 1, 9, 4, 1, 0, 1, 11, 0, 1, 13, 0, 1], [], [8, 30, 3, 5, 29], ⟨[.bool], [(0, .kp 4), (3, .kp 11), (5, .kp 16), (6, .kp 17), (7, .kp 31), (8, .kp 32), (10, .kp 38), (16, .kp 20), (17, .kp 21), (18, .kp 33), (46, .v .bool)], [], [], []⟩, true⟩]
def ct7 : Ct DD := ⟨7, [23, 23, 41], [41, 42], [[true], [false]], false, fun x Φ => Z103 x.1 x.2.1 x.2.2.1 fun y => Φ (y.1, y.2, ())⟩
def pl7 : List PE := [⟨[4, 1, 0, 1, 1, 12, 0, 1, 1, 1, 1], [], [1, 0], ⟨[.int, .lst 55], [(1, .kp 3), (5, .own 0), (8, .kp 6), (9, .kp 7), (10, .v .int)], [], [55], []⟩, false⟩]
def it99 : It DD := ⟨99, [41], [3, 97], fun x l => q56 x.1 l⟩
def pl99 : List PE := [⟨[4, 1], [], [], ⟨[.int], [(0, .kp 0), (7, .kp 3), (8, .kp 4), (9, .v .int)], [], [], []⟩, false⟩, ⟨[4, 1, 1, 4, 0, 1, 1, 5, 4, 1], [], [], ⟨[.int], [(0, .kp 0), (3, .kp 11), (7, .kp 3), (8, .kp 4), (9, .kp 6), (14, .kp 13), (15, .kp 14), (16, .v .int)], [], [], []⟩, false⟩]
def ct35 : Ct DD := ⟨35, [23, 41], [24, 42], [[true], [false]], false, fun x Φ => Z107 x.1 x.2.1 fun y => Φ (y.1, y.2, ())⟩
def pl35 : List PE := [⟨[4, 1, 0, 1, 1, 1, 1], [2], [2, 0], ⟨[.lst 115], [], [(1, 24, [.own 0])], [115], []⟩, false⟩]
def ct38 : Ct DD := ⟨38, [3, 92], [3], [[false]], true, fun x Φ => Z108 x.1 x.2.1 fun y => Φ (y, ())⟩
def pl38 : List PE := []
def ct72 : Ct DD := ⟨72, [3, 3, 3], [4], [[false]], true, fun x Φ => q143 x.1 x.2.1 x.2.2.1 fun y => Φ (y, ())⟩
def pl72 : List PE := []
def ct103 : Ct DD := ⟨103, [3], [4], [[false]], true, fun x Φ => Z109 x.1 fun y => Φ (y, ())⟩
def pl103 : List PE := []
def ct73 : Ct DD := ⟨73, [33, 3], [42], [[false]], true, fun x Φ => Z111 x.1 x.2.1 fun y => Φ (y, ())⟩
def pl73 : List PE := [⟨[4, 1, 0, 1, 12, 0, 1, 11, 0, 0, 1, 1], [], [], ⟨[.int], [(0, .kp 0), (1, .kp 1), (7, .kp 4), (8, .v .int)], [], [], []⟩, false⟩]
def ct74 : Ct DD := ⟨74, [24, 33], [42], [[false]], true, fun x Φ => Z113 x.1 x.2.1 fun y => Φ (y, ())⟩
def pl74 : List PE := [⟨[4, 1, 0, 1, 12, 0, 1, 1, 1], [0], [1, 0], ⟨[.int], [(0, .kp 2), (1, .kp 3), (9, .kp 5), (10, .kp 6), (11, .v .int)], [], [], []⟩, false⟩]
def ct39 : Ct DD := ⟨39, [48, 33], [42], [[false]], true, fun x Φ => q109 x.1 x.2.1 fun y => Φ (y, ())⟩
def pl39 : List PE := [⟨[4, 0, 1, 1], [], [1, 0], ⟨[.bool], [(1, .kp 3), (2, .kp 4), (16, .v .bool)], [], [], []⟩, true⟩]
def ct8 : Ct DD := ⟨8, [23, 41, 3, 3, 3, 33], [48, 42], [[false, false, false, true, true], [false]], false, fun x Φ => Z116 x.1 x.2.1 x.2.2.1 x.2.2.2.1 x.2.2.2.2.1 x.2.2.2.2.2.1 fun y => Φ (y.1, y.2, ())⟩
def pl8 : List PE := [⟨[4, 1, 0, 1, 1, 11, 0, 1, 1, 1, 1], [], [3, 2, 1, 0], ⟨[.int, .lst 3], [(1, .kp 5), (5, .own 0), (8, .kp 8), (9, .kp 9), (10, .v .int)], [], [3], []⟩, false⟩]
def ct9 : Ct DD := ⟨9, [23, 48], [23, 42], [[true], [false]], false, fun x Φ => q164 x.1 x.2.1 fun y => Φ (y.1, y.2, ())⟩
def pl9 : List PE := [⟨[4, 1, 0, 1, 1, 1], [], [0], ⟨[.int, .lst 3], [(0, .kp 1), (3, .kp 3), (7, .own 0), (19, .kp 12), (20, .kp 13), (21, .v .int)], [], [3], []⟩, false⟩]
def ct10 : Ct DD := ⟨10, [23, 23], [3, 42], [[false], [false]], true, fun x Φ => Z120 x.1 x.2.1 fun y => Φ (y.1, y.2, ())⟩
def pl10 : List PE := [⟨[4, 1, 0, 1, 1, 1, 1], [], [0], ⟨[.int, .int], [(8, .v .int), (22, .kp 16), (23, .kp 17), (24, .v .int)], [], [], []⟩, false⟩, ⟨[4, 1, 1, 4, 0, 1, 1, 5, 4, 1, 0, 1, 1, 1, 1], [], [], ⟨[.int, .int], [(8, .v .int), (22, .kp 16), (23, .kp 17), (24, .kp 20), (28, .kp 25), (29, .kp 26), (30, .v .int)], [], [], []⟩, false⟩]
def ct43 : Ct DD := ⟨43, [4, 4], [4], [[false]], true, fun x Φ => Z121 x.1 x.2.1 fun y => Φ (y, ())⟩
def pl43 : List PE := []
def ct11 : Ct DD := ⟨11, [55, 55], [55], [[true]], false, fun x Φ => Z135 x.1 x.2.1 fun y => Φ (y, ())⟩
def pl11 : List PE := [⟨[4, 1, 1, 1, 1, 9, 4, 1, 0, 1, 11, 0, 1, 13, 0, 1], [], [7, 6, 2, 1, 0], ⟨[.int, .bool, .int, .int, .int, .lst 97], [(0, .kp 4), (3, .kp 11), (5, .kp 16), (6, .kp 17), (7, .v .int), (8, .v .bool), (16, .kp 20), (17, .kp 21), (18, .v .int)], [(8, 147, [.v .int,.v .int]), (3, 55, [.own 0])], [97], [(5, .jmp)]⟩, false⟩, ⟨[1, 1, 1, 1, 4, 0, 1, 1, 5, 4, 1, 1, 1, 1, 9, 4, 1, 0, 1, 11, 0, 1, 13, 0, 1], [], [8, 30, 3, 5, 29], ⟨[.int], [(0, .kp 4), (3, .kp 11), (5, .kp 16), (6, .kp 17), (7, .v .int), (8, .kp 32), (10, .kp 38), (11, .kp 60), (16, .kp 20), (17, .kp 21), (18, .kp 33)], [], [], []⟩, true⟩, ⟨[0, 1, 1, 1, 1, 4, 0, 1, 1, 5, 4, 1, 1, 1, 1, 9, 4, 1, 0, 1, 11, 0, 1, 13, 0, 1], [], [], ⟨[.bool], [(0, .kp 4), (3, .kp 11), (5, .kp 16), (6, .kp 17), (7, .kp 31), (8, .kp 32), (10, .kp 38), (11, .kp 60), (16, .kp 20), (17, .kp 21), (18, .kp 33), (59, .v .bool)], [], [], []⟩, true⟩, ⟨[0, 1, 1, 4, 0, 1, 1, 5, 4, 1, 1, 1, 1, 9, 4, 1, 0, 1, 11, 0, 1, 13, 0, 1], [], [8, 30, 3, 5, 29], ⟨[.bool], [(0, .kp 4), (3, .kp 11), (5, .kp 16), (6, .kp 17), (7, .kp 31), (8, .kp 32), (10, .kp 38), (16, .kp 20), (17, .kp 21), (18, .kp 33), (46, .v .bool)], [], [], []⟩, true⟩, ⟨[1, 1, 1, 1, 4, 0, 1, 1, 5, 4, 1, 1, 1, 1, 9, 4, 1, 0, 1, 11, 0, 1, 13, 0, 1], [], [8, 30, 3, 5, 29], ⟨[.int], [(0, .kp 4), (3, .kp 11), (5, .kp 16), (6, .kp 17), (7, .v .int), (8, .kp 32), (10, .kp 38), (11, .kp 60), (16, .kp 20), (17, .kp 21), (18, .kp 33)], [], [], []⟩, true⟩, ⟨[0, 1, 1, 1, 1, 4, 0, 1, 1, 5, 4, 1, 1, 1, 1, 9, 4, 1, 0, 1, 11, 0, 1, 13, 0, 1], [], [], ⟨[.bool], [(0, .kp 4), (3, .kp 11), (5, .kp 16), (6, .kp 17), (7, .kp 31), (8, .kp 32), (10, .kp 38), (11, .kp 60), (16, .kp 20), (17, .kp 21), (18, .kp 33), (59, .v .bool)], [], [], []⟩, true⟩, ⟨[0, 1, 1, 4, 0, 1, 1, 5, 4, 1, 1, 1, 1, 9, 4, 1, 0, 1, 11, 0, 1, 13, 0, 1], [], [8, 30, 3, 5, 29], ⟨[.bool], [(0, .kp 4), (3, .kp 11), (5, .kp 16), (6, .kp 17), (7, .kp 31), (8, .kp 32), (10, .kp 38), (16, .kp 20), (17, .kp 21), (18, .kp 33), (46, .v .bool)], [], [], []⟩, true⟩, ⟨[1, 1, 1, 1, 4, 0, 1, 1, 5, 4, 1, 1, 1, 1, 9, 4, 1, 0, 1, 11, 0, 1, 13, 0, 1], [], [8, 30, 3, 5, 29], ⟨[.int], [(0, .kp 4), (3, .kp 11), (5, .kp 16), (6, .kp 17), (7, .v .int), (8, .kp 32), (10, .kp 38), (11, .kp 60), (16, .kp 20), (17, .kp 21), (18, .kp 33)], [], [], []⟩, true⟩, ⟨[0, 1, 1, 1, 1, 4, 0, 1, 1, 5, 4, 1, 1, 1, 1, 9, 4, 1, 0, 1, 11, 0, 1, 13, 0, 1], [], [], ⟨[.bool], [(0, .kp 4), (3, .kp 11), (5, .kp 16), (6, .kp 17), (7, .kp 31), (8, .kp 32), (10, .kp 38), (11, .kp 60), (16, .kp 20), (17, .kp 21), (18, .kp 33), (59, .v .bool)], [], [], []⟩, true⟩, ⟨[0, 1, 1, 4, 0, 1, 1, 5, 4, 1, 1, 1, 1, 9, 4, 1, 0, 1, 11, 0, 1, 13, 0, 1], [], [8, 30, 3, 5, 29], ⟨[.bool], [(0, .kp 4), (3, .kp 11), (5, .kp 16), (6, .kp 17), (7, .kp 31), (8, .kp 32), (10, .kp 38), (16, .kp 20), (17, .kp 21), (18, .kp 33), (46, .v .bool)], [], [], []⟩, true⟩, ⟨[1, 1, 1, 1, 4, 0, 1, 1, 5, 4, 1, 1, 1, 1, 9, 4, 1, 0, 1, 11, 0, 1, 13, 0, 1], [], [8, 30, 3, 5, 29], ⟨[.int], [(0, .kp 4), (3, .kp 11), (5, .kp 16), (6, .kp 17), (7, .v .int), (8, .kp 32), (10, .kp 38), (11, .kp 60), (16, .kp 20), (17, .kp 21), (18, .kp 33)], [], [], []⟩, true⟩, ⟨[0, 1, 1, 1, 1, 4, 0, 1, 1, 5, 4, 1, 1, 1, 1, 9, 4, 1, 0, 1, 11, 0, 1, 13, 0, 1], [], [], ⟨[.bool], [(0, .kp 4), (3, .kp 11), (5, .kp 16), (6, .kp 17), (7, .kp 31), (8, .kp 32), (10, .kp 38), (11, .kp 60), (16, .kp 20), (17, .kp 21), (18, .kp 33), (59, .v .bool)], [], [], []⟩, true⟩, ⟨[0, 1, 1, 4, 0, 1, 1, 5, 4, 1, 1, 1, 1, 9, 4, 1, 0, 1, 11, 0, 1, 13, 0, 1], [], [8, 30, 3, 5, 29], ⟨[.bool], [(0, .kp 4), (3, .kp 11), (5, .kp 16), (6, .kp 17), (7, .kp 31), (8, .kp 32), (10, .kp 38), (16, .kp 20), (17, .kp 21), (18, .kp 33), (46, .v .bool)], [], [], []⟩, true⟩]
def ct46 : Ct DD := ⟨46, [55, 55], [4], [[false]], true, fun x Φ => Z137 x.1 x.2.1 fun y => Φ (y, ())⟩
def pl46 : List PE := [⟨[4, 1, 0, 1, 1], [], [], ⟨[.int], [(0, .kp 0), (1, .kp 1), (12, .kp 9), (13, .v .int)], [], [], []⟩, false⟩]
def ct45 : Ct DD := ⟨45, [55, 55], [4], [[false]], true, fun x Φ => Z138 x.1 x.2.1 fun y => Φ (y, ())⟩
def pl45 : List PE := []
def ct12 : Ct DD := ⟨12, [23, 23, 41], [4, 42], [[false], [false]], true, fun x Φ => Z140 x.1 x.2.1 x.2.2.1 fun y => Φ (y.1, y.2, ())⟩
def pl12 : List PE := [⟨[4, 1, 0, 1, 1, 12, 0, 1, 1, 1, 1], [], [1, 0], ⟨[.int], [(1, .kp 3), (2, .kp 4), (15, .kp 11), (16, .kp 12), (17, .v .int)], [], [], []⟩, false⟩]
def ct48 : Ct DD := ⟨48, [92, 92], [4], [[false]], true, fun x Φ => Z142 x.1 x.2.1 fun y => Φ (y, ())⟩
def pl48 : List PE := [⟨[4, 1, 0, 1, 1], [], [], ⟨[.int], [(0, .kp 0), (1, .kp 1), (12, .kp 9), (13, .v .int)], [], [], []⟩, false⟩]
def ct13 : Ct DD := ⟨13, [23, 23], [4], [[false]], true, fun x Φ => q134 x.1 x.2.1 fun y => Φ (y, ())⟩
def pl13 : List PE := [⟨[4, 1, 0, 1, 1, 12, 0, 1], [], [], ⟨[.int], [(1, .kp 1), (2, .kp 2), (15, .kp 9), (16, .kp 10), (17, .v .int)], [], [], []⟩, false⟩]
def ct49 : Ct DD := ⟨49, [24], [3], [[false]], true, fun x Φ => Z144 x.1 fun y => Φ (y, ())⟩
def pl49 : List PE := [⟨[4, 1, 0, 1, 1], [], [], ⟨[.int, .int], [(3, .v .int), (6, .kp 3), (7, .kp 4), (8, .v .int)], [], [], []⟩, false⟩]
def ct14 : Ct DD := ⟨14, [61], [3], [[false]], true, fun x Φ => Z146 x.1 fun y => Φ (y, ())⟩
def pl14 : List PE := [⟨[4, 1, 0, 1, 1], [], [], ⟨[.int, .int], [(3, .v .int), (6, .kp 3), (7, .kp 4), (8, .v .int)], [], [], []⟩, false⟩]
def ct113 : Ct DD := ⟨113, [4, 4], [4], [[false]], true, fun x Φ => Z147 x.1 x.2.1 fun y => Φ (y, ())⟩
def pl113 : List PE := []
def ct80 : Ct DD := ⟨80, [55, 55], [55], [[true]], false, fun x Φ => Z161 x.1 x.2.1 fun y => Φ (y, ())⟩
def pl80 : List PE := [⟨[4, 1, 1, 1, 1, 9, 4, 1, 0, 1, 11, 0, 1, 13, 0, 1], [], [7, 6, 2, 1, 0], ⟨[.int, .bool, .int, .int, .int, .lst 97], [(0, .kp 4), (3, .kp 11), (5, .kp 16), (6, .kp 17), (7, .v .int), (8, .v .bool), (16, .kp 20), (17, .kp 21), (18, .v .int)], [(8, 147, [.v .int,.v .int]), (3, 55, [.own 0])], [97], [(5, .jmp)]⟩, false⟩, ⟨[1, 1, 1, 1, 4, 0, 1, 1, 5, 4, 1, 1, 1, 1, 9, 4, 1, 0, 1, 11, 0, 1, 13, 0, 1], [], [8, 30, 3, 5, 29], ⟨[.int], [(0, .kp 4), (3, .kp 11), (5, .kp 16), (6, .kp 17), (7, .v .int), (8, .kp 32), (10, .kp 38), (11, .kp 60), (16, .kp 20), (17, .kp 21), (18, .kp 33)], [], [], []⟩, true⟩, ⟨[0, 1, 1, 1, 1, 4, 0, 1, 1, 5, 4, 1, 1, 1, 1, 9, 4, 1, 0, 1, 11, 0, 1, 13, 0, 1], [], [], ⟨[.bool], [(0, .kp 4), (3, .kp 11), (5, .kp 16), (6, .kp 17), (7, .kp 31), (8, .kp 32), (10, .kp 38), (11, .kp 60), (16, .kp 20), (17, .kp 21), (18, .kp 33), (59, .v .bool)], [], [], []⟩, true⟩, ⟨[0, 1, 1, 4, 0, 1, 1, 5, 4, 1, 1, 1, 1, 9, 4, 1, 0, 1, 11, 0, 1, 13, 0, 1], [], [8, 30, 3, 5, 29], ⟨[.bool], [(0, .kp 4), (3, .kp 11), (5, .kp 16), (6, .kp 17), (7, .kp 31), (8, .kp 32), (10, .kp 38), (16, .kp 20), (17, .kp 21), (18, .kp 33), (46, .v .bool)], [], [], []⟩, true⟩, ⟨[1, 1, 1, 1, 4, 0, 1, 1, 5, 4, 1, 1, 1, 1, 9, 4, 1, 0, 1, 11, 0, 1, 13, 0, 1], [], [8, 30, 3, 5, 29], ⟨[.int], [(0, .kp 4), (3, .kp 11), (5, .kp 16), (6, .kp 17), (7, .v .int), (8, .kp 32), (10, .kp 38), (11, .kp 60), (16, .kp 20), (17, .kp 21), (18, .kp 33)], [], [], []⟩, true⟩, ⟨[0, 1, 1, 1, 1, 4, 0, 1, 1, 5, 4, 1, 1, 1, 1, 9, 4, 1, 0, 1, 11, 0, 1, 13, 0, 1], [], [], ⟨[.bool], [(0, .kp 4), (3, .kp 11), (5, .kp 16), (6, .kp 17), (7, .kp 31), (8, .kp 32), (10, .kp 38), (11, .kp 60), (16, .kp 20), (17, .kp 21), (18, .kp 33), (59, .v .bool)], [], [], []⟩, true⟩, ⟨[0, 1, 1, 4, 0, 1, 1, 5, 4, 1, 1, 1, 1, 9, 4, 1, 0, 1, 11, 0, 1, 13, 0, 1], [], [8, 30, 3, 5, 29], ⟨[.bool], [(0, .kp 4), (3, .kp 11), (5, .kp 16), (6, .kp 17), (7, .kp 31), (8, .kp 32), (10, .kp 38), (16, .kp 20), (17, .kp 21), (18, .kp 33), (46, .v .bool)], [], [], []⟩, true⟩, ⟨[1, 1, 1, 1, 4, 0, 1, 1, 5, 4, 1, 1, 1, 1, 9, 4, 1, 0, 1, 11, 0, 1, 13, 0, 1], [], [8, 30, 3, 5, 29], ⟨[.int], [(0, .kp 4), (3, .kp 11), (5, .kp 16), (6, .kp 17), (7, .v .int), (8, .kp 32), (10, .kp 38), (11, .kp 60), (16, .kp 20), (17, .kp 21), (18, .kp 33)], [], [], []⟩, true⟩, ⟨[0, 1, 1, 1, 1, 4, 0, 1, 1, 5, 4, 1, 1, 1, 1, 9, 4, 1, 0, 1, 11, 0, 1, 13, 0, 1], [], [], ⟨[.bool], [(0, .kp 4), (3, .kp 11), (5, .kp 16), (6, .kp 17), (7, .kp 31), (8, .kp 32), (10, .kp 38), (11, .kp 60), (16, .kp 20), (17, .kp 21), (18, .kp 33), (59, .v .bool)], [], [], []⟩, true⟩, ⟨[0, 1, 1, 4, 0, 1, 1, 5, 4, 1, 1, 1, 1, 9, 4, 1, 0, 1, 11, 0, 1, 13, 0, 1], [], [8, 30, 3, 5, 29], ⟨[.bool], [(0, .kp 4), (3, .kp 11), (5, .kp 16), (6, .kp 17), (7, .kp 31), (8, .kp 32), (10, .kp 38), (16, .kp 20), (17, .kp 21), (18, .kp 33), (46, .v .bool)], [], [], []⟩, true⟩, ⟨[1, 1, 1, 1, 4, 0, 1, 1, 5, 4, 1, 1, 1, 1, 9, 4, 1, 0, 1, 11, 0, 1, 13, 0, 1], [], [8, 30, 3, 5, 29], ⟨[.int], [(0, .kp 4), (3, .kp 11), (5, .kp 16), (6, .kp 17), (7, .v .int), (8, .kp 32), (10, .kp 38), (11, .kp 60), (16, .kp 20), (17, .kp 21), (18, .kp 33)], [], [], []⟩, true⟩, ⟨[0, 1, 1, 1, 1, 4, 0, 1, 1, 5, 4, 1, 1, 1, 1, 9, 4, 1, 0, 1, 11, 0, 1, 13, 0, 1], [], [], ⟨[.bool], [(0, .kp 4), (3, .kp 11), (5, .kp 16), (6, .kp 17), (7, .kp 31), (8, .kp 32), (10, .kp 38), (11, .kp 60), (16, .kp 20), (17, .kp 21), (18, .kp 33), (59, .v .bool)], [], [], []⟩, true⟩, ⟨[0, 1, 1, 4, 0, 1, 1, 5, 4, 1, 1, 1, 1, 9, 4, 1, 0, 1, 11, 0, 1, 13, 0, 1], [], [8, 30, 3, 5, 29], ⟨[.bool], [(0, .kp 4), (3, .kp 11), (5, .kp 16), (6, .kp 17), (7, .kp 31), (8, .kp 32), (10, .kp 38), (16, .kp 20), (17, .kp 21), (18, .kp 33), (46, .v .bool)], [], [], []⟩, true⟩]
def ct52 : Ct DD := ⟨52, [55], [3], [[false]], true, fun x Φ => Z163 x.1 fun y => Φ (y, ())⟩
def pl52 : List PE := [⟨[4, 1, 0, 1, 1], [], [0], ⟨[.int, .int], [(3, .v .int), (7, .kp 5), (8, .kp 6), (9, .v .int)], [], [], []⟩, false⟩]
def ct51 : Ct DD := ⟨51, [3, 55], [3], [[false]], true, fun x Φ => Z164 x.1 x.2.1 fun y => Φ (y, ())⟩
def pl51 : List PE := []
def ct15 : Ct DD := ⟨15, [41], [3], [[false]], true, fun x Φ => q165 x.1 fun y => Φ (y, ())⟩
def pl15 : List PE := [⟨[4, 1, 0, 1, 1, 11, 0, 0, 1, 1], [], [], ⟨[.int, .lst 3], [(1, .kp 1), (5, .own 0), (8, .kp 4), (9, .kp 5), (10, .v .int)], [], [3], []⟩, false⟩, ⟨[4, 1, 0, 1, 1], [], [7], ⟨[.int, .int], [(3, .v .int), (7, .kp 12), (8, .kp 13), (9, .v .int)], [], [], []⟩, false⟩]
def ct3 : Ct DD := ⟨3, [27], [4], [[false]], true, fun x Φ => Z168 x.1 fun y => Φ (y, ())⟩
def pl3 : List PE := [⟨[4, 1, 0, 1, 1, 1, 1, 1, 1, 1, 1, 1], [], [10, 9, 7, 8, 6, 5, 4, 3, 2, 1, 0], ⟨[.int], [(3, .kp 24), (4, .kp 25), (8, .kp 36), (10, .kp 47), (12, .kp 56), (14, .kp 65), (16, .kp 75), (99, .kp 107), (100, .v .int)], [], [], []⟩, false⟩]
def Eqn (cs : List (Ct DD)) (pl : List PE) (S : List (List Nat × Nat)) (K : List (Sk DD)) (c : Ct DD) : Prop := ∀ x Φ, c.W x Φ = topF ⟨Tryz.prog, tab, cs, pl, [], gh, [], S, K⟩ 9 c.f c.ps c.rs c.own x Φ
theorem eq34 : Eqn [ct68, ct79] pl34 [([1, 1000025], 2), ([1, 1000030], 2)] [] ct34 := fun x Φ => by kernel_rfl
theorem eq20 : Eqn [ct55, ct56] pl20 [] [] ct20 := fun x Φ => by kernel_rfl
theorem eq59 : Eqn [ct93] pl59 [] [] ct59 := fun x Φ => by kernel_rfl
theorem eq52 : Eqn [ct80] pl52 [] [] ct52 := fun x Φ => by kernel_rfl
theorem eq133 : Eqn [ct92] pl133 [] [] ct133 := fun x Φ => by kernel_rfl
theorem eq36 : Eqn [] pl36 [] [] ct36 := fun x Φ => by kernel_rfl
theorem eq91 : Eqn [] pl91 [] [] ct91 := fun x Φ => by kernel_rfl
theorem eq27 : Eqn [] pl27 [] [] ct27 := fun x Φ => by kernel_rfl
theorem eq11 : Eqn [ct43, ct79] pl11 [([1, 1000025], 2), ([1, 1000030], 2)] [] ct11 := fun x Φ => by kernel_rfl
theorem eq109 : Eqn [] pl109 [] [] ct109 := fun x Φ => by kernel_rfl
theorem eq83 : Eqn [ct114] pl83 [] [] ct83 := fun x Φ => by kernel_rfl
theorem eq114 : Eqn [ct120] pl114 [] [] ct114 := fun x Φ => by kernel_rfl
theorem eq152 : Eqn [] pl152 [] [] ct152 := fun x Φ => by kernel_rfl
theorem eq70 : Eqn [] pl70 [] [] ct70 := fun x Φ => by kernel_rfl
theorem eq40 : Eqn [ct75, ct76] pl40 [] [] ct40 := fun x Φ => by kernel_rfl
theorem eq103 : Eqn [ct72] pl103 [] [] ct103 := fun x Φ => by kernel_rfl
theorem eq128 : Eqn [] pl128 [] [] ct128 := fun x Φ => by kernel_rfl
theorem eq80 : Eqn [ct79, ct113] pl80 [([1, 1000025], 2), ([1, 1000030], 2)] [] ct80 := fun x Φ => by kernel_rfl
theorem eq62 : Eqn [ct40, ct76, ct96] pl62 [] [] ct62 := fun x Φ => by kernel_rfl
theorem eq13 : Eqn [ct48] pl13 [] [] ct13 := fun x Φ => by kernel_rfl
theorem eq16 : Eqn [] pl16 [] [] ct16 := fun x Φ => by kernel_rfl
theorem eq98 : Eqn [] pl98 [] [] ct98 := fun x Φ => by kernel_rfl
theorem eq43 : Eqn [] pl43 [] [] ct43 := fun x Φ => by kernel_rfl
theorem eq68 : Eqn [] pl68 [] [] ct68 := fun x Φ => by kernel_rfl
theorem eq135 : Eqn [] pl135 [] [] ct135 := fun x Φ => by kernel_rfl
theorem eq56 : Eqn [ct36, ct71, ct86, ct87, ct118, ct119] pl56 [([10, 0, 1, 11, 0, 1, 1, 1, 1, 1], 166002), ([10, 0, 4, 1, 1, 5, 4, 1, 0, 1, 1, 1, 1, 1, 1], 166002), ([10, 0, 11, 0, 0, 1, 1, 14, 0, 1, 12, 0, 1, 1, 1, 1, 1, 1, 1], 166002), ([11, 0, 0, 1, 1, 1, 1, 1, 1], 166002), ([13, 1, 1, 4, 1, 1, 5, 4, 1, 0, 1, 1, 1, 1, 1, 1], 166002), ([14, 1, 1, 4, 0, 1, 1, 5, 4, 1, 0, 1, 1, 11, 0, 1, 1, 1, 1, 1], 166002)] [sk115] ct56 := fun x Φ => by kernel_rfl
theorem eq4 : Eqn [ct16, ct17, ct18] pl4 [] [] ct4 := fun x Φ => by kernel_rfl
theorem eq119 : Eqn [ct92, ct135, ct138, ct152, ct153] pl119 [] [] ct119 := fun x Φ => by kernel_rfl
theorem eq10 : Eqn [ct30] pl10 [] [] ct10 := fun x Φ => by kernel_rfl
theorem eq15 : Eqn [ct51] pl15 [] [] ct15 := fun x Φ => by kernel_rfl
theorem eq92 : Eqn [ct120] pl92 [] [] ct92 := fun x Φ => by kernel_rfl
theorem eq46 : Eqn [] pl46 [] [] ct46 := fun x Φ => by kernel_rfl
theorem eq118 : Eqn [ct134] pl118 [] [] ct118 := fun x Φ => by kernel_rfl
theorem eq153 : Eqn [] pl153 [] [] ct153 := fun x Φ => by kernel_rfl
theorem eq120 : Eqn [] pl120 [] [] ct120 := fun x Φ => by kernel_rfl
theorem eq101 : Eqn [] pl101 [] [] ct101 := fun x Φ => by kernel_rfl
theorem eq51 : Eqn [ct52] pl51 [] [] ct51 := fun x Φ => by kernel_rfl
theorem eq108 : Eqn [] pl108 [] [] ct108 := fun x Φ => by kernel_rfl
theorem eq3 : Eqn [ct4, ct5, ct6, ct7, ct8, ct9, ct10, ct11, ct12, ct13, ct14, ct15] pl3 [] [] ct3 := fun x Φ => by kernel_rfl
theorem eq79 (x : TupD DD ct79.ps) (Φ : TupD DD ct79.rs → Prop) : ct79.W x Φ = topF ⟨Tryz.prog, tab, [ct109], pl79, [], gh, [tn110], [], []⟩ 9 ct79.f ct79.ps ct79.rs ct79.own x Φ := by kernel_rfl
theorem eq35 (x : TupD DD ct35.ps) (Φ : TupD DD ct35.rs → Prop) : ct35.W x Φ = topF ⟨Tryz.prog, tab, [ct31, ct40, ct70], pl35, [it99], gh, [], [], []⟩ 9 ct35.f ct35.ps ct35.rs ct35.own x Φ := by kernel_rfl
theorem eq8 : Eqn [ct35, ct36, ct38, ct39] pl8 [] [] ct8 := fun x Φ => by kernel_rfl
theorem eq7 : Eqn [ct30, ct31, ct34] pl7 [] [] ct7 := fun x Φ => by kernel_rfl
theorem eq12 : Eqn [ct7, ct30, ct45] pl12 [] [] ct12 := fun x Φ => by kernel_rfl
theorem eq24 : Eqn [ct58, ct59, ct60] pl24 [] [] ct24 := fun x Φ => by kernel_rfl
theorem eq75 : Eqn [ct106] pl75 [] [] ct75 := fun x Φ => by kernel_rfl
theorem eq96 : Eqn [] pl96 [] [] ct96 := fun x Φ => by kernel_rfl
theorem eq112 : Eqn [ct128] pl112 [] [] ct112 := fun x Φ => by kernel_rfl
theorem eq87 : Eqn [ct40, ct54] pl87 [] [] ct87 := fun x Φ => by kernel_rfl
theorem eq84 : Eqn [] pl84 [] [] ct84 := fun x Φ => by kernel_rfl
theorem eq93 : Eqn [] pl93 [] [] ct93 := fun x Φ => by kernel_rfl
theorem eq38 : Eqn [] pl38 [] [] ct38 := fun x Φ => by kernel_rfl
theorem eq55 : Eqn [ct36, ct71, ct82, ct83, ct84] pl55 [] [sk115] ct55 := fun x Φ => by kernel_rfl
theorem eq94 : Eqn [ct92, ct122] pl94 [] [] ct94 := fun x Φ => by kernel_rfl
theorem eq5 : Eqn [ct17, ct19, ct20, ct21] pl5 [] [] ct5 := fun x Φ => by kernel_rfl
theorem eq58 : Eqn [ct40, ct61, ct91, ct92] pl58 [] [] ct58 := fun x Φ => by kernel_rfl
theorem eq60 : Eqn [ct94, ct95] pl60 [] [] ct60 := fun x Φ => by kernel_rfl
theorem eq30 : Eqn [ct62, ct63] pl30 [] [] ct30 := fun x Φ => by kernel_rfl
theorem eq39 : Eqn [ct71, ct72, ct73, ct74] pl39 [] [] ct39 := fun x Φ => by kernel_rfl
theorem eq71 : Eqn [ct75, ct101] pl71 [] [] ct71 := fun x Φ => by kernel_rfl
theorem eq48 : Eqn [] pl48 [] [] ct48 := fun x Φ => by kernel_rfl
theorem eq14 : Eqn [ct49] pl14 [] [] ct14 := fun x Φ => by kernel_rfl
theorem eq21 : Eqn [ct57] pl21 [] [] ct21 := fun x Φ => by kernel_rfl
theorem eq67 : Eqn [ct98] pl67 [] [] ct67 := fun x Φ => by kernel_rfl
theorem eq106 : Eqn [] pl106 [] [] ct106 := fun x Φ => by kernel_rfl
theorem eq122 : Eqn [] pl122 [] [] ct122 := fun x Φ => by kernel_rfl
theorem eq29 : Eqn [ct61] pl29 [] [] ct29 := fun x Φ => by kernel_rfl
theorem eq6 (x : TupD DD ct6.ps) (Φ : TupD DD ct6.rs → Prop) : ct6.W x Φ = topE ⟨Tryz.prog, tab, [ct24, ct27, ct28, ct29], pl6, [], gh, [], [], []⟩ 9 ct6.f ct6.ps ct6.rs ct6.own x Φ := by kernel_rfl
theorem eq63 : Eqn [] pl63 [] [] ct63 := fun x Φ => by kernel_rfl
theorem eq86 : Eqn [ct71, ct82, ct84, ct117] pl86 [] [] ct86 := fun x Φ => by kernel_rfl
theorem eq61 : Eqn [ct91] pl61 [] [] ct61 := fun x Φ => by kernel_rfl
theorem eqi99 (x : TupD DD it99.cs) (l : List (TupD DD it99.ts)) : it99.W x l = iterF ⟨Tryz.prog, tab, [], pl99, [], gh, [], [], []⟩ it99.f it99.cs it99.ts x l := by kernel_rfl
theorem eq9 : Eqn [ct17, ct39, ct40] pl9 [] [] ct9 := fun x Φ => by kernel_rfl
theorem eq117 : Eqn [ct133] pl117 [] [] ct117 := fun x Φ => by kernel_rfl
theorem eq73 : Eqn [ct72, ct103] pl73 [] [] ct73 := fun x Φ => by kernel_rfl
theorem eq19 : Eqn [] pl19 [] [] ct19 := fun x Φ => by kernel_rfl
theorem eq49 : Eqn [] pl49 [] [] ct49 := fun x Φ => by kernel_rfl
theorem eq45 : Eqn [ct46] pl45 [] [] ct45 := fun x Φ => by kernel_rfl
theorem eq111 : Eqn [ct112] pl111 [] [] ct111 := fun x Φ => by kernel_rfl
theorem eq82 : Eqn [ct84] pl82 [] [] ct82 := fun x Φ => by kernel_rfl
theorem eq95 (x : TupD DD ct95.ps) (Φ : TupD DD ct95.rs → Prop) : ct95.W x Φ = topF ⟨Tryz.prog, tab, [], pl95, [it137], gh, [], [], []⟩ 9 ct95.f ct95.ps ct95.rs ct95.own x Φ := by kernel_rfl
theorem eq74 : Eqn [ct71, ct87] pl74 [] [] ct74 := fun x Φ => by kernel_rfl
theorem eq66 : Eqn [] pl66 [] [] ct66 := fun x Φ => by kernel_rfl
theorem eqi137 (x : TupD DD it137.cs) (l : List (TupD DD it137.ts)) : it137.W x l = iterF ⟨Tryz.prog, tab, [ct92, ct138, ct139], pl137, [], gh, [], [], []⟩ it137.f it137.cs it137.ts x l := by kernel_rfl
theorem eq138 : Eqn [] pl138 [] [] ct138 := fun x Φ => by kernel_rfl
theorem eq57 : Eqn [ct86, ct118] pl57 [] [] ct57 := fun x Φ => by kernel_rfl
theorem eq31 : Eqn [ct66, ct67] pl31 [] [] ct31 := fun x Φ => by kernel_rfl
theorem eq54 : Eqn [] pl54 [] [] ct54 := fun x Φ => by kernel_rfl
theorem eq18 : Eqn [] pl18 [] [] ct18 := fun x Φ => by kernel_rfl
theorem eq76 : Eqn [ct108] pl76 [] [] ct76 := fun x Φ => by kernel_rfl
theorem eq28 : Eqn [] pl28 [] [] ct28 := fun x Φ => by kernel_rfl
theorem eq134 : Eqn [ct152] pl134 [] [] ct134 := fun x Φ => by kernel_rfl
theorem eq72 : Eqn [] pl72 [] [] ct72 := fun x Φ => by kernel_rfl
theorem eq113 : Eqn [] pl113 [] [] ct113 := fun x Φ => by kernel_rfl
end Go.Proofs.YtbcembjnddnneaaGreatDoor
namespace Go.Proofs.YtbcembjnddnneaaGreatDoor
open Go
def rwd {α : Type} : Result α → World
  | .ok _ w => w
  | .halt _ w => w
theorem ask_up {α : Type} (a : Ask α) : ∀ w : World, w.drawn ≤ (w.ask a).2.drawn := by
  induction a with
  | done a => intro w; exact Nat.le_refl _
  | ask what range k ih =>
    intro w; simp only [World.ask]
    split
    · exact ih _ _
    · exact Nat.le_trans (Nat.le_succ _) (ih _ { w with drawn := w.drawn + 1 })
theorem q822 (w : World) (c : Sys) : w.drawn ≤ (w.sys c).2.drawn := by
  have h := ask_up (Kernel.perform c w.os) w; unfold World.sys; generalize w.ask (Kernel.perform c w.os) = r at h; obtain ⟨⟨r, os⟩, w'⟩ := r; cases r <;> first | exact h | exact Nat.le_refl _
theorem q476 {p : Program} {w w' : World} {a k : Addr} {u : TypeId} {v : Value} {b : Bool} {l : List Addr} (h : w.viewStore p a u k v b = .ok (w', l)) : w'.drawn = w.drawn := by
  unfold World.viewStore at h; simp only [bind, Except.bind, pure, Except.pure] at h
  (repeat' split at h) <;> first | contradiction | (simp only [Except.ok.injEq, Prod.mk.injEq] at h; obtain ⟨rfl, _⟩ := h; rfl)
theorem q524 {p : Program} {w w' : World} {a : Addr} {v : Value} {b : Bool} {l : List Addr} (h : w.farStore p a v b = .ok (w', l)) : w'.drawn = w.drawn := by
  unfold World.farStore at h
  split at h
  · split at h
    · rename_i r hr
      simp only [Except.ok.injEq] at h; subst h; exact q476 hr
    · contradiction
  · contradiction
theorem q477 (w : World) (a : Addr) (n : Nat) : (w.freeze a n).drawn = w.drawn := by
  unfold World.freeze; split <;> rfl
theorem q823 {α : Type} (p : Program) (s : Sem α) : ∀ w : World, w.drawn ≤ (rwd (s.run p w)).drawn := by
  induction s with
  | pure a => intro w; exact Nat.le_refl _
  | load m a k ih =>
    intro w; simp only [Sem.run]
    split
    · exact ih _ _
    · split
      · exact ih _ _
      · exact Nat.le_refl _
  | store m a v k ih =>
    intro w
    have hk : w.drawn ≤ (rwd (match w.cell? a with
      | some _ => if w.frozen? a then Result.halt (.unsupported (.unsafePointer "a write to bytes that a string shares")) w else k.run p (w.setCell a v)
      | none => match w.farStore p a v (m == .atomic) with
        | .ok (w, _) => k.run p w
        | .error h => .halt h w)).drawn := by
      split
      · split
        · exact Nat.le_refl _
        · exact ih (w.setCell a _)
      · split
        · rename_i hf
          exact Nat.le_trans (Nat.le_of_eq (q524 hf).symm) (ih _)
        · exact Nat.le_refl _
    cases v <;> simp only [Sem.run] <;> first | exact hk | exact Nat.le_refl _
  | new o k ih => intro w; exact ih _ { w with heap := w.heap.push o }
  | shape r k ih => intro w; exact ih _ _
  | freeze a n k ih => intro w; exact Nat.le_trans (Nat.le_of_eq (q477 w a n).symm) (ih (w.freeze a n))
  | frozen a k ih => intro w; exact ih _ _
  | getObj r k ih =>
    intro w; simp only [Sem.run]
    split
    · exact Nat.le_refl _
    · exact ih _ _
    · exact Nat.le_refl _
  | setObj r o k ih =>
    intro w; simp only [Sem.run]
    split
    · exact Nat.le_refl _
    · exact ih { w with heap := w.heap.setIfInBounds r o }
    · exact Nat.le_refl _
  | choose q k ih =>
    intro w; simp only [Sem.run]
    split
    · exact ih _ _
    · exact Nat.le_trans (Nat.le_succ _) (ih _ { w with drawn := w.drawn + 1 })
  | sys c k ih => intro w; exact Nat.le_trans (q822 w c) (ih _ _)
  | program k ih => intro w; exact ih _ _
  | mark m k ih => intro w; exact ih _
  | halt h => intro w; exact Nat.le_refl _
theorem q54 {α : Type} {p : Program} {s : Sem α} {w w' : World} {a : α} (h : s.run p w = .ok a w') : w.drawn ≤ w'.drawn := by
  have := q823 p s w; rw [h] at this; exact this
theorem q48 {α : Type} {p : Program} {s : Sem α} {w w' : World} {x : Halt} (h : s.run p w = .halt x w') : w.drawn ≤ w'.drawn := by
  have := q823 p s w; rw [h] at this; exact this
def gw : GStep → World
  | .go _ w _ => w
  | .comm _ _ _ _ w _ => w
  | .spawn _ _ w _ => w
  | .count _ w _ => w
  | .timer _ _ w _ => w
  | .alone _ _ w _ => w
  | .newcoro _ _ _ w _ => w
  | .coroswitch _ _ _ w _ => w
  | .collect _ w _ => w
  | .watch _ w _ => w
  | .ended _ w _ => w
theorem q57 (es : Array Event) (s : GStep) : gw (s.after es) = gw s := by cases s <;> rfl
theorem gw_go (g : Goroutine) (w : World) (es : Array Event) : gw (.go g w es) = w := rfl
theorem q103 (g : Goroutine) (c : Array CommCase) (b : Bool) (s : CommShape) (w : World) (es : Array Event) : gw (.comm g c b s w es) = w := rfl
theorem q67 (g c : Goroutine) (w : World) (es : Array Event) : gw (.spawn g c w es) = w := rfl
theorem q68 (g : Goroutine) (w : World) (es : Array Event) : gw (.count g w es) = w := rfl
theorem q69 (g : Goroutine) (o : TimerOp) (w : World) (es : Array Event) : gw (.timer g o w es) = w := rfl
theorem q70 (g : Goroutine) (o : Bool) (w : World) (es : Array Event) : gw (.alone g o w es) = w := rfl
theorem q42 (g : Goroutine) (c : Nat) (d : Deferred) (w : World) (es : Array Event) : gw (.newcoro g c d w es) = w := rfl
theorem q29 (g : Goroutine) (c : Nat) (x : Bool) (w : World) (es : Array Event) : gw (.coroswitch g c x w es) = w := rfl
theorem q43 (g : Goroutine) (w : World) (es : Array Event) : gw (.collect g w es) = w := rfl
theorem q71 (g : Goroutine) (w : World) (es : Array Event) : gw (.watch g w es) = w := rfl
theorem q72 (o : Outcome) (w : World) (es : Array Event) : gw (.ended o w es) = w := rfl
theorem q166 (fr : Frame) (m : String) (w : World) : gw (endThrow fr m w) = w := rfl
theorem q610 (w : World) (fd : Nat) (t : ByteArray) (o : Outcome) : w.drawn ≤ (gw (endWith w fd t o)).drawn := by
  have h := q822 w (.write fd t); unfold endWith; generalize w.sys (.write fd t) = r at h; obtain ⟨r, w'⟩ := r; cases r <;> simp only <;> (try split) <;> exact h
theorem q221 (p : Program) (fr : Frame) (v : Value) (w : World) : gw (endPrinting p fr v w) = w := by
  unfold endPrinting; simp only
  split <;> rfl
theorem q350 (p : Program) (fr : Frame) (cs : List Frame) (d : Option Dying) (m : String) (w : World) : w.drawn ≤ (gw (endFatal p fr cs d m w)).drawn := by
  unfold endFatal
  extract_lets chain raw shown
  clear_value shown
  split <;> (repeat (first | rw [q57] | rw [gw_go] | rw [q103] | rw [q67] | rw [q68] | rw [q69] | rw [q70] | rw [q42] | rw [q29] | rw [q43] | rw [q71] | rw [q72])) <;> (first | exact Nat.le_refl _ | exact q54 (by assumption) | exact q48 (by assumption))
theorem q611 (p : Program) (fr : Frame) (d : Dying) (f : Fatal) (w : World) : w.drawn ≤ (gw (writeOn p fr d f w)).drawn := by
  unfold writeOn
  extract_lets on
  split
  · exact Nat.le_refl _
  · extract_lets write
    clear_value write; simp only [Sem.runT_eq]
    split <;> rename_i h <;> simp only [Prod.mk.injEq] at h <;> (try simp only [on]) <;> (repeat (first | rw [q57] | rw [gw_go] | rw [q103] | rw [q67] | rw [q68] | rw [q69] | rw [q70] | rw [q42] | rw [q29] | rw [q43] | rw [q71] | rw [q72])) <;> first | exact q54 h.1 | exact q48 h.1
theorem die_up (p : Program) (fr : Frame) (d : Dying) (w : World) : w.drawn ≤ (gw (die p fr d w)).drawn := by
  unfold die
  split
  · exact q611 _ _ _ _ _
  · split
    · split
      · exact Nat.le_refl _
      · exact q610 _ _ _ _
    · simp only [Sem.runT_eq]
      (repeat' split) <;> (repeat (first | rw [q57] | rw [gw_go] | rw [q103] | rw [q67] | rw [q68] | rw [q69] | rw [q70] | rw [q42] | rw [q29] | rw [q43] | rw [q71] | rw [q72])) <;> (try simp only [q221]) <;> (first | exact Nat.le_refl _ | exact q54 (by assumption) | exact q48 (by assumption))
theorem q351 (p : Program) (main : Bool) (fr : Frame) (cs : List Frame) (d : Option Dying) (v : Value) (w : World) : gw (doReturn p main fr cs d v w) = w := by
  unfold doReturn
  (repeat' split) <;> rfl
theorem q352 (p : Program) (fr : Frame) (cs : List Frame) (dy : Option Dying) (d : Deferred) (w : World) : w.drawn ≤ (gw (callDeferred p fr cs dy d w)).drawn := by
  unfold callDeferred; simp only [Sem.runT_eq]
  (repeat' split) <;> (repeat (first | rw [q57] | rw [gw_go] | rw [q103] | rw [q67] | rw [q68] | rw [q69] | rw [q70] | rw [q42] | rw [q29] | rw [q43] | rw [q71] | rw [q72])) <;> (try simp only [q166]) <;> first | (first | exact Nat.le_refl _ | exact q54 (by assumption) | exact q48 (by assumption)) | exact Nat.le_trans (q48 (by assumption)) (q350 _ _ _ _ _ _)
theorem q706 (p : Program) (main : Bool) (fr : Frame) (cs : List Frame) (dy : Option Dying) (w : World) : w.drawn ≤ (gw (unwind p main fr cs dy w)).drawn := by
  unfold unwind; simp only [Sem.runT_eq]
  (repeat' split) <;> (repeat (first | rw [q57] | rw [gw_go] | rw [q103] | rw [q67] | rw [q68] | rw [q69] | rw [q70] | rw [q42] | rw [q29] | rw [q43] | rw [q71] | rw [q72])) <;> (try simp only [q351, q221]) <;> first | (first | exact Nat.le_refl _ | exact q54 (by assumption) | exact q48 (by assumption)) | exact q352 _ _ _ _ _ _
theorem q771 (p : Program) (fr : Frame) (cs : List Frame) (dy : Option Dying) (g : Nat) (w : World) : w.drawn ≤ (gw (early p fr cs dy g w)).drawn := by
  unfold early
  extract_lets refuse notYet
  have hn : ∀ w', w.drawn ≤ w'.drawn → w.drawn ≤ (gw (notYet w')).drawn := fun w' h => by
    simp only [notYet]
    (repeat' split) <;> (repeat (first | rw [q57] | rw [gw_go] | rw [q103] | rw [q67] | rw [q68] | rw [q69] | rw [q70] | rw [q42] | rw [q29] | rw [q43] | rw [q71] | rw [q72])) <;> exact h
  have hr : w.drawn ≤ (gw refuse).drawn := Nat.le_refl _; clear_value refuse notYet
  (repeat' split) <;> (repeat (first | rw [q57] | rw [gw_go] | rw [q103] | rw [q67] | rw [q68] | rw [q69] | rw [q70] | rw [q42] | rw [q29] | rw [q43] | rw [q71] | rw [q72])) <;> first | exact hr | exact hn _ (Nat.le_refl _) | exact hn _ (q54 (by assumption)) | (first | exact Nat.le_refl _ | exact q54 (by assumption) | exact q48 (by assumption))
theorem q323 (p : Program) (l : Bool) (fr : Frame) (cs : List Frame) (dy : Option Dying) (s : Sem Next) (w : World) : w.drawn ≤ (gw (stepG.apply p l fr cs dy s w)).drawn := by
  unfold stepG.apply
  have hs : (if l = true then s.runT p w #[] else (s.run p w, #[])).1 = s.run p w := by
    cases l <;> simp [Sem.runT_eq]
  generalize (if l = true then s.runT p w #[] else (s.run p w, #[])) = r at hs; obtain ⟨r, es⟩ := r; simp only at hs; subst hs; simp only [q57]
  (repeat' split) <;> (repeat (first | rw [q57] | rw [gw_go] | rw [q103] | rw [q67] | rw [q68] | rw [q69] | rw [q70] | rw [q42] | rw [q29] | rw [q43] | rw [q71] | rw [q72])) <;> (try simp only [q166]) <;> first | (first | exact Nat.le_refl _ | exact q54 (by assumption) | exact q48 (by assumption)) | exact Nat.le_trans (q48 (by assumption)) (q350 _ _ _ _ _ _) | exact Nat.le_trans (q48 (by assumption)) (q771 _ _ _ _ _ _)
theorem q707 (p : Program) (l : Bool) (fr : Frame) (cs : List Frame) (dy : Option Dying) (w : World) : w.drawn ≤ (gw (stepG.oper p l fr cs dy w)).drawn := by
  unfold stepG.oper
  (repeat' split) <;> (repeat (first | rw [q57] | rw [gw_go] | rw [q103] | rw [q67] | rw [q68] | rw [q69] | rw [q70] | rw [q42] | rw [q29] | rw [q43] | rw [q71] | rw [q72])) <;> first | (first | exact Nat.le_refl _ | exact q54 (by assumption) | exact q48 (by assumption)) | exact q323 _ _ _ _ _ _ _
theorem q708 {α : Type} (d : Nat) (o : Option α) (x : GStep) (f : α → GStep) (hx : d ≤ (gw x).drawn) (hf : ∀ a, d ≤ (gw (f a)).drawn) : d ≤ (gw (o.elim x f)).drawn := by
  cases o
  · exact hx
  · exact hf _
theorem exec_up (p : Program) (main l : Bool) (fr : Frame) (cs : List Frame) (dy : Option Dying) (w : World) : w.drawn ≤ (gw (stepG.exec p main l fr cs dy w)).drawn := by
  unfold stepG.exec
  extract_lets go to lost leave
  have hgo : ∀ fr w', w.drawn ≤ w'.drawn → w.drawn ≤ (gw (go fr w')).drawn := fun _ _ h => h; have hto : ∀ k, w.drawn ≤ (gw (to k)).drawn := fun _ => Nat.le_refl _; have hlost : ∀ s, w.drawn ≤ (gw (lost s)).drawn := fun _ => Nat.le_refl _
  have hleave : ∀ j, w.drawn ≤ (gw (leave j)).drawn := fun j => by
    simp only [leave]; clear_value go to lost leave
    split
    · split <;> first | exact hgo _ _ (Nat.le_refl _) | exact hlost _ | (split <;> first | exact hgo _ _ (Nat.le_refl _) | exact hlost _)
    · simp only [Sem.runT_eq, q57]
      split
      · rw [q351]; (first | exact Nat.le_refl _ | exact q54 (by assumption) | exact q48 (by assumption))
      · (repeat (first | rw [q57] | rw [gw_go] | rw [q103] | rw [q67] | rw [q68] | rw [q69] | rw [q70] | rw [q42] | rw [q29] | rw [q43] | rw [q71] | rw [q72])) <;> (first | exact Nat.le_refl _ | exact q54 (by assumption) | exact q48 (by assumption))
  clear_value go to lost leave; simp only [Sem.runT_eq]
  split
  all_goals first
    | exact hleave _
    | exact hto _
    | exact hlost _
    | exact q707 _ _ _ _ _ _
    | exact q323 _ _ _ _ _ _ _
    | exact q708 _ _ _ _ (hleave _) hto
    | exact q708 _ _ _ _ (hlost _) fun _ => q323 _ _ _ _ _ _ _
    | ((repeat' split) <;> (repeat (first | rw [q57] | rw [gw_go] | rw [q103] | rw [q67] | rw [q68] | rw [q69] | rw [q70] | rw [q42] | rw [q29] | rw [q43] | rw [q71] | rw [q72])) <;> (repeat' split) <;> (repeat (first | rw [q57] | rw [gw_go] | rw [q103] | rw [q67] | rw [q68] | rw [q69] | rw [q70] | rw [q42] | rw [q29] | rw [q43] | rw [q71] | rw [q72])) <;> first
        | exact hleave _
        | exact hto _
        | exact hlost _
        | (first | exact Nat.le_refl _ | exact q54 (by assumption) | exact q48 (by assumption))
        | exact q707 _ _ _ _ _ _
        | exact hgo _ _ (Nat.le_refl _)
        | exact hgo _ _ (q54 (by assumption))
        | exact hgo _ _ (q48 (by assumption))
        | exact Nat.le_trans (q54 (by assumption)) (q323 _ _ _ _ _ _ _))
theorem q772 (p : Program) (main : Bool) (g : Goroutine) (w : World) (l : Bool) : w.drawn ≤ (gw (stepG p main g w l)).drawn := by
  unfold stepG; obtain ⟨fr, cs, st, dy, of⟩ := g; simp only
  split
  · exact die_up _ _ _ _
  · exact exec_up _ _ _ _ _ _ _
  · exact q706 _ _ _ _ _ _
def upS (d : Nat) : Stepped → Prop
  | .next m => d ≤ m.world.drawn
  | .ended _ _ => True
theorem q44 {d : Nat} {m : Machine} (h : d ≤ m.world.drawn) : upS d (.next m) := h
theorem q22 {d : Nat} {o : Outcome} {w : World} : upS d (.ended o w) := trivial
theorem q353 {d d' : Nat} {s : Stepped} (h : d ≤ d') (hs : upS d' s) : upS d s := by
  cases s with
  | next m => exact Nat.le_trans h hs
  | ended o w => trivial
theorem q525 (p : Program) (gs : Array Goroutine) (rest : Rest) (w : World) : upS w.drawn (look p gs rest w) := by
  unfold look
  split
  · split
    extract_lets set
    split
    split
    · exact q22
    · split
      · exact q22
      · extract_lets pick
        clear_value pick
        split
        · rename_i h
          exact q44 (q54 h : w.drawn ≤ _)
        · exact q22
        · exact q22
  · exact q22
theorem q354 {rest : Rest} {cs : Array CommCase} {w w' : World} (h : waitingAt rest cs w = some w') : w'.drawn = w.drawn := by
  unfold waitingAt at h
  split at h
  · split at h
    · simp only [Option.some.injEq] at h; subst h; rfl
    · contradiction
  · simp only [Option.some.injEq] at h; subst h; rfl
theorem q370 (p : Program) (rest : Rest) (gs : Array Goroutine) (i : Nat) (g : Goroutine) (cs : Array CommCase) (b : Bool) (s : CommShape) (w : World) :
    upS w.drawn (communicate p rest gs i g cs b s w).1 := by
  unfold communicate
  extract_lets put illMade me other ready pick
  have hput : ∀ g gs w' ops, w.drawn ≤ w'.drawn → upS w.drawn (put g gs w' ops).1 := fun _ _ _ _ h => h; clear_value put illMade me other ready pick
  split
  · exact q22
  · split
    · split
      · split
        · rename_i h
          exact q44 (Nat.le_of_eq (q354 h).symm)
        · exact q22
      · exact hput _ _ _ _ (Nat.le_refl _)
    · split
      · exact q22
      · rename_i h1
        have hl := q54 h1; clear h1; simp only
        (repeat' split) <;> first
          | exact q22
          | exact hput _ _ _ _ hl
          | (refine hput _ _ _ _ (Nat.le_trans hl ?_); (try dsimp only); exact q54 (by assumption))
          | (refine hput _ _ _ _ (Nat.le_trans hl ?_); (try dsimp only); exact q48 (by assumption))
theorem q526 (w : World) (c : Nat) : (drain w c).2.drawn = w.drawn := by
  unfold drain
  split <;> rfl
theorem q302 (m : Machine) (k : Nat) (t : Timer) (a b : Nat) : (retime m k t a b).2.world.drawn = m.world.drawn := by
  unfold retime; cases t.chan with
  | none => rfl
  | some c => exact q526 m.world c
theorem q435 {m m' : Machine} {op : TimerOp} {v : Value} (h : timerOp m op = .ok (v, m')) : m'.world.drawn = m.world.drawn := by
  have hn : ∀ (n : Machine) var f, (∀ k t, (f k t).2.world.drawn = n.world.drawn) → timerOp.named m var f = .ok (v, m') → m'.world.drawn = n.world.drawn := fun n var f hf h => by
    unfold timerOp.named at h
    split at h
    · simp only [Except.ok.injEq] at h
      rw [← hf, h]
    · contradiction
  unfold timerOp at h
  split at h
  · split at h
    · simp only [Except.ok.injEq, Prod.mk.injEq] at h
      obtain ⟨_, rfl⟩ := h; rfl
    · split at h
      · split at h
        · contradiction
        · simp only [Except.ok.injEq, Prod.mk.injEq] at h
          obtain ⟨_, rfl⟩ := h; rfl
      · contradiction
  · exact hn m _ _ (fun k t => q302 _ _ _ _ _) h
  · split at h
    · rename_i m2 ho
      have h2 := hn m2 _ _ (fun k t => q302 _ _ _ _ _) h; rw [h2]; unfold timerOp.opened at ho
      (repeat' split at ho) <;> first | contradiction | (simp only [Option.some.injEq] at ho; subst ho; rfl)
    · contradiction
  · simp only [Except.ok.injEq, Prod.mk.injEq] at h
    obtain ⟨_, rfl⟩ := h; rfl
theorem q773 (p : Program) (m : Machine) (k : Nat) : upS m.world.drawn (serve p m k) := by
  unfold serve
  split
  · exact q22
  · exact q44 (Nat.le_refl _)
  · simp only
    split
    · exact q22
    · exact q44 (Nat.le_refl _)
def upM (d : Nat) : Move → Prop
  | .goroutine m _ => d ≤ m.world.drawn
  | .machine s _ => upS d s
theorem q588 {d : Nat} {m : Machine} {i : Nat} (h : d ≤ m.world.drawn) : upM d (.goroutine m i) := h
theorem q144 {d : Nat} {s : Stepped} {o : Array MemOp} (h : upS d s) : upM d (.machine s o) := h
theorem q436 (p : Program) (m : Machine) : upM m.world.drawn (askOn p m) := by
  unfold askOn
  extract_lets mono rs ds pick
  have hp : ∀ m' : Machine, upM m'.world.drawn (pick m') := fun m' => by
    simp only [pick]
    split
    · exact q144 q22
    · rename_i h1
      have h1 := q54 h1
      split
      · exact q588 h1
      · split
        · exact q144 q22
        · rename_i h2
          exact q588 (Nat.le_trans h1 (q54 h2))
  have hp' : ∀ m' : Machine, m.world.drawn ≤ m'.world.drawn → upM m.world.drawn (pick m') := fun m' h => by
    have := hp m'; generalize pick m' = r at this; cases r with
    | goroutine m i => exact Nat.le_trans h this
    | machine s o => exact q353 h this
  clear_value pick; clear hp; clear_value rs ds mono
  split
  · exact q144 q22
  · rename_i h1
    have hl := q54 h1; clear h1; simp only
    split
    · exact q144 (q353 hl (q773 _ _ _))
    · split
      · split
        · exact q144 (q44 hl)
        · split
          · exact q144 (q44 hl)
          · split
            · exact q144 q22
            · exact q144 q22
      · split
        · exact hp' _ hl
        · split
          · exact q144 q22
          · rename_i h2
            have h2 := q54 h2; exact hp' _ (Nat.le_trans hl h2)
          · rename_i h2
            have h2 := q54 h2; exact q144 (q44 (Nat.le_trans hl h2))
          · rename_i h2
            have h2 := q54 h2; exact hp' _ (Nat.le_trans hl h2)
theorem q824 {d d' : Nat} {s : Move} (h : d ≤ d') (hs : upM d' s) : upM d s := by
  cases s with
  | goroutine m i => exact Nat.le_trans h hs
  | machine s o => exact q353 h hs
theorem q709 (p : Program) (m : Machine) : upM m.world.drawn (ask p m) := by
  unfold ask
  split
  · split
    · exact q144 q22
    · rename_i h1
      have h1 := q54 h1
      split
      · rename_i w' _ _ m' h2
        have h3 := q525 p m.gs m.rest w'; rw [h2] at h3; exact q824 (Nat.le_trans h1 h3) (q436 _ _)
      · rename_i w' _ _ _
        exact q144 (q353 h1 (q525 _ _ _ _))
    · rename_i h1
      have h1 := q54 h1; exact q824 h1 (q436 _ _)
  · exact q436 _ _
theorem move_up (p : Program) (m : Machine) : upM m.world.drawn (move p m) := by
  unfold move
  split
  · split
    · exact q588 (Nat.le_refl _)
    · exact q144 q22
  · split
    · split
      · exact q588 (Nat.le_refl _)
      · exact q709 _ _
    · exact q709 _ _
theorem runT_up (p : Program) (m : Machine) (i : Nat) (l : Bool) : upS m.world.drawn (runT p m i l).1 := by
  unfold runT
  extract_lets rest world
  split
  extract_lets wake fn pos s ops done
  have hs : m.world.drawn ≤ (gw s).drawn := q772 _ _ _ _ _; clear_value s; cases s <;> simp only [done] <;> simp only [gw] at hs
  case ended => exact q22
  case comm => exact q353 hs (q370 _ _ _ _ _ _ _ _ _)
  case go => exact q44 hs
  case spawn => exact q44 hs
  case count =>
    split
    · exact q22
    · exact q44 hs
  case alone => exact q44 hs
  case collect => exact q353 hs (q525 _ _ _ _)
  case watch => exact q44 hs
  case newcoro => exact q44 hs
  case coroswitch =>
    split
    · exact q44 hs
    · split
      · rename_i g w es he
        have h := congrArg gw he; rw [q166] at h; simp only [gw] at h; exact q44 (h ▸ hs)
      · exact q22
    · exact q22
  case timer =>
    split
    · rename_i ht
      exact q44 (Nat.le_trans hs (Nat.le_of_eq (q435 ht).symm))
    · split
      · rename_i g w es he
        have h := congrArg gw he; rw [q166] at h; simp only [gw] at h; exact q44 (h ▸ hs)
      · exact q22
    · exact q22
    · exact q22
theorem step_up (p : Program) (m : Machine) : upS m.world.drawn (step p m) := by
  unfold step stepT; have h := move_up p m; generalize move p m = r at h; cases r with
  | goroutine m' i => exact q353 h (runT_up _ _ _ _)
  | machine s o => exact h
theorem step_le {P : Program} {m m' : Machine} (h : step P m = .next m') : m.world.drawn ≤ m'.world.drawn := by
  have h1 := step_up P m; rw [h] at h1; exact h1
theorem q589 {P : Program} {m m' : Machine} (h : Steps P m m') : m.world.drawn ≤ m'.world.drawn := by
  have h2 := StepsIn.of_steps h; clear h
  induction h2 with
  | refl => exact Nat.le_refl _
  | head _ hs _ ih => exact Nat.le_trans (step_le hs) ih
theorem Calls.grows {P : Program} {f : FuncId} {args : Array Value} {w : World} {R : Ending → World → Prop} (h : Calls P f args w R) (ho : ∀ w', ¬ R .outgrown w') :
    Calls P f args w fun e w' => R e w' ∧ w.drawn ≤ w'.drawn := fun cs => by
  obtain ⟨e, w', fr, hR, hc, hf, hl⟩ := h cs; refine ⟨e, w', fr, ⟨hR, ?_⟩, hc, hf, hl⟩; cases e with
  | returned v => exact q589 hc
  | panicked c => exact q589 hc
  | outgrown => exact absurd hR (ho w')
end Go.Proofs.YtbcembjnddnneaaGreatDoor
namespace Go.Proofs.YtbcembjnddnneaaGreatDoor
open Go.RowKit
def R0 (_ : Value) : Option (DataW Unit × List MemPlace) := some (.nil, [])
theorem EsR.keysZ {ν : Type} [Dt ν] {H : Hp} {va : Bool} : ∀ {l : List (Int × ν)} {i : Nat} {es : List MapEntry}, EsR (κ := Int) (ν := ν) H false va i es l → (es.map fun x => x.key) = l.map fun p => Value.int .i64 p.1
  | [], _, _, h => by
    have h : _ = [] := h; rw [h]; rfl
  | p :: l, _, _, ⟨e, r, h1, h2, ⟨ss, f, h3, h4⟩, h5, h6⟩ => by
    cases h3; rw [h1, List.map_cons, List.map_cons, EsR.keysZ h6, h4]; rfl
theorem wfZ {a : Int} (h : inI a) : (Lit.int .i64 a).wf = true := by
  obtain ⟨h1, h2⟩ := h; simp only [Lit.wf, Bool.and_eq_true, decide_eq_true_eq]; exact ⟨h1, h2⟩
theorem owns_of {P : Program} {K : TypeId} (hK : P.underlying K = some (.int .i64)) {ν : Type} [Dt ν] {H : Hp} {va : Bool} {w : World} {m : Nat} {es : List MapEntry} {l : List (Int × ν)} (hm : w.heap[m]? = some (.map es.toArray es.length)) (he : EsR (κ := Int) (ν := ν) H false va 0 es l) (hnd : (l.map fun p => p.1).Nodup) (hok : ∀ p, p ∈ l → inI p.1) (hlen : l.length ≤ maxLen) :
    ∃ D : DataW Unit, w.ownsMap P K R0 m l.length D ∧ Maps.size D = l.length ∧ (intKeys D).Perm (l.map fun p => p.1) := by
  have hk := he.keysZ; have hl := he.len; have hb := he.born
  have hrd : ∀ x ∈ es, ∃ a, inI a ∧ x.key = .int .i64 a := fun x hx => by
    have : x.key ∈ l.map fun p => Value.int .i64 p.1 := by rw [← hk]; exact List.mem_map_of_mem hx
    obtain ⟨p, hp, e⟩ := List.mem_map.1 this; exact ⟨p.1, hok p hp, e.symm⟩
  have hrg : (es.map (Go.WideElems.rg P K R0)).map (fun p => Go.intOf p.1) = l.map fun p => p.1 := by
    have h1 : (es.map (Go.WideElems.rg P K R0)).map (fun p => Go.intOf p.1) = (es.map fun x => x.key).map fun v => match v with | .int _ a => a | _ => 0 := by
      rw [List.map_map, List.map_map]; refine List.map_congr_left fun x hx => ?_; obtain ⟨a, h1, h2⟩ := hrd x hx; have h3 : Go.WideElems.rd P K R0 x = some (.int .i64 a, (.nil : DataW Unit)) := Go.WideElems.rd_mk (key := x.key) (val := x.val) (born := x.born) (yv := (.nil, [])) (by rw [h2]; exact Maps.keyOf_int_mk hK (wfZ h1)) rfl; have h4 : Go.WideElems.rg P K R0 x = (.int .i64 a, .nil) := Go.WideElems.rg_of h3; simp only [Function.comp, h4, h2, Go.intOf]
    rw [h1, hk, List.map_map]; rfl
  refine ⟨_, ⟨es.toArray, es.length, hm, ⟨by simpa [hl] using hlen, ⟨fun x hx => ?_, ?_, ?_⟩, fun x hx => ?_⟩, by simp [hl], rfl⟩, ?_, ?_⟩
  · have : x.born ∈ es.map (·.born) := List.mem_map_of_mem (by simpa using hx)
    rw [hb, List.mem_range'_1] at this; omega
  · show (es.map (·.born)).Nodup
    rw [hb]; exact List.nodup_range'
  · show (es.map fun x => x.key).Nodup
    rw [hk]; have : (l.map fun p => Value.int .i64 p.1) = (l.map fun p => p.1).map fun a => Value.int .i64 a := by rw [List.map_map]; rfl
    rw [this]; exact List.pairwise_map.2 (hnd.imp fun h e => h (by cases e; rfl))
  · obtain ⟨a, h1, h2⟩ := hrd x (by simpa using hx)
    exact ⟨_, Go.WideElems.rd_mk (key := x.key) (val := x.val) (born := x.born) (by rw [h2]; exact Maps.keyOf_int_mk hK (wfZ h1)) rfl⟩
  · show (((es.map (Go.WideElems.rg P K R0)).foldr DataW.insert []).length) = l.length
    rw [(Go.WideShapes.sorted_perm _).length_eq, List.length_map, hl]
  · show (((es.map (Go.WideElems.rg P K R0)).foldr DataW.insert []).map fun p => Go.intOf p.1).Perm _
    rw [← hrg]; exact (Go.WideShapes.sorted_perm _).map _
theorem q612 {l l' : List Int} (h : l.Perm l') : l.mergeSort (fun x y => decide (x ≤ y)) = sortZ l' := by
  refine List.Perm.eq_of_pairwise (le := fun a b => a ≤ b) (fun a b _ _ h1 h2 => Int.le_antisymm h1 h2) ?_ (q193 l') (((List.mergeSort_perm l _).trans h).trans (q210 l').symm); have := List.pairwise_mergeSort (le := fun x y : Int => decide (x ≤ y)) (fun a b c h1 h2 => by simp only [decide_eq_true_eq] at *; exact Int.le_trans h1 h2) (fun a b => by simp only [Bool.or_eq_true, decide_eq_true_eq]; exact Int.le_total a b) l; exact this.imp fun h => by simpa using h
theorem DtL.ofZ {H : Hp} : ∀ l : List Int, DtL (α := Int) H (l.map encZ) l
  | [] => rfl
  | x :: l => ⟨[encZ x], l.map encZ, rfl, rfl, DtL.ofZ l⟩
end Go.Proofs.YtbcembjnddnneaaGreatDoor
namespace Go.Proofs.YtbcembjnddnneaaGreatDoor
open Go.RowKit Go.Maps Go.Sort Go.Shelf
def Tryz.keysA115_ren : Go.Shelf.Ren := ⟨fun | 7 => 116 | 10 => 131 | n => n, fun | 23 => 152 | 26 => 3 | 3 => 154 | 28 => 174 | 0 => 0 | 27 => 173 | 33 => 80 | 4 => 4 | n => n, fun | n => n⟩
theorem Tryz.keysA115 : Go.Proofs.SlLaysZI.n7 Tryz.prog Tryz.keysA115_ren := {
  mixed := by kernel_rfl
  f7 := ⟨Tryz.f116.name, by decide, Tryz.func116.trans (congrArg some (by kernel_rfl))⟩
  f10 := ⟨Tryz.f131.name, by decide, Tryz.func131.trans (congrArg some (by kernel_rfl))⟩
  t0 := Tryz.underlying0
  a0 := Tryz.isAgg0
  z0 := Tryz.sizeOf0
  v0 := Tryz.zeroValue0
  t4 := Tryz.underlying4
  a4 := Tryz.isAgg4
  z4 := Tryz.sizeOf4
  v4 := Tryz.zeroValue4
  t23 := Tryz.underlying152
  a23 := Tryz.isAgg152
  z23 := Tryz.sizeOf152
  v23 := Tryz.zeroValue152
  t26 := Tryz.underlying3
  a26 := Tryz.isAgg3
  z26 := Tryz.sizeOf3
  v26 := Tryz.zeroValue3
  t27 := Tryz.underlying173
  a27 := Tryz.isAgg173
  z27 := Tryz.sizeOf173
  v27 := Tryz.zeroValue173
  t28 := Tryz.underlying174
  a28 := Tryz.isAgg174
  z28 := Tryz.sizeOf174
  v28 := Tryz.zeroValue174
  t33 := Tryz.underlying80
  a33 := Tryz.isAgg80
  z33 := Tryz.sizeOf80
  v33 := Tryz.zeroValue80 }
def Tryz.sortedA115_ren : Go.Shelf.Ren := ⟨fun | 6 => 115 | 8 => 129 | 9 => 130 | 11 => 150 | 13 => 127 | 12 => 151 | 23 => 148 | 24 => 149 | 14 => 159 | 15 => 160 | 16 => 161 | 17 => 162 | 18 => 163 | 19 => 164 | 20 => 165 | 21 => 166 | 22 => 167 | 25 => 169 | 26 => 155 | 27 => 156 | 28 => 170 | 29 => 171 | 30 => 128 | 31 => 172 | n => n, fun | 26 => 3 | 28 => 174 | 24 => 33 | 0 => 0 | 3 => 3 | 37 => 204 | 48 => 223 | 50 => 197 | 4 => 4 | 40 => 216 | 39 => 215 | 45 => 220 | 5 => 5 | 9 => 9 | 51 => 229 | 55 => 233 | 57 => 240 | 58 => 81 | 33 => 80 | n => n, fun | n => n⟩
theorem Tryz.sortedA115 : Go.Proofs.SlLaysZI.n6 Tryz.prog Tryz.sortedA115_ren := {
  mixed := by kernel_rfl
  f6 := ⟨Tryz.f115.name, by decide, Tryz.func115.trans (congrArg some (by kernel_rfl))⟩
  f8 := ⟨Tryz.f129.name, by decide, Tryz.func129.trans (congrArg some (by kernel_rfl))⟩
  f11 := ⟨Tryz.f150.name, by decide, Tryz.func150.trans (congrArg some (by kernel_rfl))⟩
  t0 := Tryz.underlying0
  a0 := Tryz.isAgg0
  z0 := Tryz.sizeOf0
  v0 := Tryz.zeroValue0
  t24 := Tryz.underlying33
  a24 := Tryz.isAgg33
  z24 := Tryz.sizeOf33
  v24 := Tryz.zeroValue33
  t26 := Tryz.underlying3
  a26 := Tryz.isAgg3
  z26 := Tryz.sizeOf3
  v26 := Tryz.zeroValue3
  t28 := Tryz.underlying174
  a28 := Tryz.isAgg174
  z28 := Tryz.sizeOf174
  v28 := Tryz.zeroValue174
  i26 := by kernel_rfl }
def Tryz.sortA115_ren : Go.Shelf.Ren := ⟨fun | 5 => 130 | 8 => 127 | 7 => 151 | 19 => 148 | 20 => 149 | 10 => 159 | 11 => 160 | 12 => 161 | 13 => 162 | 14 => 163 | 15 => 164 | 16 => 165 | 17 => 166 | 18 => 167 | 30 => 169 | 31 => 155 | 32 => 156 | 33 => 170 | 34 => 171 | 35 => 128 | 40 => 172 | n => n, fun | 23 => 33 | 25 => 3 | 3 => 3 | 32 => 204 | 22 => 33 | 0 => 0 | 44 => 223 | 46 => 197 | 4 => 4 | 36 => 216 | 35 => 215 | 41 => 220 | 5 => 5 | 9 => 9 | 53 => 229 | 57 => 233 | 63 => 240 | 64 => 81 | n => n, fun | n => n⟩
theorem Tryz.sortA115 : Go.Proofs.SlLaysM.n5 Tryz.prog Tryz.sortA115_ren := {
  mixed := by kernel_rfl
  f5 := ⟨Tryz.f130.name, by decide, Tryz.func130.trans (congrArg some (by kernel_rfl))⟩
  f7 := ⟨Tryz.f151.name, by decide, Tryz.func151.trans (congrArg some (by kernel_rfl))⟩
  f8 := Tryz.func127.trans (congrArg some (by kernel_rfl))
  f10 := ⟨Tryz.f159.name, by decide, Tryz.func159.trans (congrArg some (by kernel_rfl))⟩
  f11 := ⟨Tryz.f160.name, by decide, Tryz.func160.trans (congrArg some (by kernel_rfl))⟩
  f12 := ⟨Tryz.f161.name, by decide, Tryz.func161.trans (congrArg some (by kernel_rfl))⟩
  f13 := ⟨Tryz.f162.name, by decide, Tryz.func162.trans (congrArg some (by kernel_rfl))⟩
  f14 := ⟨Tryz.f163.name, by decide, Tryz.func163.trans (congrArg some (by kernel_rfl))⟩
  f15 := ⟨Tryz.f164.name, by decide, Tryz.func164.trans (congrArg some (by kernel_rfl))⟩
  f16 := ⟨Tryz.f165.name, by decide, Tryz.func165.trans (congrArg some (by kernel_rfl))⟩
  f17 := ⟨Tryz.f166.name, by decide, Tryz.func166.trans (congrArg some (by kernel_rfl))⟩
  f18 := ⟨Tryz.f167.name, by decide, Tryz.func167.trans (congrArg some (by kernel_rfl))⟩
  f19 := Tryz.func148.trans (congrArg some (by kernel_rfl))
  f20 := Tryz.func149.trans (congrArg some (by kernel_rfl))
  f30 := ⟨Tryz.f169.name, by decide, Tryz.func169.trans (congrArg some (by kernel_rfl))⟩
  f31 := Tryz.func155.trans (congrArg some (by kernel_rfl))
  f32 := Tryz.func156.trans (congrArg some (by kernel_rfl))
  f33 := ⟨Tryz.f170.name, by decide, Tryz.func170.trans (congrArg some (by kernel_rfl))⟩
  f34 := ⟨Tryz.f171.name, by decide, Tryz.func171.trans (congrArg some (by kernel_rfl))⟩
  f35 := ⟨Tryz.f128.name, by decide, Tryz.func128.trans (congrArg some (by kernel_rfl))⟩
  f40 := ⟨Tryz.f172.name, by decide, Tryz.func172.trans (congrArg some (by kernel_rfl))⟩
  t0 := Tryz.underlying0
  a0 := Tryz.isAgg0
  z0 := Tryz.sizeOf0
  v0 := Tryz.zeroValue0
  t3 := Tryz.underlying3
  a3 := Tryz.isAgg3
  z3 := Tryz.sizeOf3
  v3 := Tryz.zeroValue3
  t4 := Tryz.underlying4
  a4 := Tryz.isAgg4
  z4 := Tryz.sizeOf4
  v4 := Tryz.zeroValue4
  t5 := Tryz.underlying5
  a5 := Tryz.isAgg5
  z5 := Tryz.sizeOf5
  v5 := Tryz.zeroValue5
  t9 := Tryz.underlying9
  a9 := Tryz.isAgg9
  z9 := Tryz.sizeOf9
  v9 := Tryz.zeroValue9
  t22 := Tryz.underlying33
  a22 := Tryz.isAgg33
  z22 := Tryz.sizeOf33
  v22 := Tryz.zeroValue33
  t23 := Tryz.underlying33
  a23 := Tryz.isAgg33
  z23 := Tryz.sizeOf33
  v23 := Tryz.zeroValue33
  t25 := Tryz.underlying3
  a25 := Tryz.isAgg3
  z25 := Tryz.sizeOf3
  v25 := Tryz.zeroValue3
  t32 := Tryz.underlying204
  a32 := Tryz.isAgg204
  z32 := Tryz.sizeOf204
  v32 := Tryz.zeroValue204
  t35 := Tryz.underlying215
  a35 := Tryz.isAgg215
  z35 := Tryz.sizeOf215
  v35 := Tryz.zeroValue215
  t36 := Tryz.underlying216
  a36 := Tryz.isAgg216
  z36 := Tryz.sizeOf216
  v36 := Tryz.zeroValue216
  t41 := Tryz.underlying220
  a41 := Tryz.isAgg220
  z41 := Tryz.sizeOf220
  v41 := Tryz.zeroValue220
  t44 := Tryz.underlying223
  a44 := Tryz.isAgg223
  z44 := Tryz.sizeOf223
  v44 := Tryz.zeroValue223
  t46 := Tryz.underlying197
  a46 := Tryz.isAgg197
  z46 := Tryz.sizeOf197
  v46 := Tryz.zeroValue197
  t53 := Tryz.underlying229
  a53 := Tryz.isAgg229
  z53 := Tryz.sizeOf229
  v53 := Tryz.zeroValue229
  t57 := Tryz.underlying233
  a57 := Tryz.isAgg233
  z57 := Tryz.sizeOf233
  v57 := Tryz.zeroValue233
  t63 := Tryz.underlying240
  a63 := Tryz.isAgg240
  z63 := Tryz.sizeOf240
  v63 := Tryz.zeroValue240
  t64 := Tryz.underlying81
  a64 := Tryz.isAgg81
  z64 := Tryz.sizeOf81
  v64 := Tryz.zeroValue81 }
theorem q774 (m : Nat) : AnyZI.SortsIn Tryz.prog Tryz.sortedA115_ren Fence.wide m :=
  ⟨fun blk off cap ss W hH hblk hsz => callsIn_wide.2 (AnyM.slices_Sort_int Tryz.sortA115 blk off cap ss W hH hblk hsz), fun p cap W => callsIn_wide.2 (AnyM.slices_Sort_int_none Tryz.sortA115 p cap W)⟩
theorem skh115 {ν : Type} [Dt ν] {H : Hp} {va : Bool} {w : World} {bx m T : Nat} {es : List MapEntry} {l : List (Int × ν)} (hbx : w.heap[bx]? = some (.cells #[.map (some m)] T (0, 0))) (hm : w.heap[m]? = some (.map es.toArray es.length)) (he : EsR (κ := Int) (ν := ν) H false va 0 es l) (hnd : (l.map fun p => p.1).Nodup) (hok : ∀ p, p ∈ l → inI p.1) (hlen : lenOk l.length 8) :
    Calls Tryz.prog 115 #[.func (.func 131) #[] #[.pointer (some ⟨bx, 0, none⟩)]] w fun e w' => ∃ v s, e = .returned v ∧ Below w.heap.size w w' ∧ w'.ownsRow w.heap.size 3 1 v (sortZ (l.map fun p => p.1)).length s ∧ DtL (α := Int) H s (sortZ (l.map fun p => p.1)) := by
  obtain ⟨D0, hown, hsz, hperm⟩ := owns_of (P := Tryz.prog) (K := 3) (by kernel_rfl) hm he hnd hok hlen.2; have hcell : w.cell? ⟨bx, 0, none⟩ = some (.map (some m)) := by simp [World.cell?, hbx]
  have hseq : SeqGives Fence.wide 2 Tryz.prog 131 #[.pointer (some ⟨bx, 0, none⟩)] encZ (fun ss => ss.Perm (intKeys D0)) (Maps.size D0) w :=
    AnyZI.keys_gives (ρ := Tryz.keysA115_ren) { Tryz.keysA115 with } Fence.wide _ trivial rfl (by omega) bx m l.length D0 _ (q30 hbx) hcell hown
  have cS := AnyZI.sorted_in Tryz.sortedA115 Fence.wide 5 trivial trivial trivial trivial rfl (by omega) (q774 _) (enters_of Tryz.func130 (by kernel_rfl) rfl) 131 #[.pointer (some ⟨bx, 0, none⟩)] trivial (enters_of Tryz.func131 (by kernel_rfl) rfl) _ _ (by rw [hsz]; exact hlen.2) (by rw [hsz]; exact hlen.1) _ hseq; change CallsIn _ _ Tryz.prog 115 _ _ _ at cS; have cG := Calls.grows (callsIn_wide.1 cS) fun w' ⟨_, _, h, _⟩ => by cases h
  refine cG.mono fun e w' ⟨⟨v, ss, h1, h2, h3, h4, h5⟩, hd⟩ => ?_; have hs := q612 (h2.trans hperm); have hn : ss.length = (sortZ (l.map fun p => p.1)).length := by rw [← hs, List.length_mergeSort]
  rw [hs, hn] at h3; exact ⟨v, _, h1, ⟨h5, hd⟩, h3, DtL.ofZ _⟩
theorem q710 : sk115.Ok Tryz.prog := fun _ _ _ _ _ _ _ hbx hm he hnd hok hlen => skh115 hbx hm he hnd hok hlen
end Go.Proofs.YtbcembjnddnneaaGreatDoor
namespace Go.Proofs.YtbcembjnddnneaaGreatDoor
open Go.RowKit
section
section
variable {α : Type} [Inhabited α]
theorem q711 (enc : α → Value) {w : World} {g : Nat} (off : Nat) (d : Array α) {cur : Array Value} {e : TypeId} {fr : Nat × Nat} (h : w.heap[g]? = some (.cells cur e fr)) : (Sort.putRow enc w g off d).heap[g]? = some (.cells (Sort.putCells enc off d cur) e fr) := by
  simp [Sort.putRow, Sort.mapBlock, Array.getElem?_modify, h, Sort.onCells]
theorem q712 (enc : α → Value) {w : World} {g : Nat} (off m : Nat) (d : Array α) (os : Array Obj) {cur : Array Value} {e : TypeId} {fr : Nat × Nat} (h : w.heap[g]? = some (.cells cur e fr)) : (Sort.grow (Sort.putRow enc (Sort.ahead w m) g off d) os).heap[g]? = some (.cells (Sort.putCells enc off d cur) e fr) := by
  have h1 := q711 enc (w := Sort.ahead w m) off d h; rw [Sort.heap_grow_old _ _ (q30 h1)]; exact h1
theorem q397 (enc : α → Value) {w : World} {g k : Nat} (off m : Nat) (d : Array α) (os : Array Obj) (hk : k < w.heap.size) (hne : k ≠ g) : (Sort.grow (Sort.putRow enc (Sort.ahead w m) g off d) os).heap[k]? = w.heap[k]? := by
  have hs : k < (Sort.putRow enc (Sort.ahead w m) g off d).heap.size := by simpa [Sort.putRow, Sort.mapBlock, Sort.ahead] using hk
  rw [Sort.heap_grow_old _ _ hs]; simp [Sort.putRow, Sort.mapBlock, Array.getElem?_modify, Sort.ahead, hne.symm]
theorem q478 (enc : α → Value) {w : World} {g : Nat} (off m : Nat) (d : Array α) (os : Array Obj) : w.grownBy (Sort.grow (Sort.putRow enc (Sort.ahead w m) g off d) os) (some g) :=
  ⟨rfl, rfl, rfl, by simp [Sort.grow, Sort.putRow, Sort.mapBlock, Sort.ahead], fun k hk hne => q397 enc off m d os hk (fun e => hne (by rw [e]))⟩
theorem q437 (enc : α → Value) (d : Array α) (cur : Array Value) (h : d.size ≤ cur.size) : (Sort.putCells enc 0 d cur).toList.take d.size = d.toList.map enc := by
  apply List.ext_getElem?
  intro i; by_cases hi : i < d.size
  · rw [List.getElem?_take_of_lt hi]
    have hc : i < cur.size := by omega
    simp [Sort.putCells, hi, hc]
  · rw [List.getElem?_eq_none, List.getElem?_eq_none]
    · simpa using hi
    · simp; omega
theorem q527 (enc : α → Value) {w : World} {base : Nat} {e : TypeId} {k g n cap : Nat} {s : List Value} (m : Nat) (d : Array α) (os : Array Obj) (ho : w.ownsRow base e k (.slice (some ⟨g, 0, none⟩) n cap) n s) (hd : d.size = n * k) :
    (Sort.grow (Sort.putRow enc (Sort.ahead w m) g 0 d) os).ownsRow base e k (.slice (some ⟨g, 0, none⟩) n cap) n (d.toList.map enc) := by
  obtain ⟨h1, ⟨h2, _⟩ | ⟨g', cap', cur, h2, h3, h4, h5, h6, h7, h8⟩⟩ := ho
  · cases h2
  · cases h2
    refine ⟨by simp [hd], .inr ⟨g, cap, Sort.putCells enc 0 d cur, rfl, h3, q712 enc 0 m d os h4, h5, h6, by simp [Sort.putCells, h7], ?_⟩⟩; rw [← hd]; exact q437 enc d cur (by rw [hd, h7]; exact Nat.mul_le_mul_right _ h5)
theorem q613 {enc : α → Value} {w : World} {base : Nat} {e : TypeId} {k g n cap : Nat} {s : List Value} {d : Array α} (ho : w.ownsRow base e k (.slice (some ⟨g, 0, none⟩) n cap) n s) (hs : s = d.toList.map enc) : Sort.Holds enc w g 0 d ∧ g < w.heap.size := by
  obtain ⟨h1, ⟨h2, _⟩ | ⟨g', cap', cur, h2, h3, h4, h5, h6, h7, h8⟩⟩ := ho
  · cases h2
  · cases h2
    refine ⟨fun j hj => ?_, q30 h4⟩; have hn : d.size = n * k := by rw [← h1, hs]; simp
    have hc : cur[j]? = some (enc d[j]!) := by
      have h9 : (cur.toList.take (n * k))[j]? = some (enc d[j]!) := by
        rw [h8, hs, List.getElem?_map]; simp [hj]
      rw [List.getElem?_take_of_lt (by omega)] at h9; simpa using h9
    refine ⟨?_, ?_⟩
    · simp [World.cell?, h4, hc]
    · simp only [World.frozen?, h4]; simp
end
end
section
theorem Below.grow {w w' : World} (h : Below w.heap.size w w') : ∃ q os, w' = Sort.grow (w.drewN q) os := by
  refine ⟨w'.drawn - w.drawn, w'.heap.extract w.heap.size w'.heap.size, ?_⟩; have hs := h.size; have hd := h.dr
  have e1 : w'.heap = w.heap ++ w'.heap.extract w.heap.size w'.heap.size := by
    apply Array.ext_getElem?
    intro i; by_cases hi : i < w.heap.size
    · rw [h.block i hi, Array.getElem?_append_left hi]
    · rw [Array.getElem?_append_right (by omega)]
      by_cases hj : i < w'.heap.size
      · rw [Array.getElem?_eq_getElem hj, Array.getElem?_eq_getElem (by simp; omega)]
        congr 1
        simp only [Array.getElem_extract]
        congr 1
        omega
      · rw [Array.getElem?_eq_none (by omega), Array.getElem?_eq_none (by simp; omega)]
  have e2 : w'.drawn = w.drawn + (w'.drawn - w.drawn) := by omega
  obtain ⟨heap, tape, drawn, os, output⟩ := w'; have h1 : os = w.os := h.os; have h2 : tape = w.tape := h.tape; have h3 : output = w.output := h.output; subst h1 h2 h3; unfold Sort.grow World.drewN; simp only at e1 e2 ⊢; rw [← e1, ← e2]
section
variable {α : Type}
theorem q222 {enc : α → List Value} {k : Nat} (hk : ∀ x, (enc x).length = k) : ∀ l : List α, (l.flatMap enc).length = l.length * k
  | [] => by simp
  | x :: l => by rw [List.flatMap_cons, List.length_append, hk, q222 hk l, List.length_cons, Nat.succ_mul, Nat.add_comm]
theorem q355 {enc : α → List Value} {k : Nat} (hk : ∀ x, (enc x).length = k) : ∀ (l : List α) (t : Nat) (_ : t < l.length * k), (l.flatMap enc)[t]? = (l[t / k]?).bind fun x => (enc x)[t % k]?
  | [], t, h => by simp at h
  | x :: l, t, h => by
    have k0 : 0 < k := by rcases Nat.eq_zero_or_pos k with h0 | h0; · subst h0; simp at h
                          · exact h0
    rw [List.flatMap_cons]; by_cases ht : t < k
    · rw [List.getElem?_append_left (by rw [hk]; exact ht), Nat.div_eq_of_lt ht, Nat.mod_eq_of_lt ht]
      rfl
    · have e1 : t / k = (t - k) / k + 1 := by rw [Nat.div_eq_sub_div k0 (by omega)]
      have e2 : t % k = (t - k) % k := by rw [Nat.mod_eq_sub_mod (by omega)]
      rw [List.getElem?_append_right (by rw [hk]; omega), hk, q355 hk l (t - k) (by rw [List.length_cons, Nat.succ_mul] at h; omega), e1, e2]; rfl
variable [Inhabited α]
theorem q398 {enc : α → List Value} {k : Nat} (hk : ∀ x, (enc x).length = k) (d : Array α) : (Sort.flatK enc k d).toList = d.toList.flatMap enc := by
  have hl := q222 hk d.toList
  apply List.ext_getElem?
  intro t; by_cases ht : t < d.size * k
  · have k0 : 0 < k := by rcases Nat.eq_zero_or_pos k with h0 | h0; · subst h0; simp at ht
                          · exact h0
    have hd : t / k < d.size := (Nat.div_lt_iff_lt_mul k0).2 ht; have hm : t % k < k := Nat.mod_lt _ k0; rw [q355 hk _ t (by rw [Array.length_toList]; exact ht)]; have e1 := Sort.get_flatK enc k d t ht; have e2 : t < (Sort.flatK enc k d).size := by rw [Sort.size_flatK]; exact ht
    rw [getElem!_pos (Sort.flatK enc k d) t e2] at e1; rw [Array.getElem?_toList, Array.getElem?_eq_getElem e2, e1, Array.getElem?_toList, Array.getElem?_eq_getElem hd]; have e3 : d[t / k]! = d[t / k] := getElem!_pos d _ hd; rw [e3]; have e4 : t % k < (enc d[t / k]).length := by rw [hk]; exact hm
    show some ((enc d[t / k])[t % k]!) = (enc d[t / k])[t % k]?; rw [getElem!_pos (enc d[t / k]) _ e4, List.getElem?_eq_getElem e4]
  · rw [List.getElem?_eq_none, List.getElem?_eq_none]
    · rw [hl, Array.length_toList]; omega
    · rw [Array.length_toList, Sort.size_flatK]; omega
end
theorem DtL.enc {α : Type} [Dt α] {enc : α → List Value} (he : ∀ H cs (x : α), Dt.rd H cs x → cs = enc x) {H : Hp} : ∀ {xs : List α} {cs : List Value}, DtL H cs xs → cs = xs.flatMap enc
  | [], _, h => h
  | _ :: _, _, ⟨_, _, h, h1, h2⟩ => by rw [h, he _ _ _ h1, DtL.enc he h2]; rfl
theorem DtL.ofEnc {α : Type} [Dt α] {enc : α → List Value} (he : ∀ H (x : α), Dt.rd H (enc x) x) {H : Hp} : ∀ (xs : List α), DtL H (xs.flatMap enc) xs
  | [] => rfl
  | x :: xs => ⟨enc x, xs.flatMap enc, rfl, he H x, DtL.ofEnc he xs⟩
end
def cmpI (a b : Int) : Int := if a < b then -1 else if b < a then 1 else 0
theorem cmpI_lt {a b : Int} : cmpI a b < 0 ↔ a < b := by unfold cmpI; split <;> (try split) <;> omega
theorem q614 {α : Type} [Inhabited α] {lt : α → α → Bool} {d d' : Array α} (hp : Sort.PermIn 0 d.size d d') (hs : Sort.SortedIn lt 0 d.size d') : d'.toList.Perm d.toList ∧ d'.toList.Pairwise (fun x y => lt y x = false) := by
  obtain ⟨h1, _, h3⟩ := hp; constructor
  · rw [Array.extract_eq_self_of_le (by omega), Array.extract_eq_self_of_le (by omega)] at h3
    exact h3
  · refine List.pairwise_iff_getElem.2 fun i j hi hj hij => ?_
    rw [Array.length_toList] at hi hj; have := hs i j (Nat.zero_le _) hij (by omega); rw [getElem!_pos d' i hi, getElem!_pos d' j hj] at this; simpa using this
theorem cmpI_W (a b : Int) {Φ : Int → Prop} (h : Φ (cmpI a b)) : Z82 a b Φ := by
  unfold cmpI at h; unfold Z82 Z81; refine ⟨fun e => absurd e (by simp), fun _ => ⟨fun e => absurd e (by simp), fun _ => ⟨fun e => ?_, fun e => ⟨fun e2 => ?_, fun e2 => ?_⟩⟩⟩⟩
  · rw [if_pos e] at h; exact h
  · rw [if_neg e, if_pos e2] at h; exact h
  · rw [if_neg e, if_neg e2] at h; exact h
def cmpE (a b : q11) : Int := cmpI a.at_ b.at_
theorem q775 (x y : q11) : Z83 x y fun v => v = cmpE x y := by
  unfold Z83; exact cmpI_W _ _ rfl
theorem ltEn (a b : q11) : ltOf cmpE a b = decide (a.at_ < b.at_) := by
  unfold ltOf; exact decide_eq_decide.2 cmpI_lt
theorem swoE : Sort.SWO (ltOf cmpE) where
  irrefl x := by rw [ltEn]; simp
  trans x y z h1 h2 := by rw [ltEn] at *; simp only [decide_eq_true_eq] at *; omega
  ntrans x y z h1 h2 := by rw [ltEn] at *; simp only [decide_eq_false_iff_not] at *; omega
theorem leE {a b : q11} (h : ltOf cmpE b a = false) : a.at_ ≤ b.at_ := by
  rw [ltEn] at h; simp only [decide_eq_false_iff_not] at h; omega
end Go.Proofs.YtbcembjnddnneaaGreatDoor
